/-
  The document's package for a sealed text: full, eight (the walks).
-/
import Derived.Test.YtebmbapaedlmiaaDoorSAdO
import Derived.Test.YtebmbapaedlmiaaDoorSAeV
namespace Go.Proofs.YtebmbapaedlmiaaDoor
open Go.RowKit Ae
set_option linter.unusedVariables false

/-- A row of bytes of one's own, and nothing old is changed. -/
structure BW (w wr : World) (v : Value) (l : List Nat) : Prop where
  own : wr.ownsRow 0 5 1 v l.length (bl l)
  ge : ∀ i, v.ownBlock = some i → w.heap.size ≤ i
  c : Chg Nowhere w wr
theorem BW.chg {w wr w2 : World} {l : List Nat} {v : Value} (h : BW w wr v l) (hc : Chg Nowhere wr w2) : BW w w2 v l :=
  ⟨own_chg h.own hc (fun _ _ => not_nowhere _), h.ge, h.c.then_none hc⟩
theorem BW.app {w wr : World} {l m : List Nat} {v x : Value} (h : BW w wr v l) (hx : RdB wr x m) (hn : l.length + m.length ≤ 400000000) :
    ∃ v' w', (Builtin.append_ #[26, 26] 26 #[v, x]).run Tryd.prog wr = .ok v' w' ∧ BW w w' v' (l ++ m) := by
  obtain ⟨v', w', h1, h2, hg, hob⟩ := append_rd wr 26 v x l.length (bl l) m h.own hx hn
  rw [← bl_append, ← List.length_append] at h2
  exact ⟨v', w', h1, h2, fun i hi => by
    rcases hob with e | e <;> rw [e] at hi
    · exact h.ge i hi
    · injection hi with e2
      have := h.c.size
      omega, h.c.grown hg (fun k hk => .inl (h.ge k hk))⟩
theorem rd_one (wr : World) (y : Nat) : RdB (wr.alloc (.cells #[.int .u8 (y : Int)] 5)) (.slice (some ⟨wr.heap.size, 0, none⟩) 1 1) [y] := by
  refine ⟨rfl, _, 1, rfl, Nat.le_refl _, fun _ => ⟨wr.heap.size, 0, rfl, by simp, fun j hj => ?_⟩⟩
  obtain rfl : j = 0 := by simpa [bl_len] using hj
  rw [cell_of_row _ _ _ _ _ _ (alloc_new wr _)]
  rfl
theorem BW.one {w wr : World} {l : List Nat} {v : Value} (h : BW w wr v l) (y : Nat) (hn : l.length + 1 ≤ 400000000) :
    ∃ v' w', (Builtin.append_ #[26, 26] 26 #[v, .slice (some ⟨wr.heap.size, 0, none⟩) 1 1]).run Tryd.prog (wr.alloc (.cells #[.int .u8 (y : Int)] 5)) = .ok v' w' ∧ BW w w' v' (l ++ [y]) :=
  (h.chg ((Chg.refl Nowhere wr).alloc (.cells #[.int .u8 (y : Int)] 5))).app (m := [y]) (rd_one wr y) hn
theorem BW.new (w : World) : BW w (w.alloc (.cells #[] 5)) (.slice (some ⟨w.heap.size, 0, none⟩) 0 0) [] :=
  ⟨World.ownsRow_lit (base := 0) (e := 5) (size := 1) w #[] 0 (by omega) (by unfold maxLen; omega) rfl, fun i hi => by simp only [Value.ownBlock, Option.some.injEq] at hi; omega, (Chg.refl _ _).alloc _⟩
theorem rep_snoc (k : Nat) (l : List Nat) : (l ++ List.replicate k 0) ++ [0] = l ++ List.replicate (k + 1) 0 := by
  rw [List.append_assoc, List.replicate_succ']
set_option maxHeartbeats 4000000 in
set_option maxRecDepth 100000 in
theorem rfull_any (x : Value) (l : List Nat) (w : World) (h : RdB w x l) (hl : l.length ≤ 100000000) :
    Calls Tryd.prog 23 #[x] w (GivesO w (padL l)) := by
  obtain ⟨n, hnn⟩ : ∃ n, n = l.length := ⟨_, rfl⟩
  obtain ⟨p, hp⟩ : ∃ p, p = (16 - n % 16) % 16 := ⟨_, rfl⟩
  have HP := Lib.hid (show padL l = l ++ List.replicate p 0 by rw [hp, hnn]; rfl)
  have hp2 : (n + p) % 16 = 0 ∧ p < 16 ∧ ∀ k, k < p → 0 < (n + k) % 16 := ⟨by omega, by omega, fun k hk => by omega⟩
  have HP2 := Lib.hid hp2
  have HNN := Lib.hid hnn
  obtain ⟨v1, w1, hr, hW⟩ := (BW.new w).app (h.same ((Chg.refl _ _).alloc _)) (by simp; omega)
  rw [List.nil_append] at hW
  have HR := Lib.hid hr
  have HW := Lib.hid hW
  have hnl : n ≤ 100000000 := by omega
  obtain ⟨-, A, c, rfl, hnc, -⟩ := h
  rw [← hnn] at HR ⊢
  clear hr hW hp hp2 hnn hnc hl
  go_enter Tryd.func23, Tryd.ntmps23
  go_wp2_with (at_builtin; refine Lib.wpList_append_run _ rfl _ _ 26 26 rfl (.slice (some ⟨w.heap.size, 0, none⟩) 0 0) (.slice A n c) rfl rfl v1 w1 HR.out ?_)
  go_loopw [3] (fun v wr => ∃ k : Nat, k ≤ p ∧ BW w wr v (l ++ List.replicate k 0)) (fun v _ => n + 16 - slen v)
  case atStart => exact ⟨0, by omega, by rw [List.replicate_zero, List.append_nil]; exact HW.out⟩
  case round =>
    obtain ⟨k, hk, hB⟩ := hrel
    have HB := Lib.hid hB
    clear hB HW
    obtain ⟨m, hm⟩ : ∃ m, m = n + k := ⟨_, rfl⟩
    have hlen : (l ++ List.replicate k 0).length = m := by rw [List.length_append, List.length_replicate, ← HNN.out, hm]
    obtain ⟨A', c', hv⟩ := own_shape HB.out.own
    rw [hlen] at hv
    have HLEN := Lib.hid hlen
    clear hlen
    subst hv
    obtain ⟨r, hr⟩ : ∃ r, r = m % 16 := ⟨_, rfl⟩
    have hri : (m : Int) % 16 = (r : Int) := by omega
    by_cases hk2 : k < p
    · have hr0 : 0 < r := by rw [hr, hm]; exact HP2.out.2.2 k hk2
      have hd0 : decide (0 < r) = true := decide_eq_true hr0
      obtain ⟨v6, w6, hr6, h6⟩ := HB.out.one 0 (by rw [HLEN.out]; have := HP2.out.2.1; omega)
      rw [rep_snoc] at h6
      have HR6 := Lib.hid hr6
      have HB6 := Lib.hid h6
      have HM := Lib.hid hm
      have h16 := HP2.out.2.1
      obtain ⟨A6, c6, hv6⟩ := own_shape HB6.out.own
      have HV6 := Lib.hid hv6
      clear hr6 h6 hr hm hv6
      go_wp2_with (at_builtin; refine Lib.wpList_append_run _ rfl _ _ 26 26 rfl (.slice A' m c') (.slice (some ⟨wr.heap.size, 0, none⟩) 1 1) rfl rfl v6 w6 HR6.out ?_)
      go_roundw
      case rel => exact ⟨k + 1, by omega, HB6.out⟩
      case measure => rw [HV6.out]; simp [slen, ← HNN.out]; have := HM.out; omega
    · obtain rfl : k = p := by omega
      have hr0 : r = 0 := by rw [hr, hm]; exact HP2.out.1
      have HOW := Lib.hid (show OwnB w wr (.slice A' m c') (padL l) ∧ Chg Nowhere w wr by rw [HP.out]; exact ⟨⟨HB.out.own, HB.out.ge⟩, HB.out.c⟩)
      subst hr0
      clear hr hm
      go_wp2_with fail
      go_ret
      exact ⟨_, rfl, HOW.out.1, HOW.out.2⟩
set_option maxHeartbeats 4000000 in
set_option maxRecDepth 100000 in
theorem reight_any (n : Nat) (hn : n ≤ 100000000) (w : World) :
    Calls Tryd.prog 24 #[.int .i64 (n : Int)] w (GivesO w (bytesOf 8 n)) := by
  have HW := Lib.hid (BW.new w)
  go_enter Tryd.func24, Tryd.ntmps24
  go_wp2_with fail
  go_loopw [3, 4] (fun v i wi => ∃ j : Nat, j ≤ 8 ∧ i = .int .i64 j ∧ BW w wi v (bytesOf j n)) (fun _ i _ => 8 - (intOf i).toNat)
  case atStart => exact ⟨0, by omega, rfl, HW.out⟩
  case round =>
    obtain ⟨j, hj, rfl, hI⟩ := hrel
    have HI := Lib.hid hI
    clear hI HW
    by_cases hj2 : j < 8
    · obtain ⟨v6, w6, hr, h6⟩ := HI.out.one (n / 256 ^ j % 256) (by rw [bytesOf_len]; omega)
      rw [byte_at] at hr
      rw [← bytesOf_snoc] at h6
      have HR := Lib.hid hr
      have HI6 := Lib.hid h6
      clear hr h6
      go_wp2_with (at_builtin; refine Lib.wpList_append_run _ rfl _ _ 26 26 rfl u3 (.slice (some ⟨wr.heap.size, 0, none⟩) 1 1) rfl rfl v6 w6 HR.out ?_)
      go_roundw
      case rel => exact ⟨j + 1, by omega, by go_num, HI6.out⟩
      case measure => simp [intOf]; omega
    · obtain rfl : j = 8 := by omega
      go_wp2_with fail
      go_ret
      exact ⟨_, rfl, ⟨HI.out.own, HI.out.ge⟩, HI.out.c⟩
end Go.Proofs.YtebmbapaedlmiaaDoor
