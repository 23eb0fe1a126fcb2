/-
  The document's window: Mark, Clone, Count.
-/
import Derived.Test.YtiijnhgafadokaaRefA
import Derived.Deep.RegionWith
namespace Go.Proofs.Ytiijnhgafadokaa
open Go.RowKit Wins
set_option linter.unusedVariables false

theorem wrap_i64 {x : Int} (h : -9223372036854775808 ≤ x ∧ x ≤ 9223372036854775807) : IntKind.i64.wrap x = x := by
  simp only [IntKind.wrap, IntKind.bits, IntKind.signed]
  simp
  omega
def markR (L : List Int) (n : Int) : List Int := if chkR L n = 0 then L ++ [n] else L
def RMarkTo (w : World) (b : Nat) (v : Value) (L : List Int) (n : Int) (e : Ending) (w' : World) : Prop :=
  ∃ v', e = .returned (.int .i64 (chkR L n)) ∧ Chg (Foot b v) w w' ∧ RefAt w' b v' (markR L n) ∧ ∀ i, Foot b v' i → Foot b v i ∨ w.heap.size ≤ i
theorem infoInt : (Try.prog.info? 3).map (fun i => (i.zero, i.size, i.bytes)) = some (some (.int .i64 0), 1, 8) := by kernel_rfl
theorem chkR_zero {L : List Int} {n : Int} (h : chkR L n = 0) : 0 ≤ n ∧ n ≤ 281474976710655 ∧ topR L - 1024 < n ∧ hasR L n = false := by
  unfold chkR at h
  split at h
  · exact absurd h (by decide)
  · split at h
    · exact absurd h (by decide)
    · rename_i h1 h2
      refine ⟨by omega, by omega, by omega, ?_⟩
      cases hh : hasR L n with
      | false => rfl
      | true => exact absurd (.inr hh) h2

theorem grown_ref {w w3 : World} {b : Nat} {v : Value} {L : List Int} {o : Obj} (H : RefAt w b v L) (hg : (w.alloc o).grownBy w3 v.ownBlock) :
    w3.heap[b]? = some (.cells #[v] 55 (0,0)) ∧ Chg (Foot b v) w w3 :=
  ⟨(hg.block b (by have := lt_blk H.blk; simp; omega) (fun e => H.ne e.symm)).trans (alloc_old H.blk), ((Chg.refl _ w).alloc _).grown hg (fun k hk => .inr (.inr hk))⟩

set_option maxHeartbeats 800000 in
set_option maxRecDepth 100000 in
theorem rmark_any (b : Nat) (n : Int) (v : Value) (L : List Int) (w : World) (h : RefAt w b v L) (hl : L.length < 1000) :
    Calls Try.prog 35 #[.pointer (some ⟨b, 0, none⟩), .int .i64 n] w (RMarkTo w b v L n) := by
  obtain ⟨i0, hi, hz0, hz1, hz2⟩ := info_parts infoInt
  have c := h.cell
  have f := h.fz
  have hlt := lt_blk h.blk
  have H := Lib.hid h
  go_enter Try.func35, Try.ntmps35
  by_cases hc : chkR L n = 0
  · have HZ := Lib.hid (chkR_zero hc)
    have HC := Lib.hid hc
    have HM := Lib.hid (show markR L n = L ++ [n] from if_pos hc)
    clear hc h
    go_wp2_with fail
    refine (rchk_any _ _ _ _ _ H.out).mono ?_
    rw [HC.out]
    rintro e w' ⟨rfl, rfl⟩
    go_wp2_with (at_builtin; refine wpList_append_own_at _ rfl _ _ 34 rfl 0 3 i0 (.int .i64 0) 1 8 Try.underlying34 hi hz0 hz1 hz2 rfl (by decide) v L.length (L.map (Value.int .i64)) rfl (H.out.own.alloc _) ⟨w.heap.size, 0, none⟩ 1 1 [.int .i64 n] rfl rfl (new1 _ _ _) (fun x hx => by simp at hx; subst hx; rfl) (by unfold maxLen; omega) (by omega) (by omega) ?_; intro v' w3 hown' hgrow3 hnil3 hob; obtain ⟨-, A', cp', rfl, -⟩ := Rd.of_owns hown'; have HO' := Lib.hid hown'; have HB := Lib.hid hob; obtain ⟨B3, hC3⟩ := grown_ref H.out hgrow3; have C3 := Lib.hid hC3; have c3 := cell_blk (o := 0) B3; have f3 : w3.frozen? ⟨b, 0, none⟩ = false := frozen_blk B3; clear hown' hob hnil3 hgrow3 hC3)
    go_ret
    have hsz : (w.alloc (.cells #[.int .i64 n] 3)).heap.size = w.heap.size + 1 := by simp
    have hne : (Value.slice A' (L.length + 1) cp').ownBlock ≠ some b := by
      rcases HB.out with e | e
      · rw [e]; exact H.out.ne
      · rw [e, hsz]; intro e2; injection e2; omega
    refine ⟨_, by rw [HC.out]; rfl, C3.out.put (.inl (.inl rfl)), ⟨?_, ?_, hne, ?_⟩, ?_⟩
    · rw [set_blk _ B3]; rfl
    · rw [HM.out, List.length_append, List.map_append]
      exact owns_chg HO'.out ((Chg.refl (At b) w3).putAt) (fun i hi e => hne (by rw [hi, show i = b from e]))
    · rw [HM.out]
      refine ⟨fun x hx => ?_, by simp; omega⟩
      rcases List.mem_append.1 hx with hx | hx
      · exact H.out.small.1 x hx
      · obtain rfl := List.mem_singleton.1 hx
        exact ⟨HZ.out.1, HZ.out.2.1⟩
    · rintro i (rfl | hi)
      · exact .inl (.inl rfl)
      · rcases HB.out with e | e
        · exact .inl (.inr (by rw [← e, hi]))
        · rw [e, hsz] at hi; injection hi; right; omega
  · have HM := Lib.hid (show markR L n = L from if_neg hc)
    have hd : (chkR L n == 0) = false := by simpa using hc
    clear h
    go_wp2_with fail
    refine (rchk_any _ _ _ _ _ H.out).mono ?_
    rintro e w' ⟨rfl, rfl⟩
    go_wp2_with fail
    go_ret
    exact ⟨v, rfl, Chg.refl _ _, by rw [HM.out]; exact H.out, fun i hi => .inl hi⟩

def RCloneTo (w : World) (L : List Int) (e : Ending) (w' : World) : Prop :=
  ∃ b v, e = .returned (.pointer (some ⟨b, 0, none⟩)) ∧ Chg Nowhere w w' ∧ RefAt w' b v L ∧ ∀ i, Foot b v i → w.heap.size ≤ i

set_option maxHeartbeats 800000 in
set_option maxRecDepth 100000 in
theorem rclone_any (b : Nat) (v : Value) (L : List Int) (w : World) (h : RefAt w b v L) :
    Calls Try.prog 34 #[.pointer (some ⟨b, 0, none⟩)] w (RCloneTo w L) := by
  obtain ⟨i0, hi, hz0, hz1, hz2⟩ := info_parts infoInt
  have c := h.cell
  have hls := h.small.2
  have hbs := lt_blk h.blk
  have H := Lib.hid h
  go_enter Try.func34, Try.ntmps34
  have hO0 := Lib.hid (World.ownsRow_lit (base := 0) (e := 3) (size := 1) w #[] 0 (by omega) (by unfold maxLen; omega) rfl)
  rcases h.own.2 with ⟨rfl, h0⟩ | ⟨g, cap, cur, rfl, hg, hh, hn, hcap, hsz, hx⟩
  · obtain rfl : L = [] := List.length_eq_zero_iff.1 h0
    clear h
    go_wp2_with fail
    go_ret
    have A1 : (w.alloc (.cells #[] 3)).heap.size = w.heap.size + 1 := by simp
    refine ⟨_, _, rfl, ((Chg.refl _ w).alloc _).alloc _, ⟨(by have := alloc_new (w.alloc (.cells #[] 3)) (.cells #[.slice (some ⟨w.heap.size, 0, none⟩) 0 0] 55); rwa [A1] at this), ?_, ?_, H.out.small⟩, ?_⟩
    · exact hO0.out.alloc _
    · simp [Value.ownBlock]
    · rintro i (rfl | hi)
      · simp
      · simp [Value.ownBlock] at hi; omega
  · have hcl := Lib.hid ((h.own.alloc (.cells #[] 3)).cells (g := g) rfl)
    have hgs := lt_blk hh
    clear h hh hx
    go_wp2_with (at_builtin; refine wpList_append_own_at _ rfl _ _ 34 rfl 0 3 i0 (.int .i64 0) 1 8 Try.underlying34 hi hz0 hz1 hz2 rfl (by decide) (.slice (some ⟨w.heap.size, 0, none⟩) 0 0) 0 [] rfl hO0.out ⟨g, 0, none⟩ L.length cap (L.map (Value.int .i64)) rfl (by simp) hcl.out (fun x hx => by obtain ⟨y, _, rfl⟩ := List.mem_map.1 hx; rfl) (by unfold maxLen; omega) (by omega) (by omega) ?_; intro v' w3 hown' hgrow3 hnil3 hob; obtain ⟨-, A', cp', rfl, -⟩ := Rd.of_owns hown'; have HO' := Lib.hid hown'; have HB := Lib.hid hob; have HG := Lib.hid hgrow3; clear hown' hob hnil3 hgrow3)
    have A1 : (w.alloc (.cells #[] 3)).heap.size = w.heap.size + 1 := by simp
    have hs3 := HG.out.size
    have hob := HB.out
    rw [A1] at hs3 hob
    rw [Nat.zero_add] at hob
    go_ret
    refine ⟨_, _, rfl, (((Chg.refl _ w).alloc _).grown HG.out (fun k hk => ?_)).alloc _, ⟨alloc_new _ _, ?_, ?_, H.out.small⟩, ?_⟩
    · simp [Value.ownBlock] at hk; exact .inl (by omega)
    · have ho := HO'.out; rw [Nat.zero_add, List.nil_append] at ho; exact ho.alloc _
    · intro e; have := (HO'.out.lt _ (by rw [Nat.zero_add]; exact e)).2; omega
    · rintro i (rfl | hi)
      · omega
      · rcases hob with e | e <;> rw [e] at hi <;> simp [Value.ownBlock] at hi <;> omega

def cntR (L : List Int) : Nat := L.countP (fun x => decide (topR L - 1024 < x))
set_option maxHeartbeats 800000 in
set_option maxRecDepth 100000 in
theorem rcount_any (b : Nat) (v : Value) (L : List Int) (w : World) (h : RefAt w b v L) :
    Calls Try.prog 38 #[.pointer (some ⟨b, 0, none⟩)] w fun e w' => e = .returned (.int .i64 (cntR L)) ∧ Chg Nowhere w w' := by
  have hs := h.small.2
  have t1 := topR_le h.small.1
  have t2 := topR_ge L
  have H := Lib.hid h
  obtain ⟨A, cp, rfl, hA⟩ := h.read
  have HA := Lib.hid hA
  obtain ⟨T, hT⟩ : ∃ T, T = topR L := ⟨_, rfl⟩
  rw [← hT] at t1 t2
  have HC := Lib.hid (show cntR L = L.countP (fun x => decide (T - 1024 < x)) by rw [cntR, hT])
  have HT := Lib.hid hT
  have W1 : IntKind.i64.wrap (T - 1024) = T - 1024 := wrap_i64 (by omega)
  clear hT hA h
  go_enter Try.func38, Try.ntmps38
  go_wp2_with fail
  go_loopw [3, 4] (fun t i wr => ∃ (k m : Nat), k ≤ L.length ∧ m ≤ k ∧ i = .int .i64 k ∧ t = .int .i64 m ∧ Hid (m = (L.take k).countP (fun x => decide (T - 1024 < x))) ∧ Chg Nowhere w wr) (fun _ i _ => 1000 - (intOf i).toNat)
  case atStart => exact ⟨0, 0, by omega, by omega, rfl, rfl, Lib.hid rfl, Chg.refl _ _⟩
  case round =>
    obtain ⟨k, m, hk, hm, rfl, rfl, X, hC⟩ := hrel
    have HW := Lib.hid (H.out.chg hC (fun _ _ => not_nowhere _))
    have c := HW.out.cell
    by_cases hk2 : k < L.length
    · obtain ⟨y, hy⟩ : ∃ y, L[k]? = some y := ⟨_, List.getElem?_eq_getElem hk2⟩
      obtain ⟨g, rfl, hg, hcell⟩ := HA.out (by omega)
      have c2 := (hC.cell (p := ⟨g, k, none⟩) hg (not_nowhere _)).trans (hcell _ _ hy)
      have HCC := Lib.hid hC
      clear hcell hC
      by_cases hyt : T - 1024 < y
      · have E := Lib.hid (show m + 1 = (L.take (k + 1)).countP (fun x => decide (T - 1024 < x)) by
          rw [List.take_add_one, hy, List.countP_append, ← X.out]; simp [hyt])
        clear hy
        go_wp2_with fail
        go_region_with (go_at_call 37; refine (rtop_any _ _ _ _ (by exact HW.out.chg ((Chg.refl Nowhere _).drew) (fun _ _ => not_nowhere _))).mono ?_; rw [← HT.out]; rintro e w' ⟨rfl, rfl⟩)
        all_goals
          try rw [W1]
          go_wp2_with fail
          go_roundw
          case rel => exact ⟨k + 1, m + 1, by omega, by omega, by go_num, by go_num, E, HCC.out.drew⟩
          case measure => simp [intOf]; omega
      · have E := Lib.hid (show m = (L.take (k + 1)).countP (fun x => decide (T - 1024 < x)) by
          rw [List.take_add_one, hy, List.countP_append, ← X.out]; simp [hyt])
        clear hy
        go_wp2_with fail
        go_region_with (go_at_call 37; refine (rtop_any _ _ _ _ (by exact HW.out.chg ((Chg.refl Nowhere _).drew) (fun _ _ => not_nowhere _))).mono ?_; rw [← HT.out]; rintro e w' ⟨rfl, rfl⟩)
        all_goals
          try rw [W1]
          go_wp2_with fail
          go_roundw
          case rel => exact ⟨k + 1, m, by omega, by omega, by go_num, rfl, E, HCC.out.drew⟩
          case measure => simp [intOf]; omega
    · obtain rfl : k = L.length := by omega
      go_wp2_with fail
      go_ret
      rw [HC.out, ← List.take_length (l := L), ← X.out, List.take_length]
      exact ⟨rfl, hC⟩
end Go.Proofs.Ytiijnhgafadokaa
