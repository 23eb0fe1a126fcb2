/-
  Layer 17, the document's ranges: without, Cut.
-/
import Derived.Test.YtlkbfacdaelbfaaRbB
import Derived.Deep.RegionHeld3
import Derived.Deep.DeepCutAuto
import Derived.Deep.CutBlock
namespace Go.Proofs.Ytlkbfacdaelbfaa
open Go.RowKit
set_option linter.unusedVariables false

def GivesLeft (w : World) (D : List Ra.Row) : Ending → World → Prop := fun e w' => ∃ l, e = .returned l ∧ CutIn w l D w'
set_option maxHeartbeats 8000000 in
set_option maxRecDepth 100000 in
theorem without_any (v : Value) (L : List Ra.Row) (f t : Int) (w : World) (h : Rd w v 2 L.length (flat L)) (hn : L.length ≤ 1000000) (hG : Ra.Good L) (hft : f < t) :
    Calls Try.prog 81 #[v, .int .i64 f, .int .i64 t] w (GivesLeft w (Ra.left f t L)) := by
  obtain ⟨n, hnn⟩ : ∃ n, n = L.length := ⟨_, rfl⟩
  have HN := Lib.hid hnn
  have HG := Lib.hid hG
  have H := Lib.hid h
  obtain ⟨-, A, c, rfl, -, -⟩ := h
  rw [← hnn] at hn H ⊢
  have HFL := Lib.hid (flat_len L)
  clear hnn hG
  go_enter Try.func81, Try.ntmps81
  go_wp2_with fail
  go_loopw [7, 8] (fun l i wr => ∃ k : Nat, k ≤ n ∧ i = .int .i64 (k : Int) ∧ CutIn w l (Ra.left f t (L.take k)) wr) (fun _ i _ => n - (intOf i).toNat)
  case atStart => exact ⟨0, by omega, rfl, CutIn.nil (Chg.refl _ _)⟩
  case round =>
    obtain ⟨k, hk, rfl, hCI⟩ := hrel
    have HCK := Lib.hid hCI
    clear hCI
    by_cases hk2 : k < n
    · have hd : decide ((k : Int) < (n : Int)) = true := decide_eq_true (by omega)
      have hki : (k : Int) < (n : Int) := by omega
      obtain ⟨-, A2, c2, hv2, -, hx⟩ := H.out.same HCK.out.chg
      simp only [Value.slice.injEq] at hv2
      obtain ⟨rfl, -, rfl⟩ := hv2
      obtain ⟨g, o, rfl, hg, hx⟩ := hx (by omega)
      obtain ⟨a, ha⟩ : ∃ x, x = (L.getD k (0, 0)).1 := ⟨_, rfl⟩
      obtain ⟨b, hb⟩ : ∃ x, x = (L.getD k (0, 0)).2 := ⟨_, rfl⟩
      have hkL : k < L.length := by rw [← HN.out]; exact hk2
      have hg2 := flat_get L k _ (some_getD (d := (0, 0)) hkL)
      have hfl := HFL.out
      have x1 : wr.cell? ⟨g, o + k * 2, none⟩ = some (.int .i64 a) := (hx _ (by omega)).trans (by rw [ha]; exact hg2.1)
      have x2 : wr.cell? ⟨g, o + k * 2 + 1, none⟩ = some (.int .i64 b) := (hx (k * 2 + 1) (by omega)).trans (by rw [hb]; exact hg2.2)
      have HBK := Lib.hid (show L[k]? = some (a, b) by rw [ha, hb]; exact some_getD hkL)
      have HG' := Lib.hid hg
      clear ha hb hx hg2 hfl hg
      go_upto_region 5 with fail
      obtain ⟨m1, hm1⟩ : ∃ x, x = min b f := ⟨_, rfl⟩
      obtain ⟨m2, hm2⟩ : ∃ x, x = max a t := ⟨_, rfl⟩
      have E1 := Lib.hid (show (if f < b then f else b) = m1 by rw [hm1]; split <;> omega)
      have E2 := Lib.hid (show (if a < t then t else a) = m2 by rw [hm2]; split <;> omega)
      have HPT := Lib.hid (show Ra.left1 f t (a, b) = (if a < m1 then [(a, m1)] else []) ++ (if m2 < b then [(m2, b)] else []) by rw [hm1, hm2]; rfl)
      have HLT := Lib.hid (show Ra.left f t (L.take (k + 1)) = Ra.left f t (L.take k) ++ ((if a < m1 then [(a, m1)] else []) ++ (if m2 < b then [(m2, b)] else [])) by
        rw [List.take_add_one, HBK.out, Ra.left_append, ← HPT.out]
        simp [Ra.left_cons, Ra.left_nil])
      have HLK := Lib.hid (show (Ra.left f t (L.take k)).length ≤ 1000002 from by have := Ra.left_len1 hft (HG.out.take k); rw [List.length_take] at this; have := HN.out; omega)
      clear hm1 hm2 hkL
      go_cut [9] (fun t9 wx => ∃ z9, t9 = .pointer (some ⟨z9, 0, none⟩) ∧ wx.heap[z9]? = some (.cells #[.int .i64 a, .int .i64 m1] 33 (0, 0)) ∧ Chg Nowhere wr wx)
      case first => as_aux_lemma =>
        go_region_held3 (fun w' => w'.cell? ⟨g, o + k * 2, none⟩ = some (.int .i64 a) ∧ w'.cell? ⟨g, o + k * 2 + 1, none⟩ = some (.int .i64 b)) (first | go_keep) (first | fail)
        all_goals
          simp only [E1.out]
          go_wp2_with fail
          go_meet
          exact ⟨_, rfl, alloc_new wr _, ((Chg.refl Nowhere wr).alloc _).drew⟩
      case rest =>
        obtain ⟨z9, rfl, hV9, hC9⟩ := hcut
        have HV9 := Lib.hid hV9
        have HC9 := Lib.hid hC9
        have x1' : wc.cell? ⟨g, o + k * 2, none⟩ = some (.int .i64 a) := (hC9.cell (p := ⟨g, o + k * 2, none⟩) HG'.out (not_nowhere _)).trans x1
        have x2' : wc.cell? ⟨g, o + k * 2 + 1, none⟩ = some (.int .i64 b) := (hC9.cell (p := ⟨g, o + k * 2 + 1, none⟩) HG'.out (not_nowhere _)).trans x2
        clear hV9 hC9 x1 x2
        go_upto_region 6 with fail
        go_cut [10] (fun t9 wx => ∃ z9, t9 = .pointer (some ⟨z9, 0, none⟩) ∧ wx.heap[z9]? = some (.cells #[.int .i64 m2, .int .i64 b] 33 (0, 0)) ∧ wc.heap.size ≤ z9 ∧ Chg Nowhere wc wx)
        case first => as_aux_lemma =>
          go_region_held3 (fun w' => w'.cell? ⟨g, o + k * 2, none⟩ = some (.int .i64 a) ∧ w'.cell? ⟨g, o + k * 2 + 1, none⟩ = some (.int .i64 b)) (first | go_keep) (first | fail)
          all_goals
            simp only [E2.out]
            go_wp2_with fail
            go_meet
            exact ⟨_, rfl, alloc_new wc _, Nat.le_refl _, ((Chg.refl Nowhere wc).alloc _).drew⟩
        case rest =>
          obtain ⟨z10, rfl, hV10, hz10, hC10⟩ := hcut
          have HV10 := Lib.hid hV10
          have HV9' := Lib.hid (hC10.same HV9.out)
          have HCC := Lib.hid ((HCK.out.same HC9.out).same hC10)
          have HOW := Lib.hid (show ∀ i, u7.ownBlock = some i → i ≠ z10 from fun i hi => by
            obtain ⟨cur, hh⟩ := own_blk (HCK.out.same HC9.out).own hi
            have := lt_blk hh
            omega)
          have p0 : wc.cell? ⟨z9, 0, none⟩ = some (.int .i64 a) := by rw [cell_blk HV9'.out]; rfl
          have p1 : wc.cell? ⟨z9, 1, none⟩ = some (.int .i64 m1) := by rw [cell_blk HV9'.out]; rfl
          have q0 : wc.cell? ⟨z10, 0, none⟩ = some (.int .i64 m2) := by rw [cell_blk HV10.out]; rfl
          have q1 : wc.cell? ⟨z10, 1, none⟩ = some (.int .i64 b) := by rw [cell_blk HV10.out]; rfl
          clear hV10 hz10 hC10 x1' x2' HV9 HC9
          by_cases h1 : a < m1
          · have d1 : decide (a < m1) = true := decide_eq_true h1
            go_upto_region 9 with (at_builtin; obtain ⟨l', w', hr, hI, hob, hch⟩ := (HCC.out.same ((Chg.refl Nowhere _).alloc (.cells #[.int .i64 a, .int .i64 m1] 33))).app (by have := HLK.out; omega) a m1 30 _ (alloc_new _ _); have HI := Lib.hid hI; have HOB := Lib.hid hob; have HCH := Lib.hid hch; clear hI hob hch; refine Lib.wpList_append_run _ rfl _ _ 30 30 rfl _ _ rfl rfl l' w' hr ?_; clear hr)
            have hV11 := HCH.out.keep (alloc_old (o := Obj.cells #[.int .i64 a, .int .i64 m1] 33) HV10.out) (fun e => HOW.out _ e rfl)
            have r0 : w'.cell? ⟨z10, 0, none⟩ = some (.int .i64 m2) := by rw [cell_blk hV11]; rfl
            have r1 : w'.cell? ⟨z10, 1, none⟩ = some (.int .i64 b) := by rw [cell_blk hV11]; rfl
            clear p0 p1 q0 q1 hV11
            by_cases h2 : m2 < b
            · have d2 : decide (m2 < b) = true := decide_eq_true h2
              go_wp2_with (at_builtin; obtain ⟨l2, w2, hr, hI, hob, hch⟩ := (HI.out.same ((Chg.refl Nowhere _).alloc (.cells #[.int .i64 m2, .int .i64 b] 33))).app (by rw [List.length_append]; have := HLK.out; simp only [List.length_singleton]; omega) m2 b 30 _ (alloc_new _ _); have HI2 := Lib.hid hI; clear hI hob hch; refine Lib.wpList_append_run _ rfl _ _ 30 30 rfl _ _ rfl rfl l2 w2 hr ?_; clear hr)
              go_roundw
              case rel => exact ⟨k + 1, by omega, by go_num, by have := HI2.out; rw [HLT.out, if_pos h1, if_pos h2, ← List.append_assoc]; exact this⟩
              case measure => simp [intOf]; omega
            · have d2 : decide (m2 < b) = false := decide_eq_false h2
              go_wp2_with fail
              go_roundw
              case rel => exact ⟨k + 1, by omega, by go_num, by have := HI.out; rw [HLT.out, if_pos h1, if_neg h2, List.append_nil]; exact this⟩
              case measure => simp [intOf]; omega
          · have d1 : decide (a < m1) = false := decide_eq_false h1
            by_cases h2 : m2 < b
            · have d2 : decide (m2 < b) = true := decide_eq_true h2
              go_wp2_with (at_builtin; obtain ⟨l2, w2, hr, hI, hob, hch⟩ := (HCC.out.same ((Chg.refl Nowhere _).alloc (.cells #[.int .i64 m2, .int .i64 b] 33))).app (by have := HLK.out; omega) m2 b 30 _ (alloc_new _ _); have HI2 := Lib.hid hI; clear hI hob hch; refine Lib.wpList_append_run _ rfl _ _ 30 30 rfl _ _ rfl rfl l2 w2 hr ?_; clear hr)
              go_roundw
              case rel => exact ⟨k + 1, by omega, by go_num, by have := HI2.out; rw [HLT.out, if_neg h1, if_pos h2, List.nil_append]; exact this⟩
              case measure => simp [intOf]; omega
            · have d2 : decide (m2 < b) = false := decide_eq_false h2
              go_wp2_with fail
              go_roundw
              case rel => exact ⟨k + 1, by omega, by go_num, by have := HCC.out; rw [HLT.out, if_neg h1, if_neg h2, List.nil_append, List.append_nil]; exact this⟩
              case measure => simp [intOf]; omega
    · obtain rfl : k = n := by omega
      have hd : decide ((k : Int) < (k : Int)) = false := decide_eq_false (by omega)
      have hki : ¬ ((k : Int) < (k : Int)) := by omega
      have HCI := Lib.hid (show CutIn w _ (Ra.left f t L) wr from by have := HCK.out; rw [HN.out, List.take_length] at this; exact this)
      go_wp2_with fail
      go_ret
      exact ⟨_, rfl, HCI.out⟩
/-- What a call that changes an object of the document's leaves. -/
structure RMoved (w : World) (o : Nat) (v : Value) (L' : List Ra.Row) (w' : World) : Prop where
  at' : ∃ v', RbAt w' o v' L' ∧ ∀ i, v'.ownBlock = some i → v.ownBlock = some i ∨ w.heap.size ≤ i
  chg : Chg (fun i => i = o ∨ v.ownBlock = some i) w w'
def RSub (w : World) (o : Nat) (v : Value) (L : List Ra.Row) (f t : Int) : Ending → World → Prop := fun e w' => ∃ L', e = .returned (.int .i64 (Ra.total L - Ra.total L')) ∧ Ra.Good L' ∧ (∀ n, Ra.mem L' n ↔ Ra.mem L n ∧ ¬ (max f 0 ≤ n ∧ n < min t Ra.M)) ∧ L'.length ≤ L.length + 1 ∧ RMoved w o v L' w'
theorem RbAt.apart {w : World} {a b : Nat} {va : Value} {cs : Array Value} {L : List Ra.Row} {t : TypeId} (h : RbAt w a va L) (hb : w.heap[b]? = some (.cells cs t (0, 0))) (ht : t ≠ 33) : va.ownBlock ≠ some b := fun e => by
  obtain ⟨cur, hh⟩ := own_blk h.row e
  rw [hb] at hh
  simp only [Option.some.injEq, Obj.cells.injEq] at hh
  exact ht hh.2.1
/-- A new row is stored. -/
theorem RbAt.store {w w2 : World} {o : Nat} {v l : Value} {L L' : List Ra.Row} (h : RbAt w o v L) (hl : CutIn w l L' w2) : RMoved w o v L' (w2.setCell ⟨o, 0, none⟩ l) := by
  have hb2 := hl.chg.same h.blk
  have hcs : Chg (At o) w2 (w2.setCell ⟨o, 0, none⟩ l) := (Chg.refl (At o) w2).putAt
  refine ⟨⟨l, ⟨set_one (y := l) hb2, own_chg (own_base0 hl.own) hcs fun i hi e => ?_⟩, fun i hi => .inr (own_ge hl.own hi)⟩, (hl.chg.mono fun i _ h => h.elim).trans hcs fun i _ e => .inl e⟩
  have e : i = o := e
  subst e
  have := own_ge hl.own hi
  have := lt_blk h.blk
  omega
set_option maxHeartbeats 4000000 in
set_option maxRecDepth 100000 in
theorem rcut_any (o : Nat) (v : Value) (L : List Ra.Row) (f t : Int) (w : World) (h : RbAt w o v L) (hG : Ra.Good L) (hn : L.length ≤ 1000000) :
    Calls Try.prog 24 #[.pointer (some ⟨o, 0, none⟩), .int .i64 f, .int .i64 t] w (RSub w o v L f t) := by
  obtain ⟨f0, hf0⟩ : ∃ x, x = max f 0 := ⟨_, rfl⟩
  obtain ⟨t0, ht0⟩ : ∃ x, x = min t Ra.M := ⟨_, rfl⟩
  have HI := Lib.hid (show ∀ w4, Calls Try.prog 80 #[.int .i64 f, .int .i64 t] w4 (Gives w4 (.tuple #[.int .i64 f0, .int .i64 t0])) from fun w4 => by rw [hf0, ht0]; exact rinside_any f t w4)
  unfold RSub
  rw [← hf0, ← ht0]
  clear hf0 ht0
  by_cases hft : f0 < t0
  · have H := Lib.hid h
    have hTI := Ra.total_in hG
    have hLG := Ra.left_good hft hG
    have hTI2 := Ra.total_in hLG
    have hLL := Ra.left_len1 hft hG
    have HM := Lib.hid (show ∀ n, Ra.mem (Ra.left f0 t0 L) n ↔ Ra.mem L n ∧ ¬ (f0 ≤ n ∧ n < t0) from fun n => Ra.left_has hft L n)
    have HWO := Lib.hid (fun w4 (h4 : RbAt w4 o v L) => without_any v L f0 t0 w4 (Rd.of_owns h4.row) (by omega) hG hft)
    have HTO := Lib.hid (fun w4 (h4 : RbAt w4 o v L) => rtotal_any o v L w4 h4 hG (by omega))
    obtain ⟨D, hD⟩ : ∃ D, D = Ra.left f0 t0 L := ⟨_, rfl⟩
    rw [← hD] at hTI2 hLG hLL HM HWO
    have HGD := Lib.hid hLG
    have HLD := Lib.hid hLL
    have HTD := Lib.hid (fun w4 v' (h4 : RbAt w4 o v' D) => rtotal_any o v' D w4 h4 hLG (by omega))
    have hd : decide (t0 ≤ f0) = false := decide_eq_false (by omega)
    have hd2 : ¬ (t0 ≤ f0) := by omega
    have w1 : IntKind.i64.wrap (Ra.total L - Ra.total D) = Ra.total L - Ra.total D := by rw [IntKind.wrap_i64]; unfold Ra.M at hTI hTI2; omega
    obtain ⟨T, hT⟩ : ∃ T, T = Ra.total L := ⟨_, rfl⟩
    obtain ⟨S, hS⟩ : ∃ T, T = Ra.total D := ⟨_, rfl⟩
    rw [← hT] at HTO w1
    rw [← hS] at HTD w1
    have H30 := Lib.hid (show T = Ra.total L ∧ S = Ra.total D from ⟨hT, hS⟩)
    have tb : 0 ≤ T ∧ T ≤ 4611686018427387904 := by rw [hT]; exact hTI
    have sb : 0 ≤ S ∧ S ≤ 4611686018427387904 := by rw [hS]; exact hTI2
    clear h hG hTI hTI2 hLG hLL hD hT hS hn w1
    go_enter Try.func24, Try.ntmps24
    go_upto_region 2 with (go_at_call 80; refine (HI.out _).mono ?_; rintro e w4 ⟨rfl, hC4⟩; have HC4 := Lib.hid hC4; clear hC4)
    go_upto_region 5 with (go_at_call 28; refine (HTO.out _ (H.out.idle HC4.out)).mono ?_; rintro e w5 ⟨rfl, hC5⟩; have HC5 := Lib.hid (HC4.out.then_none hC5); clear hC5)
    have y5 := (H.out.idle HC5.out).cell0
    go_upto_region 6 with (go_at_call 81; refine (HWO.out _ (H.out.idle HC5.out)).mono ?_; rintro e w6 ⟨l, rfl, hCI⟩; obtain ⟨A9, N9, c9, rfl⟩ := own_shape hCI.own; have z1 := cell_blk (o := 0) (hCI.chg.same (H.out.idle HC5.out).blk); have z2 : w6.frozen? ⟨o, 0, none⟩ = false := frozen_blk (hCI.chg.same (H.out.idle HC5.out).blk); have HST := Lib.hid ((H.out.idle HC5.out).store hCI); clear hCI)
    have HCW := Lib.hid HC5.out
    clear y5 HC5
    obtain ⟨⟨v9, hv9, hn9⟩, hch9⟩ := HST.out
    have HV9 := Lib.hid hv9
    have HN9 := Lib.hid hn9
    have HCH9 := Lib.hid hch9
    clear hv9 hn9 hch9 HST
    go_wp2_with (go_at_call 28; refine (HTD.out _ _ HV9.out).mono ?_; rintro e wz ⟨rfl, hCz⟩; have HCz := Lib.hid hCz; clear hCz)
    go_ret
    exact ⟨D, by rw [← H30.out.1, ← H30.out.2]; rfl, HGD.out, HM.out, HLD.out, ⟨⟨v9, HV9.out.idle HCz.out, fun i hi => by
      rcases HN9.out i hi with h | h
      · exact .inl h
      · exact .inr (Nat.le_trans HCW.out.size h)⟩, (HCW.out.none_then HCH9.out).then_none HCz.out⟩⟩
  · have hd : decide (t0 ≤ f0) = true := decide_eq_true (by omega)
    have hd2 : t0 ≤ f0 := by omega
    have HE := Lib.hid (show ∀ w4, Chg Nowhere w w4 → ∃ L', Ending.returned (.int .i64 0) = .returned (.int .i64 (Ra.total L - Ra.total L')) ∧ Ra.Good L' ∧ (∀ n, Ra.mem L' n ↔ Ra.mem L n ∧ ¬ (f0 ≤ n ∧ n < t0)) ∧ L'.length ≤ L.length + 1 ∧ RMoved w o v L' w4 from fun w4 h4 =>
      ⟨L, by rw [Int.sub_self], hG, fun n => ⟨fun h => ⟨h, by omega⟩, fun h => h.1⟩, by omega, ⟨v, h.idle h4, fun i hi => .inl hi⟩, h4.mono fun _ _ h => h.elim⟩)
    clear h hG
    go_enter Try.func24, Try.ntmps24
    go_upto_region 2 with (go_at_call 80; refine (HI.out _).mono ?_; rintro e w4 ⟨rfl, hC4⟩; have HC4 := Lib.hid hC4; clear hC4)
    go_wp2_with fail
    go_ret
    exact HE.out _ HC4.out
end Go.Proofs.Ytlkbfacdaelbfaa
