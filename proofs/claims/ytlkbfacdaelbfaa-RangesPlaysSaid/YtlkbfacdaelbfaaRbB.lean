/-
  Layer 17, the document's ranges: Next, Gap, Covers.
-/
import Derived.Test.YtlkbfacdaelbfaaRbA
import Derived.Deep.DeepCutAuto
import Derived.Deep.CutBlock
namespace Go.Proofs.Ytlkbfacdaelbfaa
open Go.RowKit
set_option linter.unusedVariables false

structure NextUp (L : List Ra.Row) (m x : Int) (k : Nat) : Prop where
  ge : m ≤ x
  all : ∀ y, m ≤ y → y < x → Ra.mem L y
  no : NoneUp L x k
  le : x = m ∨ x ≤ Ra.M
theorem NextUp.hit {L : List Ra.Row} (hG : Ra.Good L) {m x : Int} {k : Nat} (h : NextUp L m x k) (hk : k < L.length) (h1 : (L.getD k (0, 0)).1 ≤ x) (h2 : x < (L.getD k (0, 0)).2) : NextUp L m (L.getD k (0, 0)).2 (k + 1) := by
  refine ⟨by have := h.ge; omega, fun y h3 h4 => ?_, fun j hj => ?_, .inr (hG.getD hk).2.2⟩
  · rcases (by omega : y < x ∨ x ≤ y) with h5 | h5
    · exact h.all y h3 h5
    · exact mem_at_row hk (by omega) h4
  · rcases (by omega : j < k ∨ j = k) with h5 | rfl
    · have := hG.lt h5 hk
      have := hG.getD hk
      omega
    · omega
theorem NextUp.miss {L : List Ra.Row} {m x : Int} {k : Nat} (h : NextUp L m x k) (h1 : ¬ ((L.getD k (0, 0)).1 ≤ x ∧ x < (L.getD k (0, 0)).2)) : NextUp L m x (k + 1) :=
  ⟨h.ge, h.all, fun j hj => by
    rcases (by omega : j < k ∨ j = k) with h5 | rfl
    · exact h.no j h5
    · exact h1, h.le⟩
set_option maxHeartbeats 4000000 in
set_option maxRecDepth 100000 in
theorem rnext_any (o : Nat) (v : Value) (L : List Ra.Row) (x : Int) (w : World) (h : RbAt w o v L) (hG : Ra.Good L) (hn : L.length ≤ 2000000) :
    Calls Try.prog 31 #[.pointer (some ⟨o, 0, none⟩), .int .i64 x] w (GivesNext w L x) := by
  obtain ⟨n, hnn⟩ : ∃ n, n = L.length := ⟨_, rfl⟩
  have HN := Lib.hid hnn
  have HG := Lib.hid hG
  have H := Lib.hid h
  obtain ⟨A, c, hv⟩ := h.shape
  rw [← hnn] at hn hv
  subst hv
  obtain ⟨m, hm⟩ : ∃ m, m = max x 0 := ⟨_, rfl⟩
  have HM := Lib.hid hm
  clear h hnn hG hm
  go_enter Try.func31, Try.ntmps31
  go_upto_region 1 with fail
  go_cut [1] (fun t wx => t = .int .i64 m ∧ Chg Nowhere w wx)
  case first =>
    rcases (by omega : x < 0 ∨ x = 0 ∨ 0 < x) with h | h | h
    · have e : m = 0 := by have := HM.out; omega
      go_wp2_with fail
      go_meet
      exact ⟨by rw [e], Chg.refl _ _⟩
    · have e : m = 0 := by have := HM.out; omega
      subst h
      go_wp2_with fail
      go_meet
      exact ⟨by rw [e], Chg.refl _ _⟩
    · have e : m = x := by have := HM.out; omega
      subst e
      go_wp2_with fail
      go_meet
      exact ⟨rfl, Chg.refl _ _⟩
  case rest =>
    obtain ⟨rfl, hC⟩ := hcut
    have HC0 := Lib.hid hC
    clear hC
    go_wp2_with fail
    go_loopw [1, 5] (fun s i wr => ∃ (k : Nat) (y : Int), k ≤ n ∧ i = .int .i64 (k : Int) ∧ s = .int .i64 y ∧ Hid (NextUp L m y k) ∧ Chg Nowhere w wr) (fun _ i _ => n - (intOf i).toNat)
    case atStart => exact ⟨0, m, by omega, rfl, rfl, Lib.hid ⟨Int.le_refl _, fun y h1 h2 => by omega, fun j hj => by omega, .inl rfl⟩, HC0.out⟩
    case round =>
      obtain ⟨k, y, hk, rfl, rfl, HU, hC⟩ := hrel
      have HC := Lib.hid hC
      clear hC
      have y0 := (H.out.idle HC.out).cell0
      by_cases hk2 : k < n
      · have hd : decide ((k : Int) < (n : Int)) = true := decide_eq_true (by omega)
        obtain ⟨g, c', hv, hg, cx, cy⟩ := (H.out.idle HC.out).cells (k := k) (by rw [← HN.out]; exact hk2)
        simp only [Value.slice.injEq] at hv
        obtain ⟨rfl, -, rfl⟩ := hv
        obtain ⟨a, ha⟩ : ∃ x, x = (L.getD k (0, 0)).1 := ⟨_, rfl⟩
        obtain ⟨b, hb⟩ : ∃ x, x = (L.getD k (0, 0)).2 := ⟨_, rfl⟩
        rw [← ha] at cx
        rw [← hb] at cy
        have HE := Lib.hid (show a = (L.getD k (0, 0)).1 ∧ b = (L.getD k (0, 0)).2 from ⟨ha, hb⟩)
        have hki : (k : Int) < (n : Int) := by omega
        clear ha hb
        by_cases h1 : a ≤ y
        · have d1 : decide (a ≤ y) = true := decide_eq_true h1
          by_cases h2 : y < b
          · have d2 : decide (y < b) = true := decide_eq_true h2
            have HU2 := Lib.hid (show NextUp L m b (k + 1) by rw [HE.out.2]; exact HU.out.hit HG.out (by rw [← HN.out]; exact hk2) (by rw [← HE.out.1]; exact h1) (by rw [← HE.out.2]; exact h2))
            go_wp2_with fail
            go_roundw
            case rel => exact ⟨k + 1, b, by omega, by go_num, rfl, HU2, HC.out⟩
            case measure => simp [intOf]; omega
          · have d2 : decide (y < b) = false := decide_eq_false h2
            have HU2 := Lib.hid (show NextUp L m y (k + 1) from HU.out.miss (by rw [← HE.out.1, ← HE.out.2]; exact fun h => h2 h.2))
            go_wp2_with fail
            go_roundw
            case rel => exact ⟨k + 1, y, by omega, by go_num, rfl, HU2, HC.out⟩
            case measure => simp [intOf]; omega
        · have d1 : decide (a ≤ y) = false := decide_eq_false h1
          have HU2 := Lib.hid (show NextUp L m y (k + 1) from HU.out.miss (by rw [← HE.out.1, ← HE.out.2]; exact fun h => h1 h.1))
          go_wp2_with fail
          go_roundw
          case rel => exact ⟨k + 1, y, by omega, by go_num, rfl, HU2, HC.out⟩
          case measure => simp [intOf]; omega
      · obtain rfl : k = n := by omega
        have hd : decide ((k : Int) < (k : Int)) = false := decide_eq_false (by omega)
        have HR := Lib.hid (show NextIs L x y from ⟨by rw [← HM.out]; exact HU.out.ge, NoneUp.all (by rw [← HN.out]; exact HU.out.no), by rw [← HM.out]; exact HU.out.all, by rw [← HM.out]; exact HU.out.le⟩)
        go_wp2_with fail
        go_ret
        exact ⟨y, rfl, HR.out, HC.out⟩
/-- What the loop of Gap knows. -/
structure GapUp (L : List Ra.Row) (x t0 t : Int) (k : Nat) : Prop where
  lt : x < t
  le : t ≤ t0
  low : ∀ j, j < k → j < L.length → x < (L.getD j (0, 0)).1 → t ≤ (L.getD j (0, 0)).1
  top : t = t0 ∨ Ra.mem L t
theorem GapUp.done {L : List Ra.Row} {f tt x t : Int} (hx : NextIs L f x) (hf : max f 0 ≤ x) (h : GapUp L x (min tt Ra.M) t L.length) : GapIs L f tt (x, t) true :=
  ⟨fun h => (by cases h), fun _ => ⟨⟨hf, h.lt, h.le⟩, hx.all, fun y h1 h2 => by
    rintro ⟨r, hr, h3, h4⟩
    obtain ⟨k, hk, e⟩ := List.mem_iff_getElem.1 hr
    have e2 : L.getD k (0, 0) = r := by rw [List.getD_eq_getElem?_getD, List.getElem?_eq_getElem hk, Option.getD_some, e]
    by_cases h5 : x < r.1
    · have := h.low k hk hk (by rw [e2]; exact h5)
      rw [e2] at this
      simp only at h2
      omega
    · simp only at h1
      exact hx.no ⟨r, hr, by omega, by omega⟩, h.top⟩⟩
set_option maxHeartbeats 4000000 in
set_option maxRecDepth 100000 in
theorem rgap_any (o : Nat) (v : Value) (L : List Ra.Row) (f t : Int) (w : World) (h : RbAt w o v L) (hG : Ra.Good L) (hn : L.length ≤ 2000000) :
    Calls Try.prog 26 #[.pointer (some ⟨o, 0, none⟩), .int .i64 f, .int .i64 t] w (GivesGap w L f t) := by
  obtain ⟨n, hnn⟩ : ∃ n, n = L.length := ⟨_, rfl⟩
  have HN := Lib.hid hnn
  have HG := Lib.hid hG
  obtain ⟨A, c, hv⟩ := h.shape
  rw [← hnn] at hn hv
  subst hv
  obtain ⟨f0, hf0⟩ : ∃ x, x = max f 0 := ⟨_, rfl⟩
  obtain ⟨t0, ht0⟩ : ∃ x, x = min t Ra.M := ⟨_, rfl⟩
  have F0 := Lib.hid hf0
  have T0 := Lib.hid ht0
  have HI := Lib.hid (show ∀ w4, Calls Try.prog 80 #[.int .i64 f, .int .i64 t] w4 (Gives w4 (.tuple #[.int .i64 f0, .int .i64 t0])) from fun w4 => by rw [hf0, ht0]; exact rinside_any f t w4)
  have HNX := Lib.hid (fun w4 (h4 : RbAt w4 o (.slice A n c) L) => rnext_any o _ L f0 w4 h4 hG (by omega))
  obtain ⟨w1, hw1⟩ : ∃ x, x = w.alloc (.cells #[.int .i64 0, .int .i64 0] 33) := ⟨_, rfl⟩
  obtain ⟨zb, hzb⟩ : ∃ x, x = w.heap.size := ⟨_, rfl⟩
  have HZB := Lib.hid hzb
  have HW1 := Lib.hid hw1
  have HC1 := Lib.hid (show Chg Nowhere w w1 by rw [hw1]; exact (Chg.refl Nowhere w).alloc _)
  have HV1 := Lib.hid (show w1.heap[zb]? = some (.cells #[.int .i64 0, .int .i64 0] 33 (0, 0)) by rw [hw1, hzb]; exact alloc_new _ _)
  have H1 := Lib.hid (h.idle HC1.out)
  have NMAX := Lib.hid (show ∀ x, NextIs L f0 x → NextIs L f x ∧ max f 0 ≤ x from fun x hx => by
    have : max f0 0 = max f 0 := by omega
    exact ⟨⟨by rw [← this]; exact hx.ge, hx.no, by rw [← this]; exact hx.all, by rw [← this]; exact hx.le⟩, by rw [← this]; exact hx.ge⟩)
  clear h hnn hG hf0 ht0 hw1 hzb
  go_enter Try.func26, Try.ntmps26
  go_upto_region 2 with (go_at_call 80; rw [← HW1.out]; refine (HI.out _).mono ?_; rintro e w2 ⟨rfl, hC⟩; have HC2 := Lib.hid hC; clear hC)
  go_upto_region 3 with (go_at_call 31; refine (HNX.out _ (H1.out.idle HC2.out)).mono ?_; rintro e w3 ⟨x, rfl, hX, hC⟩; have HX := Lib.hid (NMAX.out x hX); have HC3 := Lib.hid (HC2.out.then_none hC); clear hC hX)
  rw [← HZB.out]
  have HV3 := Lib.hid (HC3.out.same HV1.out)
  have HC03 := Lib.hid (HC1.out.then_none HC3.out)
  have y3 : w3.cell? ⟨zb, 0, none⟩ = some (.int .i64 0) := by rw [cell_blk HV3.out]; rfl
  have y4 : w3.cell? ⟨zb, 1, none⟩ = some (.int .i64 0) := by rw [cell_blk HV3.out]; rfl
  have y5 : w3.frozen? ⟨zb, 0, none⟩ = false := frozen_blk HV3.out
  have y6 : w3.frozen? ⟨zb, 1, none⟩ = false := frozen_blk HV3.out
  by_cases hxt : t0 ≤ x
  · have hd : decide (t0 ≤ x) = true := decide_eq_true hxt
    have HR := Lib.hid (show GapIs L f t (0, 0) false from ⟨fun _ => ⟨rfl, fun y h1 h2 => HX.out.1.all y h1 (by rw [← T0.out] at h2; omega)⟩, fun h => (by cases h)⟩)
    go_wp2_with fail
    have hb := at_res HV3.out 0 0 0
    refine bodyPost_ret (results_range rfl _ _ zb 0 0 (.bool false) rfl rfl hb.1 hb.2.1) rfl ⟨(0, 0), false, rfl, HR.out, HC03.out.then_new hb.2.2 (by have := HZB.out; omega)⟩
  · have hd : decide (t0 ≤ x) = false := decide_eq_false hxt
    clear y3 y4 y5 y6
    go_wp2_with fail
    go_loopw [2, 9] (fun s i wr => ∃ (k : Nat) (y : Int), k ≤ n ∧ i = .int .i64 (k : Int) ∧ s = .int .i64 y ∧ Hid (GapUp L x t0 y k) ∧ Chg Nowhere w3 wr) (fun _ i _ => n - (intOf i).toNat)
    case atStart => exact ⟨0, t0, by omega, rfl, rfl, Lib.hid ⟨by omega, Int.le_refl _, fun j hj => by omega, .inl rfl⟩, Chg.refl _ _⟩
    case round =>
      obtain ⟨k, y, hk, rfl, rfl, HU, hC⟩ := hrel
      have HC := Lib.hid hC
      clear hC
      have HH := Lib.hid ((H1.out.idle HC3.out).idle HC.out)
      have y0 := HH.out.cell0
      by_cases hk2 : k < n
      · have hdk : decide ((k : Int) < (n : Int)) = true := decide_eq_true (by omega)
        obtain ⟨g, c', hv, hg, cx, cy⟩ := HH.out.cells (k := k) (by rw [← HN.out]; exact hk2)
        simp only [Value.slice.injEq] at hv
        obtain ⟨rfl, -, rfl⟩ := hv
        obtain ⟨a, ha⟩ : ∃ x, x = (L.getD k (0, 0)).1 := ⟨_, rfl⟩
        rw [← ha] at cx
        have HE := Lib.hid ha
        have HMA := Lib.hid (show Ra.mem L a from mem_at_row (k := k) (by rw [← HN.out]; exact hk2) (by rw [ha]; exact Int.le_refl _) (by rw [ha]; exact (HG.out.getD (by rw [← HN.out]; exact hk2)).2.1))
        have hki : (k : Int) < (n : Int) := by omega
        clear ha cy
        have LOW := Lib.hid (show ∀ z, z ≤ y → (x < a → z ≤ a) → ∀ j, j < k + 1 → j < L.length → x < (L.getD j (0, 0)).1 → z ≤ (L.getD j (0, 0)).1 from fun z h1 h2 j hj hjl hx => by
          rcases (by omega : j < k ∨ j = k) with h | rfl
          · have := HU.out.low j h hjl hx; omega
          · rw [← HE.out] at hx ⊢; exact h2 hx)
        by_cases h1 : x < a
        · have d1 : decide (x < a) = true := decide_eq_true h1
          rcases (by omega : y < a ∨ y = a ∨ a < y) with h2 | h2 | h2
          · have HU2 := Lib.hid (show GapUp L x t0 y (k + 1) from ⟨HU.out.lt, HU.out.le, LOW.out y (Int.le_refl _) (fun _ => by omega), HU.out.top⟩)
            go_wp2_with fail
            go_roundw
            case rel => exact ⟨k + 1, y, by omega, by go_num, rfl, HU2, HC.out⟩
            case measure => simp [intOf]; omega
          · subst h2
            have HU2 := Lib.hid (show GapUp L x t0 y (k + 1) from ⟨HU.out.lt, HU.out.le, LOW.out y (Int.le_refl _) (fun _ => by omega), HU.out.top⟩)
            go_wp2_with fail
            go_roundw
            case rel => exact ⟨k + 1, y, by omega, by go_num, rfl, HU2, HC.out⟩
            case measure => simp [intOf]; omega
          · have HU2 := Lib.hid (show GapUp L x t0 a (k + 1) from ⟨h1, by have := HU.out.le; omega, LOW.out a (by omega) (fun _ => Int.le_refl _), .inr HMA.out⟩)
            go_wp2_with fail
            go_roundw
            case rel => exact ⟨k + 1, a, by omega, by go_num, rfl, HU2, HC.out⟩
            case measure => simp [intOf]; omega
        · have d1 : decide (x < a) = false := decide_eq_false h1
          have HU2 := Lib.hid (show GapUp L x t0 y (k + 1) from ⟨HU.out.lt, HU.out.le, LOW.out y (Int.le_refl _) (fun h => absurd h h1), HU.out.top⟩)
          go_wp2_with fail
          go_roundw
          case rel => exact ⟨k + 1, y, by omega, by go_num, rfl, HU2, HC.out⟩
          case measure => simp [intOf]; omega
      · obtain rfl : k = n := by omega
        have hdk : decide ((k : Int) < (k : Int)) = false := decide_eq_false (by omega)
        have HR := Lib.hid (show GapIs L f t (x, y) true from GapUp.done HX.out.1 HX.out.2 (by rw [← T0.out, ← HN.out]; exact HU.out))
        have HV4 := Lib.hid (HC.out.same HV3.out)
        have y3 : wr.cell? ⟨zb, 0, none⟩ = some (.int .i64 0) := by rw [cell_blk HV4.out]; rfl
        have y4 : wr.cell? ⟨zb, 1, none⟩ = some (.int .i64 0) := by rw [cell_blk HV4.out]; rfl
        have y5 : wr.frozen? ⟨zb, 0, none⟩ = false := frozen_blk HV4.out
        have y6 : wr.frozen? ⟨zb, 1, none⟩ = false := frozen_blk HV4.out
        go_wp2_with fail
        have hb := at_res HV4.out x y 0
        refine bodyPost_ret (results_range rfl _ _ zb x y (.bool true) rfl rfl hb.1 hb.2.1) rfl ⟨(x, y), true, rfl, HR.out, (HC03.out.then_none HC.out).then_new hb.2.2 (by have := HZB.out; omega)⟩
theorem rcovers_any (o : Nat) (v : Value) (L : List Ra.Row) (f t : Int) (w : World) (h : RbAt w o v L) (hG : Ra.Good L) (hn : L.length ≤ 2000000) :
    Calls Try.prog 33 #[.pointer (some ⟨o, 0, none⟩), .int .i64 f, .int .i64 t] w (GivesCov w L f t) := by
  have HC := Lib.hid (rgap_any o v L f t w h hG hn)
  clear h hG
  go_enter Try.func33, Try.ntmps33
  go_wp2_with fail
  refine HC.out.mono ?_
  rintro e w2 ⟨g, b, rfl, h2, h3⟩
  have H2 := Lib.hid h2.cov
  have H3 := Lib.hid h3
  clear h2 h3 HC
  go_wp2_with fail
  go_ret
  exact ⟨_, rfl, H2.out, (by first | exact H3.out.alloc _ | exact ((H3.out.alloc _).put (.inr H3.out.size)).put (.inr H3.out.size))⟩
end Go.Proofs.Ytlkbfacdaelbfaa
