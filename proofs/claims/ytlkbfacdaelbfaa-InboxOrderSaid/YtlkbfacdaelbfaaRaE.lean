/-
  Package ranges: Gap, Covers (the walks).
-/
import Derived.Test.YtlkbfacdaelbfaaRaD
import Derived.Deep.DeepCutAuto
namespace Go.Proofs.Ytlkbfacdaelbfaa
open Go.RowKit
set_option linter.unusedVariables false

/-- The first gap. -/
structure GapIs (L : List Ra.Row) (f t : Int) (g : Ra.Row) (b : Bool) : Prop where
  no : b = false → g = (0, 0) ∧ ∀ y, max f 0 ≤ y → y < min t Ra.M → Ra.mem L y
  yes : b = true → (max f 0 ≤ g.1 ∧ g.1 < g.2 ∧ g.2 ≤ min t Ra.M) ∧ (∀ y, max f 0 ≤ y → y < g.1 → Ra.mem L y) ∧ (∀ y, g.1 ≤ y → y < g.2 → ¬ Ra.mem L y) ∧ (g.2 = min t Ra.M ∨ Ra.mem L g.2)
def GivesGap (w : World) (L : List Ra.Row) (f t : Int) : Ending → World → Prop := fun e w' => ∃ g b, e = .returned (.tuple #[.agg #[.int .i64 g.1, .int .i64 g.2], .bool b]) ∧ GapIs L f t g b ∧ Chg Nowhere w w'
theorem gap_end {L : List Ra.Row} (hG : Ra.Good L) {x : Int} (hx : ¬ Ra.mem L x) {i : Nat} (h1 : ∀ k, k < i → k < L.length → (L.getD k (0, 0)).1 ≤ x) {z : Int} (h2 : ∀ k, i ≤ k → k < L.length → z ≤ (L.getD k (0, 0)).1) :
    ∀ y, x ≤ y → y < z → ¬ Ra.mem L y := by
  rintro y hy hy2 ⟨r, hr, h3, h4⟩
  obtain ⟨k, hk, e⟩ := List.mem_iff_getElem.1 hr
  have e2 : L.getD k (0, 0) = r := by rw [List.getD_eq_getElem?_getD, List.getElem?_eq_getElem hk, Option.getD_some, e]
  rcases (by omega : k < i ∨ i ≤ k) with hki | hki
  · have := h1 k hki hk
    rw [e2] at this
    exact hx ⟨r, hr, this, by omega⟩
  · have := h2 k hki hk
    rw [e2] at this
    omega
theorem Cutoff.facts {F : Nat → Int} {x : Int} {n i : Nat} (hi : Cutoff (fun k => decide (x < F k)) n i) : i ≤ n ∧ (∀ k, k < i → F k ≤ x) ∧ (∀ k, i ≤ k → k < n → x < F k) := by
  simp only [Cutoff, decide_eq_true_eq, decide_eq_false_iff_not] at hi
  exact ⟨hi.1, fun k hk => (by have := hi.2.1 k hk; omega), hi.2.2⟩
theorem set_one {w : World} {g t : Nat} {x y : Value} (h : w.heap[g]? = some (.cells #[x] t (0, 0))) : (w.setCell ⟨g, 0, none⟩ y).heap[g]? = some (.cells #[y] t (0, 0)) := by
  have := set_blk (o := 0) y h
  exact this
set_option maxHeartbeats 4000000 in
set_option maxRecDepth 100000 in
theorem gap_any (o : Nat) (v : Value) (L : List Ra.Row) (f t : Int) (w : World) (h : RaAt w o v L) (hG : Ra.Good L) (hn : L.length ≤ 2000000) :
    Calls Try.prog 20 #[.pointer (some ⟨o, 0, none⟩), .int .i64 f, .int .i64 t] w (GivesGap w L f t) := by
  have hmf : ∀ (fn : Fn) (first cap : Array Value) (w : World), (Instr.makeFunc fn first cap).run Try.prog w = .ok (.func fn first cap) w := fun _ _ _ _ => rfl
  obtain ⟨n, hnn⟩ : ∃ n, n = L.length := ⟨_, rfl⟩
  obtain ⟨f0, hf0⟩ : ∃ x, x = max f 0 := ⟨_, rfl⟩
  obtain ⟨t0, ht0⟩ : ∃ x, x = min t Ra.M := ⟨_, rfl⟩
  obtain ⟨b0, hb0⟩ : ∃ b, b = w.heap.size := ⟨_, rfl⟩
  obtain ⟨w3, hw3⟩ : ∃ w3, w3 = ((w.alloc (.cells #[.pointer (some ⟨o, 0, none⟩)] 25)).alloc (.cells #[.int .i64 f] 3)).alloc (.cells #[.int .i64 0, .int .i64 0] 33) := ⟨_, rfl⟩
  have hC0 : Chg Nowhere w w3 := by rw [hw3]; exact (((Chg.refl Nowhere w).alloc _).alloc _).alloc _
  have h3 := h.idle hC0
  obtain ⟨A, c, rfl⟩ := h3.shape
  have s1 : (w.alloc (.cells #[.pointer (some ⟨o, 0, none⟩)] 25)).heap.size = w.heap.size + 1 := by simp
  have s2 : ((w.alloc (.cells #[.pointer (some ⟨o, 0, none⟩)] 25)).alloc (.cells #[.int .i64 f] 3)).heap.size = w.heap.size + 1 + 1 := by simp
  have k1 : w3.heap[b0]? = some (.cells #[.pointer (some ⟨o, 0, none⟩)] 25 (0, 0)) := by rw [hw3, hb0]; exact alloc_old (alloc_old (alloc_new _ _))
  have k2 : w3.heap[b0 + 1]? = some (.cells #[.int .i64 f] 3 (0, 0)) := by rw [hw3, hb0]; have := alloc_new (w.alloc (.cells #[.pointer (some ⟨o, 0, none⟩)] 25)) (.cells #[.int .i64 f] 3); rw [s1] at this; exact alloc_old this
  have k3 : w3.heap[b0 + 1 + 1]? = some (.cells #[.int .i64 0, .int .i64 0] 33 (0, 0)) := by rw [hw3, hb0]; have := alloc_new ((w.alloc (.cells #[.pointer (some ⟨o, 0, none⟩)] 25)).alloc (.cells #[.int .i64 f] 3)) (.cells #[.int .i64 0, .int .i64 0] 33); rw [s2] at this; exact this
  have hlo : o < w.heap.size := lt_blk h.blk
  have x2 : w3.cell? ⟨b0 + 1, 0, none⟩ = some (.int .i64 f) := by rw [cell_blk k2]; rfl
  have HI := Lib.hid (show ∀ w4, Calls Try.prog 72 #[.int .i64 f, .int .i64 t] w4 (Gives w4 (.tuple #[.int .i64 f0, .int .i64 t0])) from fun w4 => by rw [hf0, ht0]; exact inside_any f t w4)
  have HNX := Lib.hid (show ∀ w4, RaAt w4 o (.slice A L.length c) L → Calls Try.prog 30 #[.pointer (some ⟨o, 0, none⟩), .int .i64 f0] w4 (GivesNext w4 L f0) from fun w4 h4 => nextRa_any o _ L f0 w4 h4 hG hn)
  have HSE := Lib.hid (show ∀ w4 x, RaAt w4 o (.slice A L.length c) L → w4.heap[b0]? = some (.cells #[.pointer (some ⟨o, 0, none⟩)] 25 (0, 0)) → w4.heap[b0 + 1]? = some (.cells #[.int .i64 x] 3 (0, 0)) →
      Calls Try.prog 77 #[.int .i64 (L.length : Int), .func (.func 78) #[] #[.pointer (some ⟨b0, 0, none⟩), .pointer (some ⟨b0 + 1, 0, none⟩)]] w4 (GivesCut w4 (fun k => decide (x < (L.getD k (0, 0)).1)) L.length) from fun w4 x h4 q1 q2 =>
    search_any L.length (by omega) _ _ _ w4 enter_gap1 (fun w5 k hc hk => gap1_any _ _ o x _ L w5 (h4.idle hc) (by rw [cell_blk (hc.same q1)]; rfl) (by rw [cell_blk (hc.same q2)]; rfl) k hk) (fun a b hab hb ha => by
      simp only [decide_eq_true_eq] at ha ⊢
      rcases (by omega : a = b ∨ a < b) with rfl | hlt
      · exact ha
      · have := hG.lt hlt hb; have := hG.getD (k := a) (by omega); omega))
  rw [← hnn] at HNX HSE h3
  have F0 := Lib.hid hf0
  have T0 := Lib.hid ht0
  have HC0 := Lib.hid hC0
  have HN := Lib.hid hnn
  have HG := Lib.hid hG
  have W3 := Lib.hid hw3
  have H3 := Lib.hid h3
  have K1 := Lib.hid k1
  have K2 := Lib.hid k2
  have K3 := Lib.hid k3
  have B0 := Lib.hid hb0
  have hob : o < b0 := by omega
  rw [hw3, hb0] at x2
  clear h h3 hG hnn hC0 k1 k2 k3 s1 s2 hw3 hf0 ht0 hlo hb0 hn
  go_enter Try.func20, Try.ntmps20
  go_upto_region 2 with (go_at_call 72; rw [← W3.out, ← B0.out]; refine (HI.out _).mono ?_; rintro e w4 ⟨rfl, hC4⟩; have HC4 := Lib.hid hC4; clear hC4; have x5 : w4.cell? ⟨b0 + 1, 0, none⟩ = some (.int .i64 f) := (by rw [cell_blk (HC4.out.same K2.out)]; rfl); have f5 : w4.frozen? ⟨b0 + 1, 0, none⟩ = false := frozen_blk (HC4.out.same K2.out))
  show Code.wp _ _ _ _ (w4.setCell ⟨b0 + 1, 0, none⟩ (.int .i64 f0))
  have hCS : Chg (At (b0 + 1)) w4 (w4.setCell ⟨b0 + 1, 0, none⟩ (.int .i64 f0)) := (Chg.refl (At (b0 + 1)) w4).putAt
  have L1 := Lib.hid (hCS.keep (HC4.out.same K1.out) (fun e => by have : b0 = b0 + 1 := e; omega))
  have L2 := Lib.hid (set_one (y := .int .i64 f0) (HC4.out.same K2.out))
  have L3 := Lib.hid (hCS.keep (HC4.out.same K3.out) (fun e => by have : b0 + 1 + 1 = b0 + 1 := e; omega))
  have LH := Lib.hid ((H3.out.idle HC4.out).chg hCS (fun e => by have : o = b0 + 1 := e; omega) (fun i hi e => by
    have hq : i = b0 + 1 := e
    obtain ⟨cur, hh⟩ := own_blk (H3.out.idle HC4.out).row hi
    rw [hq, HC4.out.same K2.out] at hh
    simp only [Option.some.injEq, Obj.cells.injEq] at hh
    exact absurd hh.2.1 (by decide)))
  have LC := Lib.hid ((HC0.out.then_none HC4.out).then_new hCS (by have := B0.out; omega))
  generalize w4.setCell ⟨b0 + 1, 0, none⟩ (.int .i64 f0) = w5 at L1 L2 L3 LH LC ⊢
  clear hCS HC4 K1 K2 K3 H3 HC0 W3 x5 f5 x2
  have y1 : w5.cell? ⟨b0, 0, none⟩ = some (.pointer (some ⟨o, 0, none⟩)) := by rw [cell_blk L1.out]; rfl
  have y2 : w5.cell? ⟨b0 + 1, 0, none⟩ = some (.int .i64 f0) := by rw [cell_blk L2.out]; rfl
  go_upto_region 3 with (go_at_call 30; refine (HNX.out _ LH.out).mono ?_; rintro e w6 ⟨x, rfl, hX, hC6⟩; have HX := Lib.hid hX; have HC6 := Lib.hid hC6; clear hC6 hX; have x6 : w6.cell? ⟨b0 + 1, 0, none⟩ = some (.int .i64 f0) := (by rw [cell_blk (HC6.out.same L2.out)]; rfl); have f6 : w6.frozen? ⟨b0 + 1, 0, none⟩ = false := frozen_blk (HC6.out.same L2.out))
  show Code.wp _ _ _ _ (w6.setCell ⟨b0 + 1, 0, none⟩ (.int .i64 x))
  have hCS : Chg (At (b0 + 1)) w6 (w6.setCell ⟨b0 + 1, 0, none⟩ (.int .i64 x)) := (Chg.refl (At (b0 + 1)) w6).putAt
  have M1 := Lib.hid (hCS.keep (HC6.out.same L1.out) (fun e => by have : b0 = b0 + 1 := e; omega))
  have M2 := Lib.hid (set_one (y := .int .i64 x) (HC6.out.same L2.out))
  have M3 := Lib.hid (hCS.keep (HC6.out.same L3.out) (fun e => by have : b0 + 1 + 1 = b0 + 1 := e; omega))
  have MH := Lib.hid ((LH.out.idle HC6.out).chg hCS (fun e => by have : o = b0 + 1 := e; omega) (fun i hi e => by
    have hq : i = b0 + 1 := e
    obtain ⟨cur, hh⟩ := own_blk (LH.out.idle HC6.out).row hi
    rw [hq, HC6.out.same L2.out] at hh
    simp only [Option.some.injEq, Obj.cells.injEq] at hh
    exact absurd hh.2.1 (by decide)))
  have MC := Lib.hid ((LC.out.then_none HC6.out).then_new hCS (by have := B0.out; omega))
  generalize w6.setCell ⟨b0 + 1, 0, none⟩ (.int .i64 x) = w7 at M1 M2 M3 MH MC ⊢
  clear hCS HC6 L1 L2 L3 LH LC x6 f6 y1 y2 HNX HI
  have y1 : w7.cell? ⟨b0, 0, none⟩ = some (.pointer (some ⟨o, 0, none⟩)) := by rw [cell_blk M1.out]; rfl
  have y2 : w7.cell? ⟨b0 + 1, 0, none⟩ = some (.int .i64 x) := by rw [cell_blk M2.out]; rfl
  have y3 : w7.cell? ⟨b0 + 1 + 1, 0, none⟩ = some (.int .i64 0) := by rw [cell_blk M3.out]; rfl
  have y4 : w7.cell? ⟨b0 + 1 + 1, 1, none⟩ = some (.int .i64 0) := by rw [cell_blk M3.out]; rfl
  have y5 : w7.frozen? ⟨b0 + 1 + 1, 0, none⟩ = false := frozen_blk M3.out
  have y6 : w7.frozen? ⟨b0 + 1 + 1, 1, none⟩ = false := frozen_blk M3.out
  have yo : w7.cell? ⟨o, 0, none⟩ = some (.slice A n c) := by rw [cell_blk MH.out.blk]; rfl
  by_cases hxt : t0 ≤ x
  · have hd : decide (t0 ≤ x) = true := decide_eq_true hxt
    have HR := Lib.hid (show GapIs L f t (0, 0) false from ⟨fun _ => ⟨rfl, fun y h1 h2 => HX.out.all y (by rw [F0.out]; omega) (by rw [← T0.out] at h2; omega)⟩, fun h => (by cases h)⟩)
    go_wp2_with fail
    have hb := at_res M3.out 0 0 0
    refine bodyPost_ret (results_range rfl _ _ (b0 + 1 + 1) 0 0 (.bool false) rfl rfl hb.1 hb.2.1) rfl ⟨(0, 0), false, rfl, HR.out, MC.out.then_new hb.2.2 (by have := B0.out; omega)⟩
  · have hd : decide (t0 ≤ x) = false := decide_eq_false hxt
    go_upto_region 6 with (go_at_call 77; refine (HSE.out _ x MH.out M1.out M2.out).mono ?_; rintro e w8 ⟨i, rfl, hi, hC8⟩; have HI := Lib.hid hi.facts; have HC8 := Lib.hid hC8; clear hi hC8)
    have hin := HI.out.1
    have z1 : w8.cell? ⟨b0, 0, none⟩ = some (.pointer (some ⟨o, 0, none⟩)) := by rw [cell_blk (HC8.out.same M1.out)]; rfl
    have z2 : w8.cell? ⟨b0 + 1, 0, none⟩ = some (.int .i64 x) := by rw [cell_blk (HC8.out.same M2.out)]; rfl
    have z3 : w8.cell? ⟨b0 + 1 + 1, 0, none⟩ = some (.int .i64 0) := by rw [cell_blk (HC8.out.same M3.out)]; rfl
    have z4 : w8.cell? ⟨b0 + 1 + 1, 1, none⟩ = some (.int .i64 0) := by rw [cell_blk (HC8.out.same M3.out)]; rfl
    have z5 : w8.frozen? ⟨b0 + 1 + 1, 0, none⟩ = false := frozen_blk (HC8.out.same M3.out)
    have z6 : w8.frozen? ⟨b0 + 1 + 1, 1, none⟩ = false := frozen_blk (HC8.out.same M3.out)
    have zo : w8.cell? ⟨o, 0, none⟩ = some (.slice A n c) := by rw [cell_blk (HC8.out.same MH.out.blk)]; rfl
    have K8 := Lib.hid (HC8.out.same M3.out)
    have H8 := Lib.hid (MH.out.idle HC8.out)
    have C8 := Lib.hid (MC.out.then_none HC8.out)
    have hfx : f0 ≤ x := by have := HX.out.ge; have := F0.out; omega
    have GOOD := Lib.hid (show ∀ z, x < z → z ≤ t0 → (∀ k, i ≤ k → k < n → z ≤ (L.getD k (0, 0)).1) → (z = t0 ∨ Ra.mem L z) → GapIs L f t (x, z) true from fun z h1 h2 h3 h4 => ⟨fun h => (by cases h), fun _ => ⟨⟨by simp only; rw [← F0.out]; exact hfx, h1, by rw [← T0.out]; exact h2⟩, fun y q1 q2 => HX.out.all y (by rw [F0.out]; omega) q2, gap_end HG.out HX.out.no (fun k q1 _ => HI.out.2.1 k q1) (fun k q1 q2 => h3 k q1 (by rw [HN.out]; exact q2)), by rw [← T0.out]; exact h4⟩⟩)
    clear M1 M2 M3 MH MC HC8 y1 y2 y3 y4 y5 y6 yo HSE
    by_cases hi2 : i < n
    · obtain ⟨g, c', hv, hg, d0, d1⟩ := H8.out.cells (k := i) (by rw [← HN.out]; exact hi2)
      simp only [Value.slice.injEq] at hv
      obtain ⟨rfl, -, rfl⟩ := hv
      obtain ⟨a, ha⟩ : ∃ a, a = (L.getD i (0, 0)).1 := ⟨_, rfl⟩
      obtain ⟨bb, hbb⟩ : ∃ a, a = (L.getD i (0, 0)).2 := ⟨_, rfl⟩
      rw [← ha] at d0
      rw [← hbb] at d1
      have hxa : x < a := by rw [ha]; exact HI.out.2.2 i (Nat.le_refl _) hi2
      have HA := Lib.hid (show (∀ k, i ≤ k → k < n → a ≤ (L.getD k (0, 0)).1) ∧ Ra.mem L a by
        have hil : i < L.length := by rw [← HN.out]; exact hi2
        refine ⟨fun k q1 q2 => ?_, L.getD i (0, 0), List.mem_of_getElem? (some_getD hil), by rw [ha]; exact Int.le_refl _, by rw [ha]; exact (HG.out.getD hil).2.1⟩
        rcases (by omega : k = i ∨ i < k) with rfl | hlt
        · rw [ha]; exact Int.le_refl _
        · have := HG.out.lt hlt (by rw [← HN.out]; exact q2); have := HG.out.getD hil; omega)
      have hib : (i : Int) < (n : Int) := by omega
      have hdb : decide ((i : Int) < (n : Int)) = true := decide_eq_true hib
      clear ha hbb
      rcases (by omega : t0 < a ∨ t0 = a ∨ a < t0) with hta | hta | hta
      · have HR := Lib.hid (GOOD.out t0 (by omega) (Int.le_refl _) (fun k q1 q2 => by have := HA.out.1 k q1 q2; omega) (.inl rfl))
        go_wp2_with fail
        have hb := at_res K8.out x t0 0
        refine bodyPost_ret (results_range rfl _ _ (b0 + 1 + 1) x t0 (.bool true) rfl rfl hb.1 hb.2.1) rfl ⟨(x, t0), true, rfl, HR.out, C8.out.then_new hb.2.2 (by have := B0.out; omega)⟩
      · subst hta
        have HR := Lib.hid (GOOD.out t0 (by omega) (Int.le_refl _) (fun k q1 q2 => HA.out.1 k q1 q2) (.inl rfl))
        go_wp2_with fail
        have hb := at_res K8.out x t0 0
        refine bodyPost_ret (results_range rfl _ _ (b0 + 1 + 1) x t0 (.bool true) rfl rfl hb.1 hb.2.1) rfl ⟨(x, t0), true, rfl, HR.out, C8.out.then_new hb.2.2 (by have := B0.out; omega)⟩
      · have HR := Lib.hid (GOOD.out a hxa (by omega) (fun k q1 q2 => HA.out.1 k q1 q2) (.inr HA.out.2))
        go_wp2_with fail
        have hb := at_res K8.out x a 0
        refine bodyPost_ret (results_range rfl _ _ (b0 + 1 + 1) x a (.bool true) rfl rfl hb.1 hb.2.1) rfl ⟨(x, a), true, rfl, HR.out, C8.out.then_new hb.2.2 (by have := B0.out; omega)⟩
    · obtain rfl : i = n := by omega
      have hdb : decide ((i : Int) < (i : Int)) = false := decide_eq_false (by omega)
      have HR := Lib.hid (GOOD.out t0 (by omega) (Int.le_refl _) (fun k q1 q2 => by omega) (.inl rfl))
      go_wp2_with fail
      have hb := at_res K8.out x t0 0
      refine bodyPost_ret (results_range rfl _ _ (b0 + 1 + 1) x t0 (.bool true) rfl rfl hb.1 hb.2.1) rfl ⟨(x, t0), true, rfl, HR.out, C8.out.then_new hb.2.2 (by have := B0.out; omega)⟩
def GivesCov (w : World) (L : List Ra.Row) (f t : Int) : Ending → World → Prop := fun e w' => ∃ b, e = .returned (.bool b) ∧ (b = true ↔ ∀ y, max f 0 ≤ y → y < min t Ra.M → Ra.mem L y) ∧ Chg Nowhere w w'
theorem GapIs.cov {L : List Ra.Row} {f t : Int} {g : Ra.Row} {b : Bool} (h : GapIs L f t g b) : (!b) = true ↔ ∀ y, max f 0 ≤ y → y < min t Ra.M → Ra.mem L y := by
  cases b with
  | false => exact ⟨fun _ => (h.no rfl).2, fun _ => rfl⟩
  | true =>
    obtain ⟨h1, h2, h3, h4⟩ := h.yes rfl
    exact ⟨fun h => (by cases h), fun h => absurd (h g.1 h1.1 (by omega)) (h3 g.1 (Int.le_refl _) h1.2.1)⟩
theorem covers_any (o : Nat) (v : Value) (L : List Ra.Row) (f t : Int) (w : World) (h : RaAt w o v L) (hG : Ra.Good L) (hn : L.length ≤ 2000000) :
    Calls Try.prog 32 #[.pointer (some ⟨o, 0, none⟩), .int .i64 f, .int .i64 t] w (GivesCov w L f t) := by
  have HC := Lib.hid (gap_any o v L f t w h hG hn)
  clear h hG
  go_enter Try.func32, Try.ntmps32
  go_wp2_with fail
  refine HC.out.mono ?_
  rintro e w2 ⟨g, b, rfl, h2, h3⟩
  have H2 := Lib.hid h2.cov
  have H3 := Lib.hid h3
  clear h2 h3 HC
  go_wp2_with fail
  go_ret
  exact ⟨_, rfl, H2.out, (by first | exact H3.out.alloc _ | exact ((H3.out.alloc _).put (.inr H3.out.size)).put (.inr H3.out.size))⟩
end Go.Proofs.Ytlkbfacdaelbfaa
