/-
  Package ranges: at, Has, Next (the walks).
-/
import Derived.Test.YtlkbfacdaelbfaaRaB
namespace Go.Proofs.Ytlkbfacdaelbfaa
open Go.RowKit
set_option linter.unusedVariables false

theorem results_range {fn : Func} {p q : Tmp} (h : fn.results = #[.cell p 33, .tmp q]) (tmps : Array Value) (w : World) (g : Nat) (a b : Int) (v : Value)
    (hp : tmps.getD p undef = .pointer (some ⟨g, 0, none⟩)) (hv : tmps.getD q undef = v) (c0 : w.cell? ⟨g, 0, none⟩ = some (.int .i64 a)) (c1 : w.cell? ⟨g, 1, none⟩ = some (.int .i64 b)) :
    (results fn tmps).run Try.prog w = .ok (.tuple #[.agg #[.int .i64 a, .int .i64 b], v]) w := by
  have hp' : tmps[p]?.getD undef = .pointer (some ⟨g, 0, none⟩) := by simpa using hp
  have hv' : tmps[q]?.getD undef = v := by simpa using hv
  have hl : (loadVar 33 ⟨g, 0, none⟩).run Try.prog w = .ok (.agg #[.int .i64 a, .int .i64 b]) w := by go_simp
  simp [results, h, hp', hv', asAddr, hl]
/-- The row that holds a number. -/
structure AtIs (L : List Ra.Row) (n : Int) (r : Ra.Row) (b : Bool) : Prop where
  yes : b = true → r ∈ L ∧ r.1 ≤ n ∧ n < r.2
  no : b = false → r = (0, 0) ∧ ¬ Ra.mem L n
def GivesAt (w : World) (L : List Ra.Row) (n : Int) : Ending → World → Prop := fun e w' => ∃ r b, e = .returned (.tuple #[.agg #[.int .i64 r.1, .int .i64 r.2], .bool b]) ∧ AtIs L n r b ∧ Chg Nowhere w w'
theorem at_res {w4 : World} {g : Nat} {cs : Array Value} (h : w4.heap[g]? = some (.cells cs 33 (0, 0))) (a b : Int) (k : Nat) (hs : cs.size = 2 := by rfl) :
    (((w4.drewN k).setCell ⟨g, 0, none⟩ (.int .i64 a)).setCell ⟨g, 1, none⟩ (.int .i64 b)).cell? ⟨g, 0, none⟩ = some (.int .i64 a) ∧
    (((w4.drewN k).setCell ⟨g, 0, none⟩ (.int .i64 a)).setCell ⟨g, 1, none⟩ (.int .i64 b)).cell? ⟨g, 1, none⟩ = some (.int .i64 b) ∧
    Chg (At g) w4 (((w4.drewN k).setCell ⟨g, 0, none⟩ (.int .i64 a)).setCell ⟨g, 1, none⟩ (.int .i64 b)) := by
  have h0 : (w4.drewN k).heap[g]? = some (.cells cs 33 (0, 0)) := h
  have h1 := set_blk (o := 1) (.int .i64 b) (set_blk (o := 0) (.int .i64 a) h0)
  refine ⟨?_, ?_, (((Chg.refl (At g) w4).drewN k).putAt).putAt⟩
  · rw [cell_blk h1]; simp [hs]
  · rw [cell_blk h1]; simp [hs]
theorem Chg.then_new {S : Nat → Prop} {a b c : World} {g : Nat} (h : Chg S a b) (k : Chg (At g) b c) (hg : a.heap.size ≤ g) : Chg S a c := h.trans k fun i hi e => by have : i = g := e; omega
set_option maxHeartbeats 2000000 in
set_option maxRecDepth 100000 in
theorem at_any (o : Nat) (v : Value) (L : List Ra.Row) (x : Int) (w : World) (h : RaAt w o v L) (hG : Ra.Good L) (hn : L.length ≤ 2000000) :
    Calls Try.prog 79 #[.pointer (some ⟨o, 0, none⟩), .int .i64 x] w (GivesAt w L x) := by
  have hmf : ∀ (fn : Fn) (first cap : Array Value) (w : World), (Instr.makeFunc fn first cap).run Try.prog w = .ok (.func fn first cap) w := fun _ _ _ _ => rfl
  obtain ⟨n, hnn⟩ : ∃ n, n = L.length := ⟨_, rfl⟩
  obtain ⟨w3, hw3⟩ : ∃ w3, w3 = ((w.alloc (.cells #[.pointer (some ⟨o, 0, none⟩)] 25)).alloc (.cells #[.int .i64 x] 3)).alloc (.cells #[.int .i64 0, .int .i64 0] 33) := ⟨_, rfl⟩
  have hC0 : Chg Nowhere w w3 := by rw [hw3]; exact (((Chg.refl Nowhere w).alloc _).alloc _).alloc _
  have h3 := h.idle hC0
  obtain ⟨A, c, rfl⟩ := h3.shape
  rw [← hnn] at h3 hn
  have s1 : (w.alloc (.cells #[.pointer (some ⟨o, 0, none⟩)] 25)).heap.size = w.heap.size + 1 := by simp
  have s2 : ((w.alloc (.cells #[.pointer (some ⟨o, 0, none⟩)] 25)).alloc (.cells #[.int .i64 x] 3)).heap.size = w.heap.size + 1 + 1 := by simp
  have k1 : w3.heap[w.heap.size]? = some (.cells #[.pointer (some ⟨o, 0, none⟩)] 25 (0, 0)) := by rw [hw3]; exact alloc_old (alloc_old (alloc_new _ _))
  have k2 : w3.heap[w.heap.size + 1]? = some (.cells #[.int .i64 x] 3 (0, 0)) := by rw [hw3]; have := alloc_new (w.alloc (.cells #[.pointer (some ⟨o, 0, none⟩)] 25)) (.cells #[.int .i64 x] 3); rw [s1] at this; exact alloc_old this
  have k3 : w3.heap[w.heap.size + 1 + 1]? = some (.cells #[.int .i64 0, .int .i64 0] 33 (0, 0)) := by rw [hw3]; have := alloc_new ((w.alloc (.cells #[.pointer (some ⟨o, 0, none⟩)] 25)).alloc (.cells #[.int .i64 x] 3)) (.cells #[.int .i64 0, .int .i64 0] 33); rw [s2] at this; exact this
  have c1 : ∀ w4, Chg Nowhere w3 w4 → w4.cell? ⟨w.heap.size, 0, none⟩ = some (.pointer (some ⟨o, 0, none⟩)) := fun w4 hc => by rw [cell_blk (hc.same k1)]; rfl
  have c2 : ∀ w4, Chg Nowhere w3 w4 → w4.cell? ⟨w.heap.size + 1, 0, none⟩ = some (.int .i64 x) := fun w4 hc => by rw [cell_blk (hc.same k2)]; rfl
  have co : ∀ w4, Chg Nowhere w3 w4 → w4.cell? ⟨o, 0, none⟩ = some (.slice A n c) := fun w4 hc => by rw [cell_blk (hc.same h3.blk)]; rfl
  have HS1 := Lib.hid (show ∀ w4, Chg Nowhere w3 w4 → Calls Try.prog 77 #[.int .i64 (n : Int), .func (.func 96) #[] #[.pointer (some ⟨w.heap.size, 0, none⟩), .pointer (some ⟨w.heap.size + 1, 0, none⟩)]] w4 (GivesCut w4 (fun k => decide (x < (L.getD k (0, 0)).2)) n) from fun w4 hc =>
    search_any n (by omega) _ _ _ w4 enter_at1 (fun w5 k hc5 hk => at1_any _ _ o x _ L w5 (h3.idle (hc.then_none hc5)) (c1 _ (hc.then_none hc5)) (c2 _ (hc.then_none hc5)) k (by omega)) (fun a b hab hb ha => by
      simp only [decide_eq_true_eq] at ha ⊢
      rcases (by omega : a = b ∨ a < b) with rfl | hlt
      · exact ha
      · have := hG.lt hlt (by omega); have := hG.getD (k := b) (by omega); omega))
  have x1 := c1 w3 (Chg.refl _ _)
  have xo := co w3 (Chg.refl _ _)
  have HC0 := Lib.hid hC0
  have C1 := Lib.hid c1
  have C2 := Lib.hid c2
  have CO := Lib.hid co
  have HN := Lib.hid hnn
  have HG := Lib.hid hG
  have W3 := Lib.hid hw3
  have H3 := Lib.hid h3
  have K3 := Lib.hid k3
  rw [hw3] at x1 xo
  clear h h3 hG hnn hC0 c1 c2 co k1 k2 k3 s1 s2 hw3
  go_enter Try.func79, Try.ntmps79
  go_wp2_with fail
  rw [← W3.out]
  refine (HS1.out _ (Chg.refl _ _)).mono ?_
  rintro e w4 ⟨i, rfl, hi, hC4⟩
  have HI := Lib.hid (show i ≤ n ∧ (∀ k, k < i → (L.getD k (0, 0)).2 ≤ x) ∧ (∀ k, i ≤ k → k < n → x < (L.getD k (0, 0)).2) by
    have hi := hi
    simp only [Cutoff, decide_eq_true_eq, decide_eq_false_iff_not] at hi
    exact ⟨hi.1, fun k hk => by have := hi.2.1 k hk; omega, hi.2.2⟩)
  have hin := HI.out.1
  have HC4 := Lib.hid hC4
  have y1 := C1.out w4 hC4
  have y2 := C2.out w4 hC4
  have yo := CO.out w4 hC4
  have HK4 := Lib.hid (hC4.same K3.out)
  have HCW := Lib.hid (HC0.out.then_none hC4)
  have H4 := Lib.hid (H3.out.idle hC4)
  clear hi hC4 x1 xo
  rcases (by omega : i = n ∨ i < n) with hc | hc
  · subst hc
    have hno : ¬ Ra.mem L x := fun ⟨r, hr, h1, h2⟩ => by
      obtain ⟨k, hk, e⟩ := List.mem_iff_getElem.1 hr
      have := HI.out.2.1 k (by rw [HN.out]; exact hk)
      rw [List.getD_eq_getElem?_getD, List.getElem?_eq_getElem hk, Option.getD_some, e] at this
      omega
    have HR := Lib.hid (show AtIs L x (0, 0) false from ⟨fun h => (by cases h), fun _ => ⟨rfl, hno⟩⟩)
    have z0 : w4.cell? ⟨w.heap.size + 1 + 1, 0, none⟩ = some (.int .i64 0) := by rw [cell_blk HK4.out]; rfl
    have z1 : w4.cell? ⟨w.heap.size + 1 + 1, 1, none⟩ = some (.int .i64 0) := by rw [cell_blk HK4.out]; rfl
    have zf0 : w4.frozen? ⟨w.heap.size + 1 + 1, 0, none⟩ = false := frozen_blk HK4.out
    have zf1 : w4.frozen? ⟨w.heap.size + 1 + 1, 1, none⟩ = false := frozen_blk HK4.out
    go_wp2_with fail
    go_quiet (fail)
    go_wp2_with fail
    have hb := at_res HK4.out 0 0 nq
    refine bodyPost_ret (results_range rfl _ _ (w.heap.size + 1 + 1) 0 0 (.bool false) rfl rfl hb.1 hb.2.1) rfl ⟨(0, 0), false, rfl, HR.out, HCW.out.then_new hb.2.2 (by omega)⟩
  · obtain ⟨g, c', hv, hg, d0, d1⟩ := H4.out.cells (k := i) (by rw [← HN.out]; exact hc)
    simp only [Value.slice.injEq] at hv
    obtain ⟨rfl, -, rfl⟩ := hv
    obtain ⟨a, ha⟩ : ∃ a, a = (L.getD i (0, 0)).1 := ⟨_, rfl⟩
    obtain ⟨b, hb⟩ : ∃ a, a = (L.getD i (0, 0)).2 := ⟨_, rfl⟩
    rw [← ha] at d0
    rw [← hb] at d1
    have hxb := HI.out.2.2 i (Nat.le_refl _) hc
    rw [← hb] at hxb
    have HAB := Lib.hid (show L[i]? = some (a, b) by rw [some_getD (d := (0, 0)) (by rw [← HN.out]; exact hc), ha, hb])
    have hni : ¬ ((i : Int) = (n : Int)) := by omega
    have hdn : decide ((i : Int) = (n : Int)) = false := decide_eq_false hni
    have hib : (i : Int) < (n : Int) := by omega
    have z0 : w4.cell? ⟨w.heap.size + 1 + 1, 0, none⟩ = some (.int .i64 0) := by rw [cell_blk HK4.out]; rfl
    have z1 : w4.cell? ⟨w.heap.size + 1 + 1, 1, none⟩ = some (.int .i64 0) := by rw [cell_blk HK4.out]; rfl
    have zf0 : w4.frozen? ⟨w.heap.size + 1 + 1, 0, none⟩ = false := frozen_blk HK4.out
    have zf1 : w4.frozen? ⟨w.heap.size + 1 + 1, 1, none⟩ = false := frozen_blk HK4.out
    clear ha hb
    by_cases hax : a ≤ x
    · have hda : decide (x < a) = false := decide_eq_false (by omega)
      have HR := Lib.hid (show AtIs L x (a, b) true from ⟨fun _ => ⟨List.mem_of_getElem? HAB.out, hax, hxb⟩, fun h => (by cases h)⟩)
      go_wp2_with fail
      go_quiet (fail)
      go_wp2_with fail
      have hb := at_res HK4.out a b nq
      refine bodyPost_ret (results_range rfl _ _ (w.heap.size + 1 + 1) a b (.bool true) rfl rfl hb.1 hb.2.1) rfl ⟨(a, b), true, rfl, HR.out, HCW.out.then_new hb.2.2 (by omega)⟩
    · have hda : decide (x < a) = true := decide_eq_true (by omega)
      have hno : ¬ Ra.mem L x := fun ⟨r, hr, h1, h2⟩ => by
        obtain ⟨k, hk, e⟩ := List.mem_iff_getElem.1 hr
        have e2 : L.getD k (0, 0) = r := by rw [List.getD_eq_getElem?_getD, List.getElem?_eq_getElem hk, Option.getD_some, e]
        rcases (by omega : k < i ∨ i ≤ k) with hki | hki
        · have := HI.out.2.1 k hki; rw [e2] at this; omega
        · rcases (by omega : k = i ∨ i < k) with rfl | hki
          · have := HAB.out
            rw [List.getElem?_eq_getElem hk, Option.some.injEq] at this
            rw [e] at this; subst this; simp only at h1; omega
          · have q := HG.out.lt hki hk
            rw [e2] at q
            have := HAB.out
            rw [List.getD_eq_getElem?_getD, this, Option.getD_some] at q
            simp only at q
            omega
      have HR := Lib.hid (show AtIs L x (0, 0) false from ⟨fun h => (by cases h), fun _ => ⟨rfl, hno⟩⟩)
      clear hno
      go_wp2_with fail
      go_quiet (fail)
      go_wp2_with fail
      have hb := at_res HK4.out 0 0 nq
      refine bodyPost_ret (results_range rfl _ _ (w.heap.size + 1 + 1) 0 0 (.bool false) rfl rfl hb.1 hb.2.1) rfl ⟨(0, 0), false, rfl, HR.out, HCW.out.then_new hb.2.2 (by omega)⟩
end Go.Proofs.Ytlkbfacdaelbfaa
