/-
  Package ranges: touched, many (the walks).
-/
import Derived.Test.YtlkbfacdaelbfaaRaA
namespace Go.Proofs.Ytlkbfacdaelbfaa
open Go.RowKit
set_option linter.unusedVariables false

def GivesTouch (w : World) (L : List Ra.Row) (f t : Int) : Ending → World → Prop := fun e w' => ∃ i j : Nat, e = .returned (.tuple #[.int .i64 (i : Int), .int .i64 (j : Int)]) ∧ Ra.Touch L f t i j ∧ Chg Nowhere w w'
set_option maxHeartbeats 2000000 in
set_option maxRecDepth 100000 in
theorem touched_any (o : Nat) (v : Value) (L : List Ra.Row) (f t : Int) (w : World) (h : RaAt w o v L) (hG : Ra.Good L) (hn : L.length ≤ 2000000) :
    Calls Try.prog 73 #[.pointer (some ⟨o, 0, none⟩), .int .i64 f, .int .i64 t] w (GivesTouch w L f t) := by
  have hmf : ∀ (fn : Fn) (first cap : Array Value) (w : World), (Instr.makeFunc fn first cap).run Try.prog w = .ok (.func fn first cap) w := fun _ _ _ _ => rfl
  obtain ⟨n, hnn⟩ : ∃ n, n = L.length := ⟨_, rfl⟩
  obtain ⟨w3, hw3⟩ : ∃ w3, w3 = ((w.alloc (.cells #[.pointer (some ⟨o, 0, none⟩)] 25)).alloc (.cells #[.int .i64 f] 3)).alloc (.cells #[.int .i64 t] 3) := ⟨_, rfl⟩
  have hC0 : Chg Nowhere w w3 := by rw [hw3]; exact (((Chg.refl Nowhere w).alloc _).alloc _).alloc _
  have h3 := h.idle hC0
  obtain ⟨A, c, rfl⟩ := h3.shape
  rw [← hnn] at h3 hn
  have s1 : (w.alloc (.cells #[.pointer (some ⟨o, 0, none⟩)] 25)).heap.size = w.heap.size + 1 := by simp
  have s2 : ((w.alloc (.cells #[.pointer (some ⟨o, 0, none⟩)] 25)).alloc (.cells #[.int .i64 f] 3)).heap.size = w.heap.size + 1 + 1 := by simp
  have k1 : w3.heap[w.heap.size]? = some (.cells #[.pointer (some ⟨o, 0, none⟩)] 25 (0, 0)) := by rw [hw3]; exact alloc_old (alloc_old (alloc_new _ _))
  have k2 : w3.heap[w.heap.size + 1]? = some (.cells #[.int .i64 f] 3 (0, 0)) := by rw [hw3]; have := alloc_new (w.alloc (.cells #[.pointer (some ⟨o, 0, none⟩)] 25)) (.cells #[.int .i64 f] 3); rw [s1] at this; exact alloc_old this
  have k3 : w3.heap[w.heap.size + 1 + 1]? = some (.cells #[.int .i64 t] 3 (0, 0)) := by rw [hw3]; have := alloc_new ((w.alloc (.cells #[.pointer (some ⟨o, 0, none⟩)] 25)).alloc (.cells #[.int .i64 f] 3)) (.cells #[.int .i64 t] 3); rw [s2] at this; exact this
  have c1 : ∀ w4, Chg Nowhere w3 w4 → w4.cell? ⟨w.heap.size, 0, none⟩ = some (.pointer (some ⟨o, 0, none⟩)) := fun w4 hc => by rw [cell_blk (hc.same k1)]; rfl
  have c2 : ∀ w4, Chg Nowhere w3 w4 → w4.cell? ⟨w.heap.size + 1, 0, none⟩ = some (.int .i64 f) := fun w4 hc => by rw [cell_blk (hc.same k2)]; rfl
  have c3 : ∀ w4, Chg Nowhere w3 w4 → w4.cell? ⟨w.heap.size + 1 + 1, 0, none⟩ = some (.int .i64 t) := fun w4 hc => by rw [cell_blk (hc.same k3)]; rfl
  have co : ∀ w4, Chg Nowhere w3 w4 → w4.cell? ⟨o, 0, none⟩ = some (.slice A n c) := fun w4 hc => by rw [cell_blk (hc.same h3.blk)]; rfl
  have HS1 := Lib.hid (show ∀ w4, Chg Nowhere w3 w4 → Calls Try.prog 77 #[.int .i64 (n : Int), .func (.func 90) #[] #[.pointer (some ⟨w.heap.size, 0, none⟩), .pointer (some ⟨w.heap.size + 1, 0, none⟩)]] w4 (GivesCut w4 (fun k => decide (f ≤ (L.getD k (0, 0)).2)) n) from fun w4 hc =>
    search_any n (by omega) _ _ _ w4 enter_touch1 (fun w5 k hc5 hk => touch1_any _ _ o f _ L w5 (h3.idle (hc.then_none hc5)) (c1 _ (hc.then_none hc5)) (c2 _ (hc.then_none hc5)) k (by omega)) (fun a b hab hb ha => by
      simp only [decide_eq_true_eq] at ha ⊢
      rcases (by omega : a = b ∨ a < b) with rfl | hlt
      · exact ha
      · have := hG.lt hlt (by omega); have := hG.getD (k := b) (by omega); omega))
  have HS2 := Lib.hid (show ∀ w4, Chg Nowhere w3 w4 → Calls Try.prog 77 #[.int .i64 (n : Int), .func (.func 91) #[] #[.pointer (some ⟨w.heap.size, 0, none⟩), .pointer (some ⟨w.heap.size + 1 + 1, 0, none⟩)]] w4 (GivesCut w4 (fun k => decide (t < (L.getD k (0, 0)).1)) n) from fun w4 hc =>
    search_any n (by omega) _ _ _ w4 enter_touch2 (fun w5 k hc5 hk => touch2_any _ _ o t _ L w5 (h3.idle (hc.then_none hc5)) (c1 _ (hc.then_none hc5)) (c3 _ (hc.then_none hc5)) k (by omega)) (fun a b hab hb ha => by
      simp only [decide_eq_true_eq] at ha ⊢
      rcases (by omega : a = b ∨ a < b) with rfl | hlt
      · exact ha
      · have := hG.lt hlt (by omega); have := hG.getD (k := a) (by omega); omega))
  have x1 := c1 w3 (Chg.refl _ _)
  have xo := co w3 (Chg.refl _ _)
  have HC0 := Lib.hid hC0
  have C1 := Lib.hid c1
  have CO := Lib.hid co
  have HN := Lib.hid hnn
  have HG := Lib.hid hG
  have W3 := Lib.hid hw3
  rw [hw3] at x1 xo
  clear h h3 hG hnn hC0 c1 c2 c3 co k1 k2 k3 s1 s2 hw3
  go_enter Try.func73, Try.ntmps73
  go_wp2_with fail
  rw [← W3.out]
  refine (HS1.out _ (Chg.refl _ _)).mono ?_
  rintro e w4 ⟨i, rfl, hi, hC4⟩
  have HI := Lib.hid hi
  have HC4 := Lib.hid hC4
  have y1 := C1.out w4 hC4
  have yo := CO.out w4 hC4
  clear hi hC4 x1 xo
  go_wp2_with fail
  refine (HS2.out _ HC4.out).mono ?_
  rintro e w5 ⟨j, rfl, hj, hC5⟩
  have HJ := Lib.hid hj
  have HC5 := Lib.hid ((HC0.out.then_none HC4.out).then_none hC5)
  clear hj hC5 y1 yo
  obtain ⟨m, hm⟩ : ∃ m, m = max i j := ⟨_, rfl⟩
  have HT := Lib.hid (show Ra.Touch L f t i m from by
    have hi := HI.out
    have hj := HJ.out
    have nn := HN.out
    simp only [Cutoff, decide_eq_true_eq, decide_eq_false_iff_not] at hi hj
    refine ⟨by omega, by omega, fun k hk => by have := hi.2.1 k hk; omega, fun k h1 h2 => ⟨hi.2.2 k h1 (by omega), by have := hj.2.1 k (by omega); omega⟩, fun k h1 h2 => hj.2.2 k (by omega) (by omega)⟩)
  rcases (by omega : j ≤ i ∨ i < j) with hc | hc
  · obtain rfl : m = i := by omega
    clear hm
    have hc1 : (j : Int) ≤ (m : Int) := by omega
    go_wp2_with fail
    all_goals
      refine bodyPost_ret (v := .tuple #[.int .i64 (m : Int), .int .i64 (m : Int)]) (by simp [results, Try.results73, go_sem]; try omega) rfl ⟨m, m, rfl, HT.out, HC5.out⟩
  · obtain rfl : m = j := by omega
    clear hm
    have hc1 : (i : Int) < (m : Int) := by omega
    go_wp2_with fail
    all_goals
      refine bodyPost_ret (v := .tuple #[.int .i64 (i : Int), .int .i64 (m : Int)]) (by simp [results, Try.results73, go_sem]; try omega) rfl ⟨i, m, rfl, HT.out, HC5.out⟩
set_option maxHeartbeats 2000000 in
set_option maxRecDepth 100000 in
theorem many_any (v : Value) (L : List Ra.Row) (w : World) (h : Rd w v 2 L.length (flat L)) (hG : Ra.Good L) (hn : L.length ≤ 2000000) :
    Calls Try.prog 74 #[v] w (Gives w (.int .i64 (Ra.total L))) := by
  obtain ⟨n, hnn⟩ : ∃ n, n = L.length := ⟨_, rfl⟩
  have HN := Lib.hid hnn
  have HG := Lib.hid hG
  have hfl := flat_len L
  obtain ⟨-, A, c, rfl, hnc, hA⟩ := h
  have HA := Lib.hid hA
  rw [← hnn] at hn ⊢
  rw [← hnn] at HA
  obtain ⟨T, hT⟩ : ∃ T : Nat → Int, T = fun k => Ra.total (L.take k) := ⟨_, rfl⟩
  have HT0 := Lib.hid (show T 0 = 0 by rw [hT]; rfl)
  have HTS := Lib.hid (show ∀ k, k < n → T (k + 1) = T k + ((L.getD k (0, 0)).2 - (L.getD k (0, 0)).1) from fun k hk => by rw [hT]; exact Ra.total_snoc (by omega))
  have HTB := Lib.hid (show ∀ k, 0 ≤ T k ∧ T k ≤ 4611686018427387904 from fun k => by rw [hT]; exact Ra.total_in (hG.take k))
  have HTN := Lib.hid (show T n = Ra.total L by rw [hT, hnn]; simp)
  rw [← HTN.out]
  have HFL := Lib.hid hfl
  clear hA hnn hG hT hfl hnc HTN
  go_enter Try.func74, Try.ntmps74
  go_wp2_with fail
  go_loopw [3, 8] (fun s i wr => ∃ k : Nat, k ≤ n ∧ i = .int .i64 (k : Int) ∧ s = .int .i64 (T k) ∧ Chg Nowhere w wr) (fun _ i _ => n - (intOf i).toNat)
  case atStart => exact ⟨0, by omega, rfl, by rw [HT0.out], Chg.refl _ _⟩
  case round =>
    obtain ⟨k, hk, rfl, rfl, hC⟩ := hrel
    have HC := Lib.hid hC
    clear hC
    by_cases hk2 : k < n
    · have hd : decide ((k : Int) < (n : Int)) = true := decide_eq_true (by omega)
      obtain ⟨g, o, rfl, hg, hcell⟩ := HA.out (by omega)
      have hg2 := flat_get L k _ (some_getD (d := (0, 0)) (by rw [← HN.out]; exact hk2))
      obtain ⟨x, hx⟩ : ∃ x, x = (L.getD k (0, 0)).1 := ⟨_, rfl⟩
      obtain ⟨y, hy⟩ : ∃ x, x = (L.getD k (0, 0)).2 := ⟨_, rfl⟩
      have hb := HG.out.getD (k := k) (by rw [← HN.out]; exact hk2)
      have hs := HTS.out k hk2
      rw [← hx, ← hy] at hb hs hg2
      have cx : wr.cell? ⟨g, o + k * 2, none⟩ = some (.int .i64 x) := (HC.out.cell (p := ⟨g, o + k * 2, none⟩) hg (not_nowhere _)).trans ((hcell _ (by rw [HFL.out, ← HN.out]; omega)).trans hg2.1)
      have cy : wr.cell? ⟨g, o + (k * 2 + 1), none⟩ = some (.int .i64 y) := (HC.out.cell (p := ⟨g, o + (k * 2 + 1), none⟩) hg (not_nowhere _)).trans ((hcell _ (by rw [HFL.out, ← HN.out]; omega)).trans hg2.2)
      have cy2 : wr.cell? ⟨g, o + k * 2 + 1, none⟩ = some (.int .i64 y) := cy
      have t1 := HTB.out k
      have t2 := HTB.out (k + 1)
      have HS := Lib.hid hs
      have w1 : IntKind.i64.wrap (y - x) = y - x := by rw [IntKind.wrap_i64]; unfold Ra.M at hb; omega
      have w2 : IntKind.i64.wrap (T k + (y - x)) = T (k + 1) := by rw [IntKind.wrap_i64]; omega
      have hki : (k : Int) < (n : Int) := by omega
      clear hcell hg2 hx hy hb hs
      go_wp2_with fail
      go_roundw
      case rel => exact ⟨k + 1, by omega, by go_num, by first | rfl | (rw [HS.out]), by first | exact HC.out.alloc _ | exact (HC.out.alloc _).put (.inr HC.out.size)⟩
      case measure => simp [intOf]; omega
    · obtain rfl : k = n := by omega
      have hd : decide ((k : Int) < (k : Int)) = false := decide_eq_false (by omega)
      go_wp2_with fail
      go_ret
      exact ⟨rfl, HC.out⟩
end Go.Proofs.Ytlkbfacdaelbfaa
