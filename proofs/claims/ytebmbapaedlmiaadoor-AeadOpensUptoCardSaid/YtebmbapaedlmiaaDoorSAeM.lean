/-
  Package poly: Same (the walk).
-/
import Derived.Test.YtebmbapaedlmiaaDoorSAeL2
namespace Go.Proofs.YtebmbapaedlmiaaDoor
open Go.RowKit Ae
set_option linter.unusedVariables false

theorem or_zero_iff (a b : Nat) : a ||| b = 0 ↔ a = 0 ∧ b = 0 := by
  constructor
  · intro h
    constructor
    · apply Nat.eq_of_testBit_eq; intro j
      have := congrArg (fun n => n.testBit j) h
      simp [Nat.testBit_or] at this
      simp [this.1]
    · apply Nat.eq_of_testBit_eq; intro j
      have := congrArg (fun n => n.testBit j) h
      simp [Nat.testBit_or] at this
      simp [this.2]
  · rintro ⟨rfl, rfl⟩; rfl
theorem xor_zero_iff (a b : Nat) : a ^^^ b = 0 ↔ a = b := by
  constructor
  · intro h
    apply Nat.eq_of_testBit_eq; intro j
    have := congrArg (fun n => n.testBit j) h
    simp [Nat.testBit_xor] at this
    exact this
  · rintro rfl; exact Nat.xor_self a
theorem xor8_lt {a b : Nat} (ha : a < 256) (hb : b < 256) : a ^^^ b < 256 := Nat.xor_lt_two_pow (n := 8) ha hb
theorem or8_lt {a b : Nat} (ha : a < 256) (hb : b < 256) : a ||| b < 256 := Nat.or_lt_two_pow (n := 8) ha hb
theorem take_succ_eq {a b : List Nat} {k x y : Nat} (ha : a[k]? = some x) (hb : b[k]? = some y) : a.take (k + 1) = b.take (k + 1) ↔ a.take k = b.take k ∧ x = y := by
  have h1 := (List.getElem?_eq_some_iff.1 ha).1
  have h2 := (List.getElem?_eq_some_iff.1 hb).1
  rw [List.take_add_one, List.take_add_one, ha, hb]
  constructor
  · intro h
    have := List.append_inj h (by simp; omega)
    exact ⟨this.1, by simpa using this.2⟩
  · rintro ⟨h, rfl⟩; rw [h]

set_option maxHeartbeats 800000 in
set_option maxRecDepth 100000 in
theorem same_any (a b : List Nat) (ha : a.length = 16) (hab : Byt a) (hb : b.length = 16) (hbb : Byt b) (w : World) :
    Calls Tryd.prog 17 #[.agg (bs a), .agg (bs b)] w (Gives w (.bool (decide (a = b)))) := by
  have HA := Lib.hid ha
  have HB := Lib.hid hb
  have HAB := Lib.hid hab
  have HBB := Lib.hid hbb
  clear ha hb hab hbb
  go_enter Tryd.func17, Tryd.ntmps17
  go_wp2_with fail
  have HX0 := Lib.hid (show ((w.alloc (.cells (bs a) 36)).alloc (.cells (bs b) 36)).heap[w.heap.size]? = some (.cells (bs a) 36 (0, 0)) from alloc_old (alloc_new _ _))
  have HY0 := Lib.hid (show ((w.alloc (.cells (bs a) 36)).alloc (.cells (bs b) 36)).heap[w.heap.size + 1]? = some (.cells (bs b) 36 (0, 0)) from new_1 _ _ _)
  have HC0 := Lib.hid (((Chg.refl Nowhere w).alloc (.cells (bs a) 36)).alloc (.cells (bs b) 36))
  go_loopw [5, 7] (fun d i wr => ∃ k : Nat, k ≤ 16 ∧ i = .int .i64 k ∧ (∃ n : Nat, d = .int .u8 (n : Int) ∧ n < 256 ∧ Hid (n = 0 ↔ a.take k = b.take k)) ∧ wr.heap[w.heap.size]? = some (.cells (bs a) 36 (0, 0)) ∧ wr.heap[w.heap.size + 1]? = some (.cells (bs b) 36 (0, 0)) ∧ Chg Nowhere w wr) (fun _ i _ => 16 - (intOf i).toNat)
  case atStart => exact ⟨0, by omega, rfl, ⟨0, rfl, by omega, Lib.hid (by simp)⟩, HX0.out, HY0.out, HC0.out⟩
  case round =>
    obtain ⟨k, hk, rfl, ⟨n, rfl, hn, HN⟩, hX, hY, hC⟩ := hrel
    clear HX0 HY0 HC0
    have HX := Lib.hid hX
    have HY := Lib.hid hY
    have HC := Lib.hid hC
    clear hX hY hC
    by_cases hk2 : k < 16
    · obtain ⟨x, hx⟩ : ∃ x, a[k]? = some x := ⟨_, List.getElem?_eq_getElem (by rw [HA.out]; exact hk2)⟩
      obtain ⟨y, hy⟩ : ∃ y, b[k]? = some y := ⟨_, List.getElem?_eq_getElem (by rw [HB.out]; exact hk2)⟩
      have hx8 := HAB.out.get hx
      have hy8 := HBB.out.get hy
      have cx : wr.cell? ⟨w.heap.size, k, none⟩ = some (.int .u8 (x : Int)) := (cell_blk HX.out (o := k)).trans (bs_get hx)
      have cy : wr.cell? ⟨w.heap.size + 1, k, none⟩ = some (.int .u8 (y : Int)) := (cell_blk HY.out (o := k)).trans (bs_get hy)
      have E1 := u8_xor_nat x y hx8 hy8
      have E2 := u8_or_nat n (x ^^^ y) hn (xor8_lt hx8 hy8)
      have HE1 := Lib.hid E1
      have HE2 := Lib.hid E2
      have HL := Lib.hid (or8_lt hn (xor8_lt hx8 hy8))
      have HI := Lib.hid (show n ||| x ^^^ y = 0 ↔ a.take (k + 1) = b.take (k + 1) by rw [or_zero_iff, xor_zero_iff, take_succ_eq hx hy, HN.out])
      clear E1 E2 hx hy
      go_wp2_with fail
      go_quiet (fail)
      rw [HE1.out, HE2.out]
      generalize n ||| x ^^^ y = m at *
      go_wp2_with fail
      go_roundw
      case rel => exact ⟨k + 1, by omega, by go_num, ⟨m, rfl, HL.out, HI⟩, HX.out, HY.out, HC.out.drewN _⟩
      case measure => simp [intOf]; omega
    · have HK := Lib.hid (show n = 0 ↔ a = b by
        have := HN.out
        rwa [List.take_of_length_le (by rw [HA.out]; omega), List.take_of_length_le (by rw [HB.out]; omega)] at this)
      by_cases h0 : n = 0
      · subst h0
        have HT := Lib.hid (show decide (a = b) = true by rw [decide_eq_true_eq]; exact HK.out.1 rfl)
        go_wp2_with fail
        go_ret
        exact ⟨by rw [HT.out]; rfl, HC.out⟩
      · have HT := Lib.hid (show decide (a = b) = false by rw [decide_eq_false_iff_not]; exact fun e => h0 (HK.out.2 e))
        have hd : ((n : Int) == 0) = false := by simpa using h0
        go_wp2_with fail
        go_ret
        exact ⟨by rw [HT.out]; rfl, HC.out⟩
end Go.Proofs.YtebmbapaedlmiaaDoor
