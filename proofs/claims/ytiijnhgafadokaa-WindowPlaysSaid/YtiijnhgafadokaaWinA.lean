/-
  The calls of a window (layer 14): has, Check.
-/
import Derived.Test.YtiijnhgafadokaaProg
import Derived.Test.YtiijnhgafadokaaKit
import Derived.Test.YtiijnhgafadokaaBits
import Derived.Test.YtiijnhgafadokaaWinPure
namespace Go.Proofs.Ytiijnhgafadokaa
open Go.RowKit Wins
set_option linter.unusedVariables false

structure WinArr (arr : Array Value) (W : Win) : Prop where
  size : arr.size = 17
  word : ∀ i, i < 16 → ∃ x : Nat, x < 18446744073709551616 ∧ arr[i]? = some (.int .u64 (x : Int)) ∧ ∀ j, j < 64 → x.testBit j = W.m (64 * i + j)
  next : arr[16]? = some (.int .i64 (W.next : Int))
structure WinAt (w : World) (b : Nat) (W : Win) : Prop where
  arr : ∃ arr, w.heap[b]? = some (.cells arr 91 (0,0)) ∧ WinArr arr W
  le : W.next ≤ 281474976710656
theorem WinAt.lt {w : World} {b : Nat} {W : Win} (h : WinAt w b W) : b < w.heap.size := by
  obtain ⟨⟨arr, ha, _⟩, _⟩ := h
  exact lt_blk ha
theorem WinAt.keep {w w' : World} {b : Nat} {W : Win} (h : WinAt w b W) (hw : w'.heap[b]? = w.heap[b]?) : WinAt w' b W := by
  obtain ⟨⟨arr, ha, hW⟩, hl⟩ := h
  exact ⟨⟨arr, hw.trans ha, hW⟩, hl⟩
theorem WinAt.chg {w w' : World} {b : Nat} {W : Win} {S : Nat → Prop} (h : WinAt w b W) (hc : Chg S w w') (hn : ¬ S b) : WinAt w' b W := h.keep (hc.block b h.lt hn)
theorem WinAt.fz {w : World} {b : Nat} {W : Win} (h : WinAt w b W) (o : Nat) : w.frozen? ⟨b, o, none⟩ = false := by
  obtain ⟨⟨arr, ha, _⟩, _⟩ := h
  exact frozen_blk ha
theorem WinAt.nx {w : World} {b : Nat} {W : Win} (h : WinAt w b W) : w.cell? ⟨b, 16, none⟩ = some (.int .i64 (W.next : Int)) := by
  obtain ⟨⟨arr, ha, hW⟩, _⟩ := h
  rw [cell_blk ha, hW.next]
theorem WinAt.word {w : World} {b : Nat} {W : Win} (h : WinAt w b W) {i : Nat} (hi : i < 16) : ∃ x : Nat, x < 18446744073709551616 ∧ w.cell? ⟨b, i, none⟩ = some (.int .u64 (x : Int)) ∧ ∀ j, j < 64 → x.testBit j = W.m (64 * i + j) := by
  obtain ⟨⟨arr, ha, hW⟩, _⟩ := h
  obtain ⟨x, h1, h2, h3⟩ := hW.word i hi
  exact ⟨x, h1, by rw [cell_blk ha, h2], h3⟩

theorem split1024 (n : Nat) : 64 * (n % 1024 / 64) + n % 64 = n % 1024 := by omega

set_option maxHeartbeats 400000 in
theorem has_any (b n : Nat) (W : Win) (w : World) (hW : WinAt w b W) (hn : n ≤ 281474976710656) :
    Calls Try.prog 67 #[.pointer (some ⟨b, 0, none⟩), .int .i64 (n : Int)] w fun e w' => e = .returned (.bool (hasB W n)) ∧ w = w' := by
  have h1 := hW.nx
  obtain ⟨x, hx, h2, hb⟩ := hW.word (i := n % 1024 / 64) (by omega)
  have hbit := hb (n % 64) (by omega)
  rw [split1024] at hbit
  by_cases hlt : n < W.next
  · have hd : decide (n < W.next) = true := by simpa using hlt
    have HR := Lib.hid (show (bits .and .u64 ((x : Int) / 2 ^ (n % 64)) 1 == 1) = hasB W n by
      rw [bit_one _ hx, hbit, hasB, decide_eq_true hlt, Bool.true_and]
      cases W.m (n % 1024) <;> rfl)
    clear hb hbit hW hlt
    go_enter Try.func67, Try.ntmps67
    go_wp2
    rw [HR.out]
    go_ret
    exact ⟨rfl, rfl⟩
  · have hd : decide (n < W.next) = false := by simpa using hlt
    have HR := Lib.hid (show hasB W n = false by rw [hasB, decide_eq_false hlt, Bool.false_and])
    clear hb hbit hW hlt
    go_enter Try.func67, Try.ntmps67
    go_wp2
    go_ret
    exact ⟨by rw [HR.out]; rfl, rfl⟩

theorem ret_int' {k : IntKind} {a b : Int} (h : a = b) : Ending.returned (.int k a) = .returned (.int k b) := by rw [h]

set_option maxHeartbeats 800000 in
theorem chk_any (b : Nat) (n : Int) (W : Win) (w : World) (hW : WinAt w b W) :
    Calls Try.prog 28 #[.pointer (some ⟨b, 0, none⟩), .int .i64 n] w fun e w' => e = .returned (.int .i64 (chk W n)) ∧ w = w' := by
  have h1 := hW.nx
  have hle := hW.le
  have HW := Lib.hid hW
  clear hW
  by_cases c0 : n < 0
  · have d0 : decide (n < 0) = true := by simpa using c0
    have E := Lib.hid (show chk W n = 1 by rw [chk, if_pos (.inl c0)])
    clear c0
    go_enter Try.func28, Try.ntmps28
    go_wp2
    go_ret
    exact ⟨by rw [E.out]; rfl, rfl⟩
  · have d0 : decide (n < 0) = false := by simpa using c0
    by_cases c1 : 281474976710655 < n
    · have d1 : decide (281474976710655 < n) = true := by simpa using c1
      have E := Lib.hid (show chk W n = 1 by rw [chk, if_pos (.inr c1)])
      clear c0
      go_enter Try.func28, Try.ntmps28
      go_wp2
      go_ret
      exact ⟨by rw [E.out]; rfl, rfl⟩
    · have d1 : decide (281474976710655 < n) = false := by simpa using c1
      by_cases c2 : n < (W.next : Int) - 1024
      · have d2 : decide (n < (W.next : Int) - 1024) = true := by simpa using c2
        have E := Lib.hid (show chk W n = 140 by rw [chk, if_neg (by omega), if_pos (.inl c2)])
        go_enter Try.func28, Try.ntmps28
        go_wp2
        go_ret
        exact ⟨by rw [E.out]; rfl, rfl⟩
      · have d2 : decide (n < (W.next : Int) - 1024) = false := by simpa using c2
        obtain ⟨k, rfl⟩ := Int.eq_ofNat_of_zero_le (by omega : 0 ≤ n)
        cases hh : hasB W k with
        | true =>
          have E := Lib.hid (show chk W (k : Int) = 140 by rw [chk, if_neg (by omega), if_pos (.inr (by rw [Int.toNat_natCast]; exact hh))])
          have HH := Lib.hid hh
          clear hh
          go_enter Try.func28, Try.ntmps28
          go_wp2_with (go_at_call 67; refine (has_any _ _ _ _ HW.out (by omega)).mono ?_; rw [HH.out]; rintro e w' ⟨rfl, rfl⟩)
          go_ret
          exact ⟨by rw [E.out]; rfl, rfl⟩
        | false =>
          have E := Lib.hid (show chk W (k : Int) = 0 by rw [chk, if_neg (by omega), if_neg (by rw [Int.toNat_natCast, hh]; simp; omega)])
          have HH := Lib.hid hh
          clear hh
          go_enter Try.func28, Try.ntmps28
          go_wp2_with (go_at_call 67; refine (has_any _ _ _ _ HW.out (by omega)).mono ?_; rw [HH.out]; rintro e w' ⟨rfl, rfl⟩)
          go_ret
          exact ⟨by rw [E.out]; rfl, rfl⟩
end Go.Proofs.Ytiijnhgafadokaa
