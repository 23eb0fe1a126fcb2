/-
  The calls of a window (layer 14): Count.
-/
import Derived.Test.YtiijnhgafadokaaWinC
namespace Go.Proofs.Ytiijnhgafadokaa
open Go.RowKit Wins
set_option linter.unusedVariables false

/-- A word of so many bits. -/
def ofBits (f : Nat → Bool) : Nat → Nat
  | 0 => 0
  | k + 1 => ofBits f k + if f k then 2 ^ k else 0
theorem ofBits_lt (f : Nat → Bool) (k : Nat) : ofBits f k < 2 ^ k := by
  induction k with
  | zero => simp [ofBits]
  | succ k ih => rw [ofBits, Nat.pow_succ]; split <;> omega
theorem ofBits_bit (f : Nat → Bool) (k j : Nat) : (ofBits f k).testBit j = (decide (j < k) && f j) := by
  induction k with
  | zero => simp [ofBits]
  | succ k ih =>
    rw [ofBits]
    have hlt := ofBits_lt f k
    cases hf : f k with
    | false =>
      simp only [Bool.false_eq_true, if_false, Nat.add_zero]
      rw [ih]
      by_cases h : j = k
      · subst h; simp [hf]
      · rw [decide_eq_decide.2 (show j < k ↔ j < k + 1 by omega)]
    | true =>
      simp only [if_true]
      rw [Nat.add_comm]
      by_cases h : j = k
      · subst h
        rw [Nat.testBit_two_pow_add_eq, Nat.testBit_lt_two_pow hlt]; simp [hf]
      · by_cases h2 : j < k
        · rw [Nat.testBit_two_pow_add_gt h2, ih]; simp [h2, Nat.lt_succ_of_lt h2]
        · have : k < j := by omega
          rw [Nat.testBit_lt_two_pow (Nat.lt_of_lt_of_le (by omega : 2 ^ k + ofBits f k < 2 ^ (k + 1)) (Nat.pow_le_pow_right (by decide) (by omega)))]
          simp; omega
def wordOf (m : Nat → Bool) (i : Nat) : Nat := ofBits (fun j => m (64 * i + j)) 64
theorem wordOf_eq {m : Nat → Bool} {i x : Nat} (hx : x < 18446744073709551616) (h : ∀ j, j < 64 → x.testBit j = m (64 * i + j)) : x = wordOf m i := by
  apply Nat.eq_of_testBit_eq
  intro j
  rw [wordOf, ofBits_bit]
  by_cases hj : j < 64
  · rw [h j hj]; simp [hj]
  · rw [Nat.testBit_lt_two_pow (Nat.lt_of_lt_of_le hx (Nat.pow_le_pow_right (n := 2) (by decide) (by omega : 64 ≤ j)))]; simp [hj]
/-- How many bits the first k words have. -/
def cnt (m : Nat → Bool) : Nat → Int
  | 0 => 0
  | k + 1 => cnt m k + ocI (wordOf m k)
theorem and127 (y : Int) : 0 ≤ bits .and .i64 y 127 ∧ bits .and .i64 y 127 ≤ 127 := by
  have h : (BitVec.ofInt 64 y &&& BitVec.ofInt 64 127).toNat ≤ 127 := by
    rw [BitVec.toNat_and]; exact Nat.le_trans Nat.and_le_right (by decide)
  show 0 ≤ IntKind.i64.wrap ((BitVec.ofInt 64 y &&& BitVec.ofInt 64 127).toNat : Int) ∧ IntKind.i64.wrap ((BitVec.ofInt 64 y &&& BitVec.ofInt 64 127).toNat : Int) ≤ 127
  generalize (BitVec.ofInt 64 y &&& BitVec.ofInt 64 127).toNat = t at h
  rw [IntWalk.i64_in _ (by omega)]
  omega
theorem ocI_hi (a : Int) : 0 ≤ ocI a ∧ ocI a ≤ 127 := and127 _
theorem cnt_hi (m : Nat → Bool) (k : Nat) : 0 ≤ cnt m k ∧ cnt m k ≤ 127 * k := by
  induction k with
  | zero => simp [cnt]
  | succ k ih => have := ocI_hi (wordOf m k); rw [cnt]; omega

theorem WinAt.words {w : World} {b : Nat} {W : Win} (h : WinAt w b W) {i : Nat} (hi : i < 16) : w.cell? ⟨b, i, none⟩ = some (.int .u64 (wordOf W.m i : Int)) := by
  obtain ⟨x, hx, h1, h2⟩ := h.word hi
  rw [h1, wordOf_eq hx h2]

theorem idx16 (f : Nat → Nat) (k : Nat) (hk : k < 16) (w : World) :
    (Instr.index 89 (.agg #[.int .u64 (f 0 : Int), .int .u64 (f 1 : Int), .int .u64 (f 2 : Int), .int .u64 (f 3 : Int), .int .u64 (f 4 : Int), .int .u64 (f 5 : Int), .int .u64 (f 6 : Int), .int .u64 (f 7 : Int), .int .u64 (f 8 : Int), .int .u64 (f 9 : Int), .int .u64 (f 10 : Int), .int .u64 (f 11 : Int), .int .u64 (f 12 : Int), .int .u64 (f 13 : Int), .int .u64 (f 14 : Int), .int .u64 (f 15 : Int)]) (.int .i64 (k : Int))).run Try.prog w = .ok (.int .u64 (f k : Int)) w := by
  obtain ⟨i, hi⟩ : ∃ i, Try.prog.info? 88 = some i := info_of_underlying Try.underlying88
  refine run_index_arr w Try.underlying89 (by kernel_rfl) hi (by kernel_rfl) _ k hk _ ?_
  have e : (#[.int .u64 (f 0 : Int), .int .u64 (f 1 : Int), .int .u64 (f 2 : Int), .int .u64 (f 3 : Int), .int .u64 (f 4 : Int), .int .u64 (f 5 : Int), .int .u64 (f 6 : Int), .int .u64 (f 7 : Int), .int .u64 (f 8 : Int), .int .u64 (f 9 : Int), .int .u64 (f 10 : Int), .int .u64 (f 11 : Int), .int .u64 (f 12 : Int), .int .u64 (f 13 : Int), .int .u64 (f 14 : Int), .int .u64 (f 15 : Int)] : Array Value) = ((List.range 16).map fun i => Value.int .u64 (f i : Int)).toArray := rfl
  rw [e]
  simp [hk]

set_option maxHeartbeats 1600000 in
set_option maxRecDepth 100000 in
theorem count_any (b : Nat) (W : Win) (w : World) (hW : WinAt w b W) :
    Calls Try.prog 32 #[.pointer (some ⟨b, 0, none⟩)] w fun e w' => e = .returned (.int .i64 (cnt W.m 16)) ∧ w = w' := by
  have c0 := hW.words (i := 0) (by decide)
  have c1 := hW.words (i := 1) (by decide)
  have c2 := hW.words (i := 2) (by decide)
  have c3 := hW.words (i := 3) (by decide)
  have c4 := hW.words (i := 4) (by decide)
  have c5 := hW.words (i := 5) (by decide)
  have c6 := hW.words (i := 6) (by decide)
  have c7 := hW.words (i := 7) (by decide)
  have c8 := hW.words (i := 8) (by decide)
  have c9 := hW.words (i := 9) (by decide)
  have c10 := hW.words (i := 10) (by decide)
  have c11 := hW.words (i := 11) (by decide)
  have c12 := hW.words (i := 12) (by decide)
  have c13 := hW.words (i := 13) (by decide)
  have c14 := hW.words (i := 14) (by decide)
  have c15 := hW.words (i := 15) (by decide)
  clear hW
  obtain ⟨f, hf⟩ : ∃ f : Nat → Nat, ∀ i, wordOf W.m i = f i := ⟨_, fun _ => rfl⟩
  have HF := Lib.hid hf
  simp only [hf] at c0 c1 c2 c3 c4 c5 c6 c7 c8 c9 c10 c11 c12 c13 c14 c15
  clear hf
  go_enter Try.func32, Try.ntmps32
  go_wp2_with fail
  clear c0 c1 c2 c3 c4 c5 c6 c7 c8 c9 c10 c11 c12 c13 c14 c15
  go_loop [3, 10] (fun n i => ∃ k : Nat, k ≤ 16 ∧ i = .int .i64 k ∧ n = .int .i64 (cnt W.m k)) (fun _ i => 16 - (intOf i).toNat)
  case atStart => exact ⟨0, by omega, rfl, rfl⟩
  case round =>
    obtain ⟨k, hk, rfl, rfl⟩ := hrel
    by_cases hk' : k < 16
    · have ⟨b0, b1⟩ := cnt_hi W.m k
      have ⟨o0, o1⟩ := ocI_hi (f k)
      have E := Lib.hid (show cnt W.m (k + 1) = cnt W.m k + ocI (f k) by rw [cnt, HF.out])
      have hidx := idx16 f k hk' w
      go_wp2_with (go_at_call 69; refine (ones_any _ _ (by omega)).mono ?_; rintro e w' ⟨rfl, rfl⟩)
      go_round
      case rel => exact ⟨k + 1, by omega, by go_num, by rw [E.out]⟩
      case measure => simp [intOf]; omega
    · obtain rfl : k = 16 := by omega
      clear hk hk'
      go_wp2_with fail
      go_ret
      exact ⟨rfl, rfl⟩
end Go.Proofs.Ytiijnhgafadokaa
