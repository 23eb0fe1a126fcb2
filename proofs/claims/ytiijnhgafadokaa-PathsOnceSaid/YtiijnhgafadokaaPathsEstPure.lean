/-
  The estimate of a path of which the same ticks are told again and again, as a plain function.
-/
import Derived.Test.YtiijnhgafadokaaPathsPure
namespace Go.Proofs.Ytiijnhgafadokaa.Paths
/-- The estimate behind k tellings. -/
def est (n : Int) : Nat → Int
  | 0 => 100
  | k + 1 => newRtt (est n k) n

theorem newRtt_ge {r n : Int} (h0 : 0 ≤ n) (h1 : n ≤ 1000000) : r ≤ newRtt r n ∨ n ≤ newRtt r n := by
  unfold newRtt; omega
theorem newRtt_le {r n : Int} (h0 : 0 ≤ n) (h1 : n ≤ 1000000) : newRtt r n ≤ r ∨ newRtt r n ≤ n ∨ newRtt r n ≤ 1 := by
  unfold newRtt; omega

def low : Nat → Int
  | 0 => 1000000
  | k + 1 => (7 * low k + 7) / 8
def high : Nat → Int
  | 0 => 100
  | k + 1 => 7 * high k / 8
theorem low_lo (k : Nat) : 0 ≤ low k := by
  induction k with
  | zero => decide
  | succ k ih => unfold low; omega
theorem high_lo (k : Nat) : 0 ≤ high k := by
  induction k with
  | zero => decide
  | succ k ih => unfold high; omega
theorem est_lo {n : Int} (h0 : 0 ≤ n) (h1 : n ≤ 1000000) (k : Nat) : n - low k ≤ est n k := by
  induction k with
  | zero => show n - 1000000 ≤ 100; omega
  | succ k ih => unfold est low newRtt; omega
theorem est_hi {n : Int} (h0 : 0 ≤ n) (h1 : n ≤ 1000000) (k : Nat) : est n k ≤ 1 ∨ est n k ≤ n + high k := by
  induction k with
  | zero => show (100 : Int) ≤ 1 ∨ 100 ≤ n + 100; omega
  | succ k ih => have := high_lo k; unfold est high newRtt; omega
theorem low200 : low 200 ≤ 8 := by decide +kernel
theorem high200 : high 200 = 0 := by decide +kernel
theorem est_end {n : Int} (h0 : 0 ≤ n) (h1 : n ≤ 1000000) : (est n 200 ≤ 1 ∨ est n 200 ≤ n) ∧ n - 8 ≤ est n 200 := by
  have a := est_lo h0 h1 200
  have b := est_hi h0 h1 200
  have c := low200
  rw [high200] at b
  omega
theorem est_bd {n : Int} (k : Nat) : 1 ≤ est n k ∧ est n k ≤ 1099511627776 := by
  induction k with
  | zero => exact ⟨by show (1 : Int) ≤ 100; decide, by show (100 : Int) ≤ _; decide⟩
  | succ k ih => exact ⟨newRtt_lo _ _, newRtt_hi ih.2⟩
end Go.Proofs.Ytiijnhgafadokaa.Paths
