/-
  Rows of ranges (pairs of numbers) as cells, and a row turned round.
-/
import Derived.Test.YtlkbfacdaelbfaaKit
namespace Go.Proofs.Ytlkbfacdaelbfaa
open Go.RowKit

def rcells (r : Int × Int) : List Value := [.int .i64 r.1, .int .i64 r.2]
def flat (l : List (Int × Int)) : List Value := l.flatMap rcells
theorem flat_nil : flat [] = [] := rfl
theorem flat_cons (r : Int × Int) (l : List (Int × Int)) : flat (r :: l) = .int .i64 r.1 :: .int .i64 r.2 :: flat l := rfl
theorem flat_one (a b : Int) : flat [(a, b)] = [.int .i64 a, .int .i64 b] := rfl
theorem flat_append (l m : List (Int × Int)) : flat (l ++ m) = flat l ++ flat m := by simp [flat]
theorem flat_len (l : List (Int × Int)) : (flat l).length = l.length * 2 := by
  induction l with
  | nil => rfl
  | cons r l ih => rw [flat_cons]; simp [ih]; omega
theorem flat_get (l : List (Int × Int)) : ∀ (p : Nat) (r : Int × Int), l[p]? = some r → (flat l)[p * 2]? = some (.int .i64 r.1) ∧ (flat l)[p * 2 + 1]? = some (.int .i64 r.2) := by
  induction l with
  | nil => intro p r h; simp at h
  | cons x l ih =>
    intro p r h
    rw [flat_cons]
    cases p with
    | zero => simp at h; subst h; exact ⟨rfl, rfl⟩
    | succ p =>
      have := ih p r (by simpa using h)
      rw [show (p + 1) * 2 = p * 2 + 1 + 1 by omega, show p * 2 + 1 + 1 + 1 = (p * 2 + 1) + 1 + 1 by omega]
      exact this
theorem flat_set (l : List (Int × Int)) : ∀ (p : Nat) (r : Int × Int), ((flat l).set (p * 2) (.int .i64 r.1)).set (p * 2 + 1) (.int .i64 r.2) = flat (l.set p r) := by
  induction l with
  | nil => intro p r; rfl
  | cons x l ih =>
    intro p r
    cases p with
    | zero => rfl
    | succ p =>
      rw [flat_cons, show (p + 1) * 2 = p * 2 + 1 + 1 by omega]
      simp only [List.set_cons_succ]
      rw [flat_cons, ih]
theorem flat_set1 (l : List (Int × Int)) : ∀ (p : Nat) (r : Int × Int) (a : Int), l[p]? = some r → (flat l).set (p * 2) (.int .i64 a) = flat (l.set p (a, r.2)) := by
  induction l with
  | nil => intro p r a h; simp at h
  | cons x l ih =>
    intro p r a h
    cases p with
    | zero => simp at h; subst h; rfl
    | succ p =>
      rw [flat_cons, show (p + 1) * 2 = p * 2 + 1 + 1 by omega]
      simp only [List.set_cons_succ]
      rw [flat_cons, ih p r a (by simpa using h)]
/-- Two places exchanged. -/
def swap (l : List (Int × Int)) (i j : Nat) : List (Int × Int) := match l[i]?, l[j]? with | some a, some b => (l.set i b).set j a | _, _ => l
def revTo (l : List (Int × Int)) : Nat → List (Int × Int)
  | 0 => l
  | k + 1 => swap (revTo l k) k (l.length - 1 - k)
theorem swap_len (l : List (Int × Int)) (i j : Nat) : (swap l i j).length = l.length := by unfold swap; split <;> simp
theorem revTo_len (l : List (Int × Int)) (k : Nat) : (revTo l k).length = l.length := by
  induction k with
  | zero => rfl
  | succ k ih => rw [revTo, swap_len, ih]
theorem swap_get (l : List (Int × Int)) {i j : Nat} (hi : i < l.length) (hj : j < l.length) (p : Nat) : (swap l i j)[p]? = if p = j then l[i]? else if p = i then l[j]? else l[p]? := by
  unfold swap
  rw [List.getElem?_eq_getElem hi, List.getElem?_eq_getElem hj]
  simp only [List.getElem?_set]
  by_cases h1 : p = j
  · subst h1; simp [hj]
  · by_cases h2 : p = i
    · subst h2; simp [h1, hi, Ne.symm h1]
    · simp [h1, h2, Ne.symm h1, Ne.symm h2]
theorem revTo_get (l : List (Int × Int)) (k : Nat) (hk : 2 * k ≤ l.length) (p : Nat) (hp : p < l.length) :
    (revTo l k)[p]? = if p < k ∨ l.length - 1 - p < k then l[l.length - 1 - p]? else l[p]? := by
  induction k generalizing p with
  | zero => rw [if_neg (by omega)]; rfl
  | succ k ih =>
    rw [revTo, swap_get _ (by rw [revTo_len]; omega) (by rw [revTo_len]; omega), ih (by omega) k (by omega), ih (by omega) (l.length - 1 - k) (by omega), ih (by omega) p hp]
    by_cases h1 : p = l.length - 1 - k
    · subst h1
      rw [if_pos rfl, if_neg (by omega), if_pos (by omega), show l.length - 1 - (l.length - 1 - k) = k by omega]
    · rw [if_neg h1]
      by_cases h2 : p = k
      · subst h2
        rw [if_pos rfl, if_neg (by omega), if_pos (by omega)]
      · rw [if_neg h2]
        by_cases h3 : p < k ∨ l.length - 1 - p < k
        · rw [if_pos h3, if_pos (by omega)]
        · rw [if_neg h3, if_neg (by omega)]
theorem revTo_all (l : List (Int × Int)) : revTo l (l.length / 2) = l.reverse := by
  apply List.ext_getElem?
  intro p
  by_cases hp : p < l.length
  · rw [revTo_get l _ (by omega) p hp, List.getElem?_reverse hp]
    by_cases h : p < l.length / 2 ∨ l.length - 1 - p < l.length / 2
    · rw [if_pos h]
    · rw [if_neg h, show l.length - 1 - p = p by omega]
  · rw [List.getElem?_eq_none (by rw [revTo_len]; omega), List.getElem?_eq_none (by simp; omega)]
end Go.Proofs.Ytlkbfacdaelbfaa
