/-
  Rows of numbers that rise: how many numbers they hold, counted one by one (plain).
-/
import Derived.Test.YtlkbfacdaelbfaaRaPure
namespace Go.Proofs.Ytlkbfacdaelbfaa
set_option linter.unusedVariables false
namespace Ra

/-- How many of k numbers from a on are so. -/
def cnt (p : Nat → Bool) (a : Nat) : Nat → Nat
  | 0 => 0
  | k + 1 => cnt p a k + if p (a + k) then 1 else 0
theorem cnt_congr {p q : Nat → Bool} {a : Nat} : ∀ {k : Nat}, (∀ i, a ≤ i → i < a + k → p i = q i) → cnt p a k = cnt q a k
  | 0, _ => rfl
  | k + 1, h => by rw [cnt, cnt, cnt_congr fun i h1 h2 => h i h1 (by omega), h (a + k) (by omega) (by omega)]
theorem cnt_split (p : Nat → Bool) (a k : Nat) : ∀ m, cnt p a (k + m) = cnt p a k + cnt p (a + k) m
  | 0 => rfl
  | m + 1 => by rw [← Nat.add_assoc, cnt, cnt_split p a k m, cnt, Nat.add_assoc, Nat.add_assoc a k m]
theorem cnt_le (p : Nat → Bool) (a : Nat) : ∀ k, cnt p a k ≤ k
  | 0 => Nat.le_refl _
  | k + 1 => by have := cnt_le p a k; rw [cnt]; split <;> omega
theorem cnt_none {p : Nat → Bool} {a : Nat} : ∀ {k : Nat}, (∀ i, a ≤ i → i < a + k → p i = false) → cnt p a k = 0
  | 0, _ => rfl
  | k + 1, h => by rw [cnt, cnt_none fun i h1 h2 => h i h1 (by omega), h (a + k) (by omega) (by omega)]; rfl
theorem cnt_all {p : Nat → Bool} {a : Nat} : ∀ {k : Nat}, (∀ i, a ≤ i → i < a + k → p i = true) → cnt p a k = k
  | 0, _ => rfl
  | k + 1, h => by rw [cnt, cnt_all fun i h1 h2 => h i h1 (by omega), h (a + k) (by omega) (by omega)]; rfl
theorem cnt_mono {p q : Nat → Bool} {a : Nat} : ∀ {k : Nat}, (∀ i, a ≤ i → i < a + k → p i = true → q i = true) → cnt p a k ≤ cnt q a k
  | 0, _ => Nat.le_refl _
  | k + 1, h => by
    have := cnt_mono (k := k) fun i h1 h2 => h i h1 (by omega)
    have h2 := h (a + k) (by omega) (by omega)
    rw [cnt, cnt]
    cases hp : p (a + k) with
    | false => simp; omega
    | true => rw [h2 hp]; simp; omega
theorem cnt_or {p q r : Nat → Bool} {a : Nat} : ∀ {k : Nat}, (∀ i, a ≤ i → i < a + k → r i = (p i || q i)) → (∀ i, a ≤ i → i < a + k → ¬ (p i = true ∧ q i = true)) → cnt r a k = cnt p a k + cnt q a k
  | 0, _, _ => rfl
  | k + 1, h, hd => by
    have := cnt_or (k := k) (fun i h1 h2 => h i h1 (by omega)) (fun i h1 h2 => hd i h1 (by omega))
    have h1 := h (a + k) (by omega) (by omega)
    have h2 := hd (a + k) (by omega) (by omega)
    rw [cnt, cnt, cnt, this, h1]
    cases hp : p (a + k) <;> cases hq : q (a + k) <;> simp_all <;> omega
theorem cnt_or_le (p q : Nat → Bool) (a : Nat) : ∀ k : Nat, cnt (fun i => p i || q i) a k ≤ cnt p a k + cnt q a k
  | 0 => Nat.le_refl _
  | k + 1 => by
    have := cnt_or_le p q a k
    simp only [cnt]
    by_cases hp : p (a + k) = true <;> by_cases hq : q (a + k) = true <;> simp [hp, hq] <;> omega
/-- The numbers of one row. -/
theorem cnt_row {x y : Nat} (N : Nat) (hxy : x ≤ y) (hy : y ≤ N) : cnt (fun i => decide (x ≤ i) && decide (i < y)) 0 N = y - x := by
  obtain ⟨k, rfl⟩ : ∃ k, N = x + ((y - x) + k) := ⟨N - y, by omega⟩
  rw [cnt_split, cnt_split, cnt_none (a := 0) (k := x), cnt_all (a := 0 + x), cnt_none (a := 0 + x + (y - x))]
  · omega
  · intro i h1 h2; simp; omega
  · intro i h1 h2; simp; omega
  · intro i h1 h2; simp; omega
def hs (L : List Row) (n : Nat) : Bool := L.any fun r => decide (r.1 ≤ (n : Int)) && decide ((n : Int) < r.2)
theorem hs_iff (L : List Row) (n : Nat) : hs L n = true ↔ mem L (n : Int) := by
  simp only [hs, List.any_eq_true, Bool.and_eq_true, decide_eq_true_eq, mem]
theorem hs_false (L : List Row) (n : Nat) : hs L n = false ↔ ¬ mem L (n : Int) := by
  rw [← hs_iff]; cases hs L n <;> simp
theorem total_cnt : ∀ {L : List Row} {N : Nat}, Good L → (∀ n, mem L n → n < (N : Int)) → total L = (cnt (hs L) 0 N : Nat)
  | [], N, _, _ => by rw [show cnt (hs []) 0 N = 0 from cnt_none fun i _ _ => rfl]; rfl
  | r :: L, N, hG, hN => by
    have ih := total_cnt (N := N) hG.tail fun n hn => hN n ((mem_cons ..).2 (.inr hn))
    obtain ⟨h1, h2⟩ := hG.head
    have hr := hN (r.2 - 1) ((mem_cons ..).2 (.inl (by omega)))
    have e := cnt_or (p := fun i => decide (r.1.toNat ≤ i) && decide (i < r.2.toNat)) (q := hs L) (r := hs (r :: L)) (a := 0) (k := N) (fun i _ _ => by
      rw [hs, List.any_cons]
      congr 1
      rw [show decide (r.1 ≤ (i : Int)) = decide (r.1.toNat ≤ i) from decide_eq_decide.2 (by omega), show decide ((i : Int) < r.2) = decide (i < r.2.toNat) from decide_eq_decide.2 (by omega)]) (fun i _ _ h => by
      obtain ⟨q1, q2⟩ := h
      simp only [Bool.and_eq_true, decide_eq_true_eq] at q1
      obtain ⟨s, hs, q3, q4⟩ := (hs_iff L i).1 q2
      have := h2 s hs
      omega)
    rw [cnt_row N (by omega) (by omega)] at e
    rw [total_cons, ih, e]
    omega
/-- Rows below a number are no more than half of it. -/
theorem rows_half : ∀ {L : List Row} {a N : Int}, Good L → (∀ n, mem L n → a ≤ n ∧ n < N) → a ≤ N + 1 → 2 * (L.length : Int) ≤ N - a + 1
  | [], a, N, _, _, h => by simp; omega
  | r :: L, a, N, hG, hN, _ => by
    obtain ⟨h1, h2⟩ := hG.head
    have hr := hN r.1 ((mem_cons ..).2 (.inl (by omega)))
    have hr2 := hN (r.2 - 1) ((mem_cons ..).2 (.inl (by omega)))
    have := rows_half (a := r.2 + 1) (N := N) hG.tail (fun n hn => ⟨by obtain ⟨s, hs, q1, q2⟩ := hn; have := h2 s hs; omega, (hN n ((mem_cons ..).2 (.inr hn))).2⟩) (by omega)
    simp only [List.length_cons]
    omega
end Ra
end Go.Proofs.Ytlkbfacdaelbfaa
