/-
  SchedFastest, the plain law.
-/
import Derived.Test.YtiijnhgafadokaaSchQ
namespace Go.Proofs.Ytiijnhgafadokaa
open Go.RowKit
set_option linter.unusedVariables false

def fives (m : Nat) : List Int := (List.range m).map fun (i : Nat) => 5 * (i : Int)
theorem fives_len (m : Nat) : (fives m).length = m := by simp [fives]
theorem fives_get {m i : Nat} (h : i < m) : (fives m)[i]? = some (5 * (i : Int)) := by simp [fives, h]
theorem fives_succ (m : Nat) : fives (m + 1) = fives m ++ [5 * (m : Int)] := by simp [fives, List.range_succ]
theorem fives_mem {m : Nat} {x : Int} (h : x ∈ fives m) : ∃ i : Nat, i < m ∧ x = 5 * (i : Int) := by
  simp only [fives, List.mem_map, List.mem_range] at h
  obtain ⟨i, hi, rfl⟩ := h
  exact ⟨i, hi, rfl⟩
/-- Is the i-th path full? -/
def fullA (S : Sch) (i : Nat) : Bool := match S.op (5 * (i : Int)) with
  | some f => decide (f.l.length = 4)
  | .none => true
def fullN (S : Sch) (m : Nat) : Nat := (List.range m).countP (fullA S)
/-- m paths are open, each empty or full. -/
structure Fast (S : Sch) (m : Nat) : Prop where
  pol : S.pol = 0
  op : ∀ i, i < m → ∃ f, S.op (5 * (i : Int)) = some f ∧ f.win = 4 ∧ (f = ⟨4, 0, []⟩ ∨ f.l.length = 4)
  no : ∀ i, m ≤ i → S.op (5 * (i : Int)) = .none
theorem fast_new : Fast (newS 0) 0 ∧ fullN (newS 0) 0 = 0 := ⟨⟨rfl, fun i h => by omega, fun _ _ => rfl⟩, rfl⟩
theorem fullA_false {S : Sch} {m i : Nat} (h : Fast S m) (hi : i < m) (hf : fullA S i = false) : S.op (5 * (i : Int)) = some ⟨4, 0, []⟩ := by
  obtain ⟨f, h1, h2, h3⟩ := h.op i hi
  rcases h3 with rfl | h3
  · exact h1
  · unfold fullA at hf
    rw [h1] at hf
    simp [h3] at hf
theorem fullA_true {S : Sch} {m i : Nat} (h : Fast S m) (hi : i < m) (hf : fullA S i = true) : ∃ f, S.op (5 * (i : Int)) = some f ∧ f.win = 4 ∧ f.l.length = 4 := by
  obtain ⟨f, h1, h2, h3⟩ := h.op i hi
  refine ⟨f, h1, h2, ?_⟩
  unfold fullA at hf
  rw [h1] at hf
  simpa using hf
theorem Fast.open {S : Sch} {m : Nat} (h : Fast S m) (hn : fullN S m = 0) : Fast (openS S (5 * (m : Int))) (m + 1) ∧ fullN (openS S (5 * (m : Int))) (m + 1) = 0 := by
  have e : openS S (5 * (m : Int)) = setOp S (5 * (m : Int)) (some ⟨4, 0, []⟩) := by
    unfold openS
    rw [h.no m (Nat.le_refl _)]
    exact if_pos (by omega)
  rw [e]
  have hop : ∀ i : Nat, i ≠ m → (setOp S (5 * (m : Int)) (some ⟨4, 0, []⟩)).op (5 * (i : Int)) = S.op (5 * (i : Int)) := fun i hi => if_neg (by omega)
  have hom : (setOp S (5 * (m : Int)) (some ⟨4, 0, []⟩)).op (5 * (m : Int)) = some ⟨4, 0, []⟩ := if_pos rfl
  refine ⟨⟨h.pol, fun i hi => ?_, fun i hi => by rw [hop i (by omega)]; exact h.no i (by omega)⟩, ?_⟩
  · by_cases hm : i = m
    · subst hm
      exact ⟨_, hom, rfl, .inl rfl⟩
    · rw [hop i hm]; exact h.op i (by omega)
  · unfold fullN at hn ⊢
    rw [List.countP_eq_zero] at hn ⊢
    intro i hi
    rw [List.mem_range] at hi
    unfold fullA
    by_cases hm : i = m
    · subst hm
      rw [hom]; simp
    · rw [hop i hm]
      exact hn i (by rw [List.mem_range]; omega)

/-! The one with the least ticks. -/
def tk (rtt : List Int) (i : Nat) : Int := (rtt[i]?).getD 0
def lbF (S : Sch) (rtt : List Int) : Nat → Int
  | 0 => -1
  | k + 1 => if fullA S k = false ∧ (lbF S rtt k < 0 ∨ tk rtt k < tk rtt (lbF S rtt k).toNat) then (k : Int) else lbF S rtt k
theorem lbF_in (S : Sch) (rtt : List Int) (k : Nat) : -1 ≤ lbF S rtt k ∧ lbF S rtt k < k ∧ (0 ≤ lbF S rtt k → fullA S (lbF S rtt k).toNat = false) := by
  induction k with
  | zero => rw [lbF]; exact ⟨by omega, by omega, fun h => absurd h (by omega)⟩
  | succ k ih =>
    obtain ⟨i1, i2, i3⟩ := ih
    rw [lbF]
    split
    · rename_i h
      exact ⟨by omega, by omega, fun _ => by rw [Int.toNat_natCast]; exact h.1⟩
    · exact ⟨i1, by omega, i3⟩
theorem lbF_some {S : Sch} {rtt : List Int} {k i : Nat} (hi : i < k) (hf : fullA S i = false) : 0 ≤ lbF S rtt k := by
  induction k with
  | zero => omega
  | succ k ih =>
    rw [lbF]
    split
    · omega
    · rename_i h
      by_cases e : i = k
      · subst e
        rcases (by omega : 0 ≤ lbF S rtt i ∨ lbF S rtt i < 0) with h1 | h1
        · exact h1
        · exact absurd ⟨hf, .inl h1⟩ h
      · exact ih (by omega)
theorem lbF_none {S : Sch} {rtt : List Int} {k : Nat} (h : ∀ i, i < k → fullA S i = true) : lbF S rtt k = -1 := by
  obtain ⟨a, b, c⟩ := lbF_in S rtt k
  rcases (by omega : 0 ≤ lbF S rtt k ∨ lbF S rtt k = -1) with h1 | h1
  · have := c h1
    rw [h _ (by omega)] at this
    cases this
  · exact h1
theorem fast_pick {S : Sch} {rtt : List Int} {m : Nat} (h : Fast S m) : ∀ k, k ≤ m →
    (pkTo S (fives m) rtt k).1 = (if lbF S rtt k < 0 then -1 else 5 * lbF S rtt k) ∧ (0 ≤ lbF S rtt k → (pkTo S (fives m) rtt k).2 = tk rtt (lbF S rtt k).toNat) := by
  intro k
  induction k with
  | zero => intro _; rw [lbF]; exact ⟨rfl, fun h => absurd h (by decide)⟩
  | succ k ih =>
    intro hk
    obtain ⟨i1, i2⟩ := ih (by omega)
    have e : pkTo S (fives m) rtt (k + 1) = pkStep S rtt (pkTo S (fives m) rtt k) k (5 * (k : Int)) := by rw [pkTo, fives_get (by omega)]
    rw [e]
    cases hf : fullA S k with
    | true =>
      obtain ⟨f, h1, h2, h3⟩ := fullA_true h (by omega) hf
      have : pkStep S rtt (pkTo S (fives m) rtt k) k (5 * (k : Int)) = pkTo S (fives m) rtt k := by
        unfold pkStep
        rw [h1]
        exact if_pos (by omega)
      have E : lbF S rtt (k + 1) = lbF S rtt k := by rw [lbF, if_neg (by rw [hf]; simp)]
      rw [this, E]
      exact ⟨i1, i2⟩
    | false =>
      have h1 := fullA_false h (by omega) hf
      have hb : better S.pol S.last (pkTo S (fives m) rtt k).1 (pkTo S (fives m) rtt k).2 (5 * (k : Int)) (tk rtt k) = decide (lbF S rtt k < 0 ∨ tk rtt k < tk rtt (lbF S rtt k).toNat) := by
        rw [h.pol, i1]
        unfold better
        by_cases h0 : lbF S rtt k < 0
        · rw [if_pos h0, if_pos (by decide)]
          simp [h0]
        · rw [if_neg h0, if_neg (by omega), if_pos (by decide), i2 (by omega)]
          simp [h0]
      have : pkStep S rtt (pkTo S (fives m) rtt k) k (5 * (k : Int)) = if better S.pol S.last (pkTo S (fives m) rtt k).1 (pkTo S (fives m) rtt k).2 (5 * (k : Int)) (tk rtt k) then (5 * (k : Int), tk rtt k) else pkTo S (fives m) rtt k := by
        unfold pkStep
        rw [h1]
        exact if_neg (by simp)
      rw [this, hb]
      by_cases hc : lbF S rtt k < 0 ∨ tk rtt k < tk rtt (lbF S rtt k).toNat
      · have E : lbF S rtt (k + 1) = (k : Int) := by rw [lbF, if_pos ⟨hf, hc⟩]
        rw [if_pos (decide_eq_true hc), E]
        refine ⟨by simp only; rw [if_neg (by omega)], fun _ => ?_⟩
        rw [Int.toNat_natCast]
      · have E : lbF S rtt (k + 1) = lbF S rtt k := by rw [lbF, if_neg (fun hh => hc hh.2)]
        rw [if_neg (by rw [decide_eq_false hc]; decide), E]
        exact ⟨i1, i2⟩
theorem full_lt {S : Sch} {m : Nat} (h : fullN S m < m) : ∃ i, i < m ∧ fullA S i = false := by
  refine Classical.byContradiction fun hn => ?_
  have : fullN S m = (List.range m).length := by
    unfold fullN
    rw [List.countP_eq_length]
    intro i hi
    rw [List.mem_range] at hi
    cases hf : fullA S i with
    | true => rfl
    | false => exact absurd ⟨i, hi, hf⟩ hn
  rw [List.length_range] at this
  omega
theorem full_all {S : Sch} {m : Nat} (h : fullN S m = m) : ∀ i, i < m → fullA S i = true := by
  intro i hi
  have : fullN S m = (List.range m).length := by rw [List.length_range]; exact h
  unfold fullN at this
  rw [List.countP_eq_length] at this
  exact this i (by rw [List.mem_range]; exact hi)

/-! Four records go to the b-th path. -/
structure Sends (S0 S : Sch) (b i : Nat) : Prop where
  pol : S.pol = S0.pol
  at_ : ∃ l, S.op (5 * (b : Int)) = some ⟨4, (i : Int), l⟩ ∧ l.length = i
  no : ∀ x, x ≠ 5 * (b : Int) → S.op x = S0.op x
theorem sends_start {S : Sch} {m b : Nat} (h : Fast S m) (hb : b < m) (hf : fullA S b = false) : Sends S S b 0 :=
  ⟨rfl, ⟨[], fullA_false h hb hf, rfl⟩, fun _ _ => rfl⟩
theorem Sends.under {S0 S : Sch} {b i : Nat} (h : Sends S0 S b i) : under S (5 * (b : Int)) = i := by
  obtain ⟨l, h1, h2⟩ := h.at_
  unfold Go.Proofs.Ytiijnhgafadokaa.under
  rw [h1]; exact h2
theorem Sends.step {S0 S : Sch} {b i : Nat} (h : Sends S0 S b i) (hi : i < 4) (now : Int) (cv : Value) : Sends S0 (sentS S (5 * (b : Int)) (i : Int) now cv []) b (i + 1) := by
  obtain ⟨l, h1, h2⟩ := h.at_
  unfold sentS
  rw [h1]
  simp only
  rw [if_neg (by omega)]
  refine ⟨h.pol, ⟨_, if_pos rfl, by simp [h2]⟩, fun x hx => ?_⟩
  exact (if_neg hx).trans (h.no x hx)
theorem Sends.done {S0 S : Sch} {b m : Nat} (h : Sends S0 S b 4) (h0 : Fast S0 m) (hb : b < m) (hf : fullA S0 b = false) : Fast S m ∧ fullN S m = fullN S0 m + 1 := by
  obtain ⟨l, h1, h2⟩ := h.at_
  refine ⟨⟨h.pol.trans h0.pol, fun i hi => ?_, fun i hi => by rw [h.no _ (by omega)]; exact h0.no i hi⟩, ?_⟩
  · by_cases e : i = b
    · subst e
      exact ⟨_, h1, rfl, .inr h2⟩
    · rw [h.no _ (by omega)]; exact h0.op i hi
  · have key : ∀ k, k ≤ m → (List.range k).countP (fullA S) = (List.range k).countP (fullA S0) + if b < k then 1 else 0 := by
      intro k
      induction k with
      | zero => intro _; rfl
      | succ k ih =>
        intro hk
        rw [List.range_succ, List.countP_append, List.countP_append, ih (by omega), List.countP_singleton, List.countP_singleton]
        by_cases e : k = b
        · subst e
          have : fullA S k = true := by unfold fullA; rw [h1]; simp [h2]
          rw [this, hf]
          simp
        · have : fullA S k = fullA S0 k := by unfold fullA; rw [h.no _ (by omega)]
          rw [this]
          by_cases hlt : b < k
          · rw [if_pos hlt, if_pos (show b < k + 1 by omega)]; omega
          · rw [if_neg hlt, if_neg (show ¬ b < k + 1 by omega)]; omega
    have := key m (Nat.le_refl _)
    rw [if_pos hb] at this
    exact this
theorem pick_fast {S : Sch} {rtt : List Int} {m : Nat} (h : Fast S m) (b : Nat) (hb : lbF S rtt m = (b : Int)) : (pkTo S (fives m) rtt (fives m).length).1 = 5 * (b : Int) := by
  rw [fives_len, (fast_pick h m (Nat.le_refl _)).1, hb, if_neg (by omega)]
theorem pick_none {S : Sch} {rtt : List Int} {m : Nat} (h : Fast S m) (hn : fullN S m = m) : (pkTo S (fives m) rtt (fives m).length).1 = -1 := by
  rw [fives_len, (fast_pick h m (Nat.le_refl _)).1, lbF_none (full_all hn), if_pos (by decide)]
theorem Fast.pick {S : Sch} {m : Nat} (h : Fast S m) (b : Int) : Fast (pickS S b) m ∧ fullN (pickS S b) m = fullN S m := by
  unfold pickS
  split
  · exact ⟨h, rfl⟩
  · exact ⟨⟨h.pol, h.op, h.no⟩, rfl⟩
end Go.Proofs.Ytiijnhgafadokaa
