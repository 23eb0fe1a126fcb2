/-
  What an answer of the ranges is is told by the list alone.
-/
import Derived.Test.YtlkbfacdaelbfaaRaE
namespace Go.Proofs.Ytlkbfacdaelbfaa
open Go.RowKit
set_option linter.unusedVariables false

theorem NextIs.only {L : List Ra.Row} {n x y : Int} (h : NextIs L n x) (k : NextIs L n y) : x = y := by
  rcases Int.lt_trichotomy x y with h1 | h1 | h1
  · exact absurd (k.all x h.ge h1) h.no
  · exact h1
  · exact absurd (h.all y k.ge h1) k.no
theorem GapIs.only {L : List Ra.Row} {f t : Int} {g g2 : Ra.Row} {b b2 : Bool} (h : GapIs L f t g b) (k : GapIs L f t g2 b2) : g = g2 ∧ b = b2 := by
  cases b with
  | false =>
    cases b2 with
    | false => exact ⟨(h.no rfl).1.trans (k.no rfl).1.symm, rfl⟩
    | true =>
      obtain ⟨p1, p2, p3, p4⟩ := k.yes rfl
      exact absurd ((h.no rfl).2 g2.1 p1.1 (by omega)) (p3 g2.1 (by omega) (by omega))
  | true =>
    obtain ⟨q1, q2, q3, q4⟩ := h.yes rfl
    cases b2 with
    | false => exact absurd ((k.no rfl).2 g.1 q1.1 (by omega)) (q3 g.1 (by omega) (by omega))
    | true =>
      obtain ⟨p1, p2, p3, p4⟩ := k.yes rfl
      have e1 : g.1 = g2.1 := by
        rcases Int.lt_trichotomy g.1 g2.1 with h1 | h1 | h1
        · exact absurd (p2 g.1 q1.1 h1) (q3 g.1 (by omega) (by omega))
        · exact h1
        · exact absurd (q2 g2.1 p1.1 h1) (p3 g2.1 (by omega) (by omega))
      have e2 : g.2 = g2.2 := by
        rcases Int.lt_trichotomy g.2 g2.2 with h1 | h1 | h1
        · rcases q4 with h2 | h2
          · omega
          · exact absurd h2 (p3 g.2 (by omega) h1)
        · exact h1
        · rcases p4 with h2 | h2
          · omega
          · exact absurd h2 (q3 g2.2 (by omega) h1)
      exact ⟨Prod.ext e1 e2, rfl⟩
theorem iff_only {b c : Bool} {P : Prop} (h : b = true ↔ P) (k : c = true ↔ P) : b = c := by
  cases b <;> cases c <;> simp_all
/-- The answers, by name. -/
noncomputable def nxtV (L : List Ra.Row) (n : Int) : Int := Classical.epsilon fun x => NextIs L n x
noncomputable def hasV (L : List Ra.Row) (n : Int) : Bool := @decide _ (Classical.propDecidable (Ra.mem L n))
noncomputable def covV (L : List Ra.Row) (f t : Int) : Bool := @decide _ (Classical.propDecidable (∀ y, max f 0 ≤ y → y < min t Ra.M → Ra.mem L y))
theorem nxtV_is {L : List Ra.Row} {n x : Int} (h : NextIs L n x) : nxtV L n = x := (Classical.epsilon_spec (p := fun x => NextIs L n x) ⟨x, h⟩ : NextIs L n (nxtV L n)).only h
theorem hasV_is {L : List Ra.Row} {n : Int} {b : Bool} (h : b = true ↔ Ra.mem L n) : hasV L n = b := iff_only (by unfold hasV; exact @decide_eq_true_iff _ (Classical.propDecidable _)) h
theorem covV_is {L : List Ra.Row} {f t : Int} {b : Bool} (h : b = true ↔ ∀ y, max f 0 ≤ y → y < min t Ra.M → Ra.mem L y) : covV L f t = b := iff_only (by unfold covV; exact @decide_eq_true_iff _ (Classical.propDecidable _)) h
theorem Calls.next_v {p : Program} {f : FuncId} {a : Array Value} {w : World} {L : List Ra.Row} {n : Int} (h : Calls p f a w (GivesNext w L n)) : Calls p f a w (Gives w (.int .i64 (nxtV L n))) := h.mono fun e w' ⟨x, h1, h2, h3⟩ => ⟨by rw [nxtV_is h2]; exact h1, h3⟩
theorem Calls.has_v {p : Program} {f : FuncId} {a : Array Value} {w : World} {L : List Ra.Row} {n : Int} (h : Calls p f a w (GivesHas w L n)) : Calls p f a w (Gives w (.bool (hasV L n))) := h.mono fun e w' ⟨x, h1, h2, h3⟩ => ⟨by rw [hasV_is h2]; exact h1, h3⟩
theorem Calls.cov_v {p : Program} {f : FuncId} {a : Array Value} {w : World} {L : List Ra.Row} {s t : Int} (h : Calls p f a w (GivesCov w L s t)) : Calls p f a w (Gives w (.bool (covV L s t))) := h.mono fun e w' ⟨x, h1, h2, h3⟩ => ⟨by rw [covV_is h2]; exact h1, h3⟩
theorem next_ex {L : List Ra.Row} (hG : Ra.Good L) (n : Int) : ∃ y, NextIs L n y := by
  by_cases h : Ra.mem L (max n 0)
  · obtain ⟨r, h1, h2, h3⟩ := h
    exact ⟨_, AtIs.next (r := r) (b := true) hG ⟨fun _ => ⟨h1, h2, h3⟩, fun e => by cases e⟩⟩
  · exact ⟨max n 0, by omega, h, fun y h1 h2 => by omega, .inl rfl⟩
end Go.Proofs.Ytlkbfacdaelbfaa
