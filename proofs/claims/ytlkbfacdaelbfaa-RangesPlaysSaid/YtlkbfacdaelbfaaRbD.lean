/-
  Layer 17, the document's Add in plain terms: a row is laid among others, and joined with its neighbours.
-/
import Derived.Test.YtlkbfacdaelbfaaRbC
namespace Go.Proofs.Ytlkbfacdaelbfaa
open Go.RowKit
set_option linter.unusedVariables false

namespace Ra
/-- Rows that rise; two may touch. -/
structure Weak (L : List Row) : Prop where
  row : ∀ r ∈ L, 0 ≤ r.1 ∧ r.1 < r.2 ∧ r.2 ≤ M
  sep : L.Pairwise fun r s => r.2 ≤ s.1
/-- One row more, joined with the last where it touches. -/
def joinIn (J : List Row) (x : Row) : List Row := if (J.getD (J.length - 1) (0, 0)).2 = x.1 ∧ 0 < J.length then J.take (J.length - 1) ++ [((J.getD (J.length - 1) (0, 0)).1, x.2)] else J ++ [x]
theorem snoc_of {J : List Row} (h : 0 < J.length) : J = J.take (J.length - 1) ++ [J.getD (J.length - 1) (0, 0)] := by
  have e : (J.take (J.length - 1 + 1)) = J.take (J.length - 1) ++ [J.getD (J.length - 1) (0, 0)] := by
    rw [List.take_add_one, some_getD (by omega)]; rfl
  rw [show J.length - 1 + 1 = J.length by omega, List.take_length] at e
  exact e
/-- What the loop of Add knows: the rows laid so far. -/
structure Joined (O : List Row) (k : Nat) (J : List Row) : Prop where
  good : Good J
  has : ∀ n, mem J n ↔ mem (O.take k) n
  len : J.length ≤ k
  last : ∀ r ∈ J, ∀ j, k ≤ j → j < O.length → r.2 ≤ (O.getD j (0, 0)).1
theorem Weak.lt {O : List Row} (h : Weak O) {j k : Nat} (hj : j < k) (hk : k < O.length) : (O.getD j (0, 0)).2 ≤ (O.getD k (0, 0)).1 := by
  have := List.pairwise_iff_getElem.1 h.sep j k (by omega) hk hj
  rw [List.getD_eq_getElem?_getD, List.getD_eq_getElem?_getD, List.getElem?_eq_getElem (by omega : j < O.length), List.getElem?_eq_getElem hk]
  exact this
theorem Weak.getD {O : List Row} (h : Weak O) {k : Nat} (hk : k < O.length) : 0 ≤ (O.getD k (0, 0)).1 ∧ (O.getD k (0, 0)).1 < (O.getD k (0, 0)).2 ∧ (O.getD k (0, 0)).2 ≤ M := by
  have := h.row _ (List.getElem_mem hk)
  rw [List.getD_eq_getElem?_getD, List.getElem?_eq_getElem hk]
  exact this
theorem Joined.start (O : List Row) : Joined O 0 [] := ⟨good_nil, fun n => by simp, by simp, fun r hr => (by cases hr)⟩
theorem Joined.step {O : List Row} (hO : Weak O) {k : Nat} {J : List Row} (h : Joined O k J) (hk : k < O.length) : Joined O (k + 1) (joinIn J (O.getD k (0, 0))) := by
  obtain ⟨x, hx⟩ : ∃ x, x = O.getD k (0, 0) := ⟨_, rfl⟩
  have hxr := hO.getD hk
  have hnext : ∀ j, k + 1 ≤ j → j < O.length → x.2 ≤ (O.getD j (0, 0)).1 := fun j h1 h2 => by rw [hx]; exact hO.lt (by omega) h2
  have hbef : ∀ r ∈ J, r.2 ≤ x.1 := fun r hr => by rw [hx]; exact h.last r hr k (Nat.le_refl _) hk
  have hmt : ∀ n, mem (O.take (k + 1)) n ↔ mem J n ∨ (x.1 ≤ n ∧ n < x.2) := fun n => by
    rw [List.take_add_one, some_getD hk, ← hx, mem_append, h.has]
    constructor
    · rintro (h | ⟨r, hr, h1⟩)
      · exact .inl h
      · simp only [Option.toList, List.mem_singleton] at hr
        subst hr
        exact .inr h1
    · rintro (h | h)
      · exact .inl h
      · exact .inr ⟨x, by simp, h⟩
  rw [← hx] at hxr ⊢
  unfold joinIn
  split
  · rename_i hc
    obtain ⟨hc1, hc2⟩ := hc
    have hJ := snoc_of hc2
    obtain ⟨A, hA⟩ : ∃ A, A = J.take (J.length - 1) := ⟨_, rfl⟩
    obtain ⟨l, hl⟩ : ∃ l, l = J.getD (J.length - 1) (0, 0) := ⟨_, rfl⟩
    have hAl : A.length + 1 = J.length := by rw [hA, List.length_take]; omega
    rw [← hA, ← hl] at hJ ⊢
    rw [← hl] at hc1
    have hg := h.good
    rw [hJ] at hg
    have hg1 := hg
    have hp := List.pairwise_append.1 hg.sep
    refine ⟨⟨fun r hr => ?_, ?_⟩, fun n => ?_, ?_, fun r hr j h1 h2 => ?_⟩
    · rcases List.mem_append.1 hr with hr | hr
      · exact hg.row r (List.mem_append_left _ hr)
      · simp only [List.mem_singleton] at hr
        subst hr
        have := hg.row l (by simp)
        exact ⟨this.1, by simp only; omega, hxr.2.2⟩
    · rw [List.pairwise_append]
      exact ⟨hp.1, List.pairwise_singleton _ _, fun a ha b hb => by
        simp only [List.mem_singleton] at hb
        subst hb
        exact hp.2.2 a ha l (by simp)⟩
    · have hlr := hg.row l (by simp)
      rw [hmt, hJ, mem_append, mem_append, mem_cons, mem_cons]
      simp only [iff_false_intro (mem_nil n), or_false]
      constructor
      · rintro (h | h)
        · exact .inl (.inl h)
        · rcases (by omega : n < l.2 ∨ l.2 ≤ n) with h3 | h3
          · exact .inl (.inr ⟨h.1, h3⟩)
          · exact .inr ⟨by omega, h.2⟩
      · rintro ((h | h) | h)
        · exact .inl h
        · exact .inr ⟨h.1, by omega⟩
        · exact .inr ⟨by omega, h.2⟩
    · have := h.len; rw [List.length_append, List.length_singleton]; omega
    · rcases List.mem_append.1 hr with hr | hr
      · have := h.last r (by rw [hJ]; exact List.mem_append_left _ hr) j (by omega) h2
        exact this
      · simp only [List.mem_singleton] at hr
        subst hr
        exact hnext j h1 h2
  · rename_i hc
    have hlt : ∀ r ∈ J, r.2 < x.1 := fun r hr => by
      have h0 : 0 < J.length := List.length_pos_iff.2 (fun e => by rw [e] at hr; cases hr)
      have hne : ¬ (J.getD (J.length - 1) (0, 0)).2 = x.1 := fun e => hc ⟨e, h0⟩
      obtain ⟨i, hi, e⟩ := List.mem_iff_getElem.1 hr
      have e2 : J.getD i (0, 0) = r := by rw [List.getD_eq_getElem?_getD, List.getElem?_eq_getElem hi, Option.getD_some, e]
      have hl := hbef (J.getD (J.length - 1) (0, 0)) (List.mem_of_getElem? (some_getD (by omega)))
      rcases (by omega : i < J.length - 1 ∨ i = J.length - 1) with h1 | h1
      · have := h.good.lt h1 (by omega)
        have := h.good.getD (k := J.length - 1) (by omega)
        rw [e2] at *
        omega
      · rw [← h1, e2] at hl hne
        omega
    refine ⟨⟨fun r hr => ?_, ?_⟩, fun n => ?_, ?_, fun r hr j h1 h2 => ?_⟩
    · rcases List.mem_append.1 hr with hr | hr
      · exact h.good.row r hr
      · simp only [List.mem_singleton] at hr
        subst hr
        exact hxr
    · rw [List.pairwise_append]
      exact ⟨h.good.sep, List.pairwise_singleton _ _, fun a ha b hb => by
        simp only [List.mem_singleton] at hb
        subst hb
        exact hlt a ha⟩
    · rw [hmt, mem_append, mem_cons]
      simp only [iff_false_intro (mem_nil n), or_false]
    · have := h.len; rw [List.length_append, List.length_singleton]; omega
    · rcases List.mem_append.1 hr with hr | hr
      · exact h.last r hr j (by omega) h2
      · simp only [List.mem_singleton] at hr
        subst hr
        exact hnext j h1 h2
/-- Where a row is laid among rows that leave it free. -/
structure Laid (D : List Row) (f t : Int) (p : Nat) : Prop where
  le : p ≤ D.length
  lo : ∀ j, j < p → (D.getD j (0, 0)).1 ≤ f
  hi : ∀ j, p ≤ j → j < D.length → f < (D.getD j (0, 0)).1
theorem Laid.weak {D : List Row} (hD : Good D) {f t : Int} {p : Nat} (h : Laid D f t p) (hf : 0 ≤ f) (hft : f < t) (ht : t ≤ M) (hfree : ∀ n, f ≤ n → n < t → ¬ mem D n) : Weak (D.take p ++ [(f, t)] ++ D.drop p) := by
  have lo : ∀ r ∈ D.take p, r.2 ≤ f := fun r hr => by
    obtain ⟨k, h1, h2, rfl⟩ := mem_take_get hr
    have h3 := h.lo k h1
    have h4 := hD.getD h2
    rcases (by omega : (D.getD k (0, 0)).2 ≤ f ∨ f < (D.getD k (0, 0)).2) with h5 | h5
    · exact h5
    · exact absurd ⟨_, List.mem_of_getElem? (some_getD h2), h3, h5⟩ (hfree f (Int.le_refl _) hft)
  have hi : ∀ r ∈ D.drop p, t ≤ r.1 := fun r hr => by
    obtain ⟨k, h1, h2, rfl⟩ := mem_drop_get hr
    have h3 := h.hi k h1 h2
    have h4 := hD.getD h2
    rcases (by omega : t ≤ (D.getD k (0, 0)).1 ∨ (D.getD k (0, 0)).1 < t) with h5 | h5
    · exact h5
    · exact absurd ⟨_, List.mem_of_getElem? (some_getD h2), Int.le_refl _, h4.2.1⟩ (hfree _ (by omega) h5)
  have hc : Good (D.take p ++ D.drop p) := by rw [List.take_append_drop]; exact hD
  have hp := List.pairwise_append.1 hc.sep
  refine ⟨fun r hr => ?_, ?_⟩
  · simp only [List.mem_append, List.mem_singleton] at hr
    rcases hr with (hr | rfl) | hr
    · exact hc.row r (List.mem_append_left _ hr)
    · exact ⟨hf, hft, ht⟩
    · exact hc.row r (List.mem_append_right _ hr)
  · rw [List.pairwise_append, List.pairwise_append]
    refine ⟨⟨hp.1.imp (fun h => by omega), List.pairwise_singleton _ _, fun a ha b hb => ?_⟩, hp.2.1.imp (fun h => by omega), fun a ha b hb => ?_⟩
    · simp only [List.mem_singleton] at hb
      subst hb
      exact lo a ha
    · simp only [List.mem_append, List.mem_singleton] at ha
      rcases ha with ha | rfl
      · have := hp.2.2 a ha b hb; omega
      · exact hi b hb
theorem laid_mem {D : List Row} {f t : Int} {p : Nat} (n : Int) : mem (D.take p ++ [(f, t)] ++ D.drop p) n ↔ mem D n ∨ (f ≤ n ∧ n < t) := by
  have e : mem D n ↔ mem (D.take p) n ∨ mem (D.drop p) n := by rw [← mem_append, List.take_append_drop]
  rw [e, mem_append, mem_append, mem_cons]
  simp only [iff_false_intro (mem_nil n), or_false]
  constructor
  · rintro ((h | h) | h)
    · exact .inl (.inl h)
    · exact .inr h
    · exact .inl (.inr h)
  · rintro ((h | h) | h)
    · exact .inl (.inl h)
    · exact .inr h
    · exact .inl (.inr h)
end Ra
end Go.Proofs.Ytlkbfacdaelbfaa
