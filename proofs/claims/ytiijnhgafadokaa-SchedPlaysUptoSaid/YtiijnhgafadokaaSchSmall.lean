/-
  How long the rows of the two schedulers get: at most one more a call.
-/
import Derived.Test.YtiijnhgafadokaaSchRel
namespace Go.Proofs.Ytiijnhgafadokaa
open Go.RowKit
set_option linter.unusedVariables false

structure Small (S : Sch) (R : RSch) (n : Nat) : Prop where
  l : ∀ k f, S.op k = some f → f.l.length ≤ n
  L : R.L.length ≤ n
theorem Small.mono {S : Sch} {R : RSch} {n m : Nat} (h : Small S R n) (hm : n ≤ m) : Small S R m := ⟨fun k f hf => Nat.le_trans (h.l k f hf) hm, Nat.le_trans h.L hm⟩
theorem small_new (p : Int) : Small (newS p) (newR p) 0 := ⟨(fun k f h => by cases h), Nat.le_refl _⟩
theorem Small.under {S : Sch} {R : RSch} {n : Nat} (h : Small S R n) (k : Int) : under S k ≤ n := by
  unfold Go.Proofs.Ytiijnhgafadokaa.under
  cases hk : S.op k with
  | none => exact Nat.zero_le _
  | some f => exact h.l k f hk
theorem op_set {S : Sch} {k k' : Int} {o : Option Fl} {f : Fl} (h : (setOp S k o).op k' = some f) : (k' = k ∧ o = some f) ∨ S.op k' = some f := by
  unfold setOp at h
  simp only at h
  by_cases e : k' = k
  · rw [if_pos e] at h; exact .inl ⟨e, h⟩
  · rw [if_neg e] at h; exact .inr h
theorem Small.open {S : Sch} {R : RSch} {n : Nat} (h : Small S R n) (id : Int) : Small (openS S id) (openR R id) (n + 1) := by
  refine ⟨fun k f hf => ?_, ?_⟩
  · unfold openS at hf
    split at hf
    · have := h.l k f hf; omega
    · split at hf
      · rcases op_set hf with ⟨_, e⟩ | e
        · cases e; simp
        · have := h.l k f e; omega
      · have := h.l k f hf; omega
  · unfold openR
    have := h.L
    split
    · simp; omega
    · omega
theorem Small.close {S : Sch} {R : RSch} {n : Nat} (h : Small S R n) (id : Int) : Small (closeS S id) (closeR R id) n := by
  refine ⟨fun k f hf => ?_, ?_⟩
  · unfold closeS at hf
    split at hf
    · rcases op_set hf with ⟨_, e⟩ | e
      · cases e
      · exact h.l k f e
    · exact h.l k f hf
  · unfold closeR
    have := h.L
    split
    · simp; omega
    · exact this
theorem Small.sent {S : Sch} {R : RSch} {n : Nat} (h : Small S R n) (id c now : Int) (cv lv cv' : Value) (car : List (Int × Int)) : Small (sentS S id c now cv car) (sentRS R id c now lv cv' car) (n + 1) := by
  refine ⟨fun k f hf => ?_, ?_⟩
  · unfold sentS at hf
    split at hf
    · rename_i f0 h0
      split at hf
      · have := h.l k f hf; omega
      · rcases op_set hf with ⟨_, e⟩ | e
        · cases e
          have := h.l id f0 h0
          simp; omega
        · have := h.l k f e; omega
    · have := h.l k f hf; omega
  · unfold sentRS
    have := h.L
    split
    · split
      · split
        · omega
        · simp; omega
      · omega
    · omega
theorem Small.late {S : Sch} {R : RSch} {n : Nat} (h : Small S R n) (id now age : Int) (vl : Value) : Small (lateS S id now age) (lateRS R id now age vl) n := by
  refine ⟨fun k f hf => ?_, ?_⟩
  · unfold lateS at hf
    split at hf
    · rename_i f0 h0
      rcases op_set hf with ⟨_, e⟩ | e
      · cases e
        exact Nat.le_trans (List.length_filter_le _ f0.l) (h.l id f0 h0)
      · exact h.l k f e
    · exact h.l k f hf
  · unfold lateRS
    have := h.L
    split
    · split
      · simp; omega
      · exact this
    · exact this
theorem Small.got {S : Sch} {R : RSch} {n : Nat} (h : Small S R n) (id top : Int) (l : List (Int × Int)) (vl : Value) : Small (gotS S id top l) (gotRS R id top l vl) n := by
  refine ⟨fun k f hf => ?_, ?_⟩
  · unfold gotS at hf
    split at hf
    · rename_i f0 h0
      rcases op_set hf with ⟨_, e⟩ | e
      · cases e
        exact Nat.le_trans (List.length_filter_le _ _) (Nat.le_trans (List.length_filter_le _ f0.l) (h.l id f0 h0))
      · exact h.l k f e
    · exact h.l k f hf
  · unfold gotRS
    have := h.L
    split
    · split
      · simp; omega
      · exact this
    · exact this
theorem Small.pick {S : Sch} {R : RSch} {n : Nat} (h : Small S R n) (b : Int) : Small (pickS S b) (pickR R b) n := by
  unfold pickS pickR
  split
  · exact h
  · exact ⟨h.l, h.L⟩
end Go.Proofs.Ytiijnhgafadokaa
