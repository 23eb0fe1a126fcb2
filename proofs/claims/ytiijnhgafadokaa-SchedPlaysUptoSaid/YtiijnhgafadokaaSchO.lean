/-
  The document's examples of layer 21, as plain functions.
-/
import Derived.Test.YtiijnhgafadokaaSchN
namespace Go.Proofs.Ytiijnhgafadokaa
open Go.RowKit
set_option linter.unusedVariables false

def five (v0 v1 v2 v3 v4 : Value) : List Rec := [⟨0, 10, v0, [(0, 1)]⟩, ⟨1, 10, v1, [(1, 2)]⟩, ⟨2, 10, v2, [(2, 3)]⟩, ⟨3, 10, v3, [(3, 4)]⟩, ⟨4, 10, v4, [(4, 5)]⟩]
theorem sh_got {S : Sch} {v0 v1 v2 v3 v4 : Value} (h : S.op 1 = some ⟨4, 5, five v0 v1 v2 v3 v4⟩) :
    gotL S 1 4 [(3, 4)] = [(0, 1), (1, 2)] ∧ gotT S 1 4 25 = 15 ∧ (gotS S 1 4 [(3, 4)]).op 1 = some ⟨3, 5, [⟨2, 10, v2, [(2, 3)]⟩]⟩ := by
  refine ⟨?_, ?_, ?_⟩
  · unfold gotL; rw [h]; rfl
  · unfold gotT; rw [h]; rfl
  · unfold gotS; rw [h]
    show (if (1 : Int) = 1 then some (lostF (farBehind 4) (cameF 4 [(3, 4)] ⟨4, 5, five v0 v1 v2 v3 v4⟩)) else S.op 1) = _
    rw [if_pos rfl]
    simp [lostF, cameF, five, gotP, farBehind, inRg]
    omega
theorem sh_late {S : Sch} {v : Value} (h : S.op 1 = some ⟨3, 5, [⟨2, 10, v, [(2, 3)]⟩]⟩) :
    lateL S 1 20 11 = [] ∧ (lateS S 1 20 11).op 1 = some ⟨3, 5, [⟨2, 10, v, [(2, 3)]⟩]⟩ ∧ lateL S 1 20 10 = [(2, 3)] ∧ (lateS S 1 20 10).op 1 = some ⟨2, 5, []⟩ := by
  refine ⟨?_, ?_, ?_, ?_⟩
  · unfold lateL; rw [h]; rfl
  · unfold lateS; rw [h]; rfl
  · unfold lateL; rw [h]; rfl
  · unfold lateS; rw [h]; rfl
/-- What is known of the scheduler in the example. -/
structure View (S : Sch) (last : Int) (o1 o2 : Option Fl) : Prop where
  pol : S.pol = 1
  last : S.last = last
  p1 : S.op 1 = o1
  p2 : S.op 2 = o2
theorem view_new : View (newS 1) (-1) .none .none := ⟨rfl, rfl, rfl, rfl⟩
theorem View.open1 {S : Sch} {x : Int} {o : Option Fl} (h : View S x .none o) : View (openS S 1) x (some ⟨4, 0, []⟩) o := by
  unfold openS
  rw [h.p1]
  exact ⟨h.pol, h.last, rfl, h.p2⟩
theorem View.open2 {S : Sch} {x : Int} {o : Option Fl} (h : View S x o .none) : View (openS S 2) x o (some ⟨4, 0, []⟩) := by
  unfold openS
  rw [h.p2]
  exact ⟨h.pol, h.last, h.p1, rfl⟩
theorem View.pick {S : Sch} {x : Int} (h : View S x (some ⟨4, 0, []⟩) (some ⟨4, 0, []⟩)) (hx : x = -1 ∨ x = 1 ∨ x = 2) :
    (pkTo S [1, 2] [] 2).1 = (if x = 1 then 2 else 1) ∧ View (pickS S (if x = 1 then 2 else 1)) (if x = 1 then 2 else 1) (some ⟨4, 0, []⟩) (some ⟨4, 0, []⟩) := by
  have e : (pkTo S [1, 2] [] 2).1 = (if x = 1 then 2 else 1) := by
    simp only [pkTo, List.getElem?_cons_zero, List.getElem?_cons_succ, pkStep, h.p1, h.p2, h.pol, h.last]
    rcases hx with rfl | rfl | rfl <;> rfl
  refine ⟨e, ?_⟩
  rcases hx with rfl | rfl | rfl <;> exact ⟨h.pol, rfl, h.p1, h.p2⟩
end Go.Proofs.Ytiijnhgafadokaa
