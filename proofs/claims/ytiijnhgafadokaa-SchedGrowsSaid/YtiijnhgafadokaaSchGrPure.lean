/-
  SchedGrows, the plain law.
-/
import Derived.Test.YtiijnhgafadokaaSchQ
namespace Go.Proofs.Ytiijnhgafadokaa
open Go.RowKit
set_option linter.unusedVariables false

theorem gr_sent {S : Sch} {x : Int} {i : Nat} (h : S.op 3 = some ⟨x, (i : Int), []⟩) (hi : i ≤ 1000) (now : Int) (cv : Value) (car : List (Int × Int)) :
    (sentS S 3 (i : Int) now cv car).op 3 = some ⟨x, ((i + 1 : Nat) : Int), [⟨(i : Int), mom21 now, cv, car⟩]⟩ := by
  unfold sentS
  rw [h]
  simp only
  rw [if_neg (by omega)]
  rfl
theorem gr_got {S : Sch} {x : Int} {i : Nat} {cv : Value} (h : S.op 3 = some ⟨x, ((i + 1 : Nat) : Int), [⟨(i : Int), mom21 10, cv, []⟩]⟩) :
    gotL S 3 (i : Int) [] = [] ∧ gotT S 3 (i : Int) 17 = 7 ∧ (gotS S 3 (i : Int) []).op 3 = some ⟨min 32 (x + 1), ((i + 1 : Nat) : Int), []⟩ := by
  refine ⟨?_, ?_, ?_⟩
  · unfold gotL; rw [h]; simp [cameF, gotP, cars]
  · unfold gotT; rw [h]; simp [stepG, mom21]; omega
  · unfold gotS; rw [h]
    show (if (3 : Int) = 3 then some (lostF (farBehind (i : Int)) (cameF (i : Int) [] ⟨x, ((i + 1 : Nat) : Int), [⟨(i : Int), mom21 10, cv, []⟩]⟩)) else S.op 3) = _
    rw [if_pos rfl]
    simp [lostF, cameF, gotP]
theorem gr_late {S : Sch} {x : Int} {c : Nat} {cv : Value} {car : List (Int × Int)} (h : S.op 3 = some ⟨x, ((c + 1 : Nat) : Int), [⟨(c : Int), mom21 20, cv, car⟩]⟩) :
    lateL S 3 30 10 = car ∧ (lateS S 3 30 10).op 3 = some ⟨max 2 (x / 2), ((c + 1 : Nat) : Int), []⟩ := by
  have hp : lateP 30 10 ⟨(c : Int), mom21 20, cv, car⟩ = true := by show decide (mom21 20 ≤ mom21 30 - mom21 10) = true; decide
  refine ⟨?_, ?_⟩
  · unfold lateL; rw [h]; simp [hp, cars]
  · unfold lateS; rw [h]
    show (if (3 : Int) = 3 then some (lostF (lateP 30 10) ⟨x, ((c + 1 : Nat) : Int), [⟨(c : Int), mom21 20, cv, car⟩]⟩) else S.op 3) = _
    rw [if_pos rfl]
    simp [lostF, hp]
end Go.Proofs.Ytiijnhgafadokaa
