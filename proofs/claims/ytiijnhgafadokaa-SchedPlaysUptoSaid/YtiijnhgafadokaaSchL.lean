/-
  The scheduler (layer 21): which path is the better one; kind; same.
-/
import Derived.Test.YtiijnhgafadokaaSchK
namespace Go.Proofs.Ytiijnhgafadokaa
open Go.RowKit
set_option linter.unusedVariables false

def better (pol last best least id cost : Int) : Bool :=
  if best < 0 then true else if pol ≠ 1 then decide (cost < least) else if decide (last < id) ≠ decide (last < best) then decide (last < id) else decide (id < best)
structure PickSt (bb bs bl s : Nat) (pol last best least : Int) (w : World) : Prop where
  best : w.cell? ⟨bb, 0, .none⟩ = some (.int .i64 best)
  self : w.cell? ⟨bs, 0, .none⟩ = some (.pointer (some ⟨s, 0, .none⟩))
  least : w.cell? ⟨bl, 0, .none⟩ = some (.int .i64 least)
  pol : w.cell? ⟨s, 0, .none⟩ = some (.int .i64 pol)
  last : w.cell? ⟨s, 1, .none⟩ = some (.int .i64 last)
set_option maxHeartbeats 1600000 in
theorem better_any (bb bs bl s : Nat) (pol last best least id cost : Int) (w : World) (h : PickSt bb bs bl s pol last best least w) :
    Calls Try.prog 71 #[.int .i64 id, .int .i64 cost, .pointer (some ⟨bb, 0, .none⟩), .pointer (some ⟨bs, 0, .none⟩), .pointer (some ⟨bl, 0, .none⟩)] w
      fun e w' => e = .returned (.bool (better pol last best least id cost)) ∧ Chg Nowhere w w' := by
  have c1 := h.best
  have c2 := h.self
  have c3 := h.least
  have c4 := h.pol
  have c5 := h.last
  clear h
  have HD := Lib.hid (show better pol last best least id cost = if best < 0 then true else if pol ≠ 1 then decide (cost < least) else if decide (last < id) ≠ decide (last < best) then decide (last < id) else decide (id < best) from rfl)
  by_cases hb : best < 0
  · have E := Lib.hid (HD.out.trans (if_pos hb))
    go_enter Try.func71, Try.ntmps71
    go_wp2_with fail
    all_goals try (go_step3; go_wp2_with fail)
    go_ret
    rw [E.out]
    exact ⟨rfl, Chg.refl _ _⟩
  · have E := Lib.hid (HD.out.trans (if_neg hb))
    by_cases hp : pol = 1
    · have E2 := Lib.hid (E.out.trans (if_neg (by simpa using hp)))
      have tp : (pol != 1) = false := by simp [hp]
      clear hp
      cases d1 : decide (last < id)
      all_goals
        cases d2 : decide (last < best)
        all_goals
          cases d3 : decide (id < best)
          all_goals
            have E3 := E2.out
            rw [d1, d2, d3] at E3
            simp only [ne_eq, not_true_eq_false, if_false, Bool.true_eq_false, Bool.false_eq_true, not_false_eq_true, if_true] at E3
            have E4 := Lib.hid E3
            clear E3
            go_enter Try.func71, Try.ntmps71
            go_wp2_with fail
            all_goals try (go_step3; go_wp2_with fail)
            go_quiet (fail)
            go_wp2_with fail
            go_ret
            rw [E4.out]
            exact ⟨rfl, (Chg.refl _ _).drewN _⟩
    · have E2 := Lib.hid (E.out.trans (if_pos hp))
      have tp : (pol != 1) = true := by simp [hp]
      clear hp
      go_enter Try.func71, Try.ntmps71
      go_wp2_with fail
      all_goals try (go_step3; go_wp2_with fail)
      go_ret
      rw [E2.out]
      exact ⟨rfl, Chg.refl _ _⟩
end Go.Proofs.Ytiijnhgafadokaa
