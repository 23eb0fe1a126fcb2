/-
  Layer 17: rows of calls and of numbers as arguments (how they read), and what rows lay together.
-/
import Derived.Test.YtlkbfacdaelbfaaRaN
namespace Go.Proofs.Ytlkbfacdaelbfaa
open Go.RowKit
set_option linter.unusedVariables false

abbrev Op3 := Int × Int × Int
def Op3Ok (z : Op3) : Prop := (-9223372036854775808 ≤ z.1 ∧ z.1 ≤ 9223372036854775807) ∧ (-9223372036854775808 ≤ z.2.1 ∧ z.2.1 ≤ 9223372036854775807) ∧ (-9223372036854775808 ≤ z.2.2 ∧ z.2.2 ≤ 9223372036854775807)
def op3R (z : {z : Op3 // Op3Ok z}) : List Value := [.int .i64 z.1.1, .int .i64 z.1.2.1, .int .i64 z.1.2.2]
/-- A row of calls, as it lies. -/
structure OpsAt (w : World) (s : Option Addr) (cap : Nat) (l : List Op3) : Prop where
  fits : l.length ≤ cap
  small : cap ≤ maxLen
  ok : ∀ z ∈ l, Op3Ok z
  cells : 0 < l.length → ∃ g o, s = some ⟨g, o, none⟩ ∧ g < w.heap.size ∧ ∀ i z, l[i]? = some z → w.cell? ⟨g, o + i * 3, none⟩ = some (.int .i64 z.1) ∧ w.cell? ⟨g, o + i * 3 + 1, none⟩ = some (.int .i64 z.2.1) ∧ w.cell? ⟨g, o + i * 3 + 2, none⟩ = some (.int .i64 z.2.2)
theorem OpsAt.same {w w' : World} {s : Option Addr} {cap : Nat} {l : List Op3} (h : OpsAt w s cap l) (hc : Chg Nowhere w w') : OpsAt w' s cap l :=
  ⟨h.fits, h.small, h.ok, fun h0 => by
    obtain ⟨g, o, hs, hg, hx⟩ := h.cells h0
    refine ⟨g, o, hs, Nat.lt_of_lt_of_le hg hc.size, fun i z hz => ?_⟩
    obtain ⟨q1, q2, q3⟩ := hx i z hz
    exact ⟨(hc.cell (p := ⟨g, o + i * 3, none⟩) hg (not_nowhere _)).trans q1, (hc.cell (p := ⟨g, o + i * 3 + 1, none⟩) hg (not_nowhere _)).trans q2, (hc.cell (p := ⟨g, o + i * 3 + 2, none⟩) hg (not_nowhere _)).trans q3⟩⟩
/-- A row of numbers, as it lies. -/
structure IntsAt (w : World) (s : Option Addr) (cap : Nat) (l : List Int) : Prop where
  fits : l.length ≤ cap
  small : cap ≤ maxLen
  cells : 0 < l.length → ∃ g o, s = some ⟨g, o, none⟩ ∧ g < w.heap.size ∧ ∀ i z, l[i]? = some z → w.cell? ⟨g, o + i, none⟩ = some (.int .i64 z)
theorem IntsAt.same {w w' : World} {s : Option Addr} {cap : Nat} {l : List Int} (h : IntsAt w s cap l) (hc : Chg Nowhere w w') : IntsAt w' s cap l :=
  ⟨h.fits, h.small, fun h0 => by
    obtain ⟨g, o, hs, hg, hx⟩ := h.cells h0
    exact ⟨g, o, hs, Nat.lt_of_lt_of_le hg hc.size, fun i z hz => (hc.cell (p := ⟨g, o + i, none⟩) hg (not_nowhere _)).trans (hx i z hz)⟩⟩
/-- The numbers that calls lay. -/
def cov (l : List Op3) (x : Int) : Prop := ∃ z ∈ l, max z.2.1 0 ≤ x ∧ x < min z.2.2 Ra.M
theorem cov_nil (x : Int) : ¬ cov [] x := by rintro ⟨z, hz, _⟩; cases hz
theorem cov_cons (z : Op3) (l : List Op3) (x : Int) : cov (z :: l) x ↔ (max z.2.1 0 ≤ x ∧ x < min z.2.2 Ra.M) ∨ cov l x := by
  constructor
  · rintro ⟨y, hy, h⟩
    rcases List.mem_cons.1 hy with rfl | hy
    · exact .inl h
    · exact .inr ⟨y, hy, h⟩
  · rintro (h | ⟨y, hy, h⟩)
    · exact ⟨z, List.mem_cons_self .., h⟩
    · exact ⟨y, List.mem_cons_of_mem _ hy, h⟩
theorem cov_append (l m : List Op3) (x : Int) : cov (l ++ m) x ↔ cov l x ∨ cov m x := by
  constructor
  · rintro ⟨y, hy, h⟩
    rcases List.mem_append.1 hy with hy | hy
    · exact .inl ⟨y, hy, h⟩
    · exact .inr ⟨y, hy, h⟩
  · rintro (⟨y, hy, h⟩ | ⟨y, hy, h⟩)
    · exact ⟨y, List.mem_append_left _ hy, h⟩
    · exact ⟨y, List.mem_append_right _ hy, h⟩
theorem cov_take {l : List Op3} {k : Nat} {z : Op3} (h : l[k]? = some z) (x : Int) : cov (l.take (k + 1)) x ↔ cov (l.take k) x ∨ (max z.2.1 0 ≤ x ∧ x < min z.2.2 Ra.M) := by
  rw [List.take_add_one, h, cov_append]
  constructor
  · rintro (h | h)
    · exact .inl h
    · rcases (cov_cons z [] x).1 h with h | h
      · exact .inr h
      · exact absurd h (cov_nil x)
  · rintro (h | h)
    · exact .inl h
    · exact .inr ((cov_cons z [] x).2 (.inl h))
theorem cov_drop {l : List Op3} {k : Nat} {z : Op3} (h : l[k]? = some z) (x : Int) : cov (l.drop k) x ↔ (max z.2.1 0 ≤ x ∧ x < min z.2.2 Ra.M) ∨ cov (l.drop (k + 1)) x := by
  have : l.drop k = z :: l.drop (k + 1) := by
    obtain ⟨hk, rfl⟩ := List.getElem?_eq_some_iff.1 h
    exact List.drop_eq_getElem_cons hk
  rw [this, cov_cons]
end Go.Proofs.Ytlkbfacdaelbfaa
