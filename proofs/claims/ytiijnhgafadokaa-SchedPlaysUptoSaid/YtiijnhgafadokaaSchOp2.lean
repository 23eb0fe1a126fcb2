/-
  A row of scheduler calls as an argument, once more: a nil slice has no room.
-/
import Derived.Test.YtiijnhgafadokaaSchOp
namespace Go.Proofs.Ytiijnhgafadokaa
open Go.RowKit Go.Deep
set_option linter.unusedVariables false

structure Opz2 (W : World) (z : OpZ) : Prop where
  ok : OpzOk W z
  nil : ∀ n c', z.vl = .slice .none n c' → c' = 0
def opzR2 (W : World) (z : {z : OpZ // Opz2 W z}) : List Value := opzCells z.1
/-- A slice of ranges in a cell. -/
theorem cell_ranges2 {H : Type} {enc : TypeId × Value → H} {w : World} {base : Nat} {spare : Nat → Bool} {held : Bool} {m : Nat} {cs : List Value} {y : DataW H × List MemPlace}
    (h : DataW.trod enc Try.prog w base spare held m 45 cs = some y) : ∃ v l, cs = [v] ∧ Rd w v 2 l.length (flat l) ∧ l.length ≤ 9223372036854775807 ∧ (∀ n c', v = .slice .none n c' → c' = 0) := by
  rcases open_slice Try.underlying45 h with ⟨hcs, _⟩ | ⟨ad, len, cap, _, _, _, _, rfl, _⟩
  · exact ⟨_, [], hcs, Rd.nil _ 2, by simp, fun n c' e => by cases e; rfl⟩
  · obtain ⟨d, p⟩ := y
    obtain ⟨zs, l1, l2, l3, l4⟩ := open_rows rgI 2 Try.underlying45 (by kernel_rfl) (by decide) (fun m cs y hy => rg_read hy) (show DataW.Trod enc Try.prog w base spare held 45 (.slice (some ad) len cap) d p from ⟨m, h⟩)
    subst l1
    unfold maxLen at l3
    exact ⟨_, zs, rfl, rd_flat l2 l4, by omega, fun n c' e => by cases e⟩
theorem opz_read2 {H : Type} {enc : TypeId × Value → H} {w : World} {base : Nat} {spare : Nat → Bool} {held : Bool} {m : Nat} {cs : List Value} {y : DataW H × List MemPlace}
    (h : DataW.trod enc Try.prog w base spare held m 71 cs = some y) : ∃ z : {z : OpZ // Opz2 w z}, cs = opzR2 w z := by
  obtain ⟨f0, f1, f2, f3, f4, f5, f6, hu, ⟨e0, o0⟩, ⟨e1, o1⟩, ⟨e2, o2⟩, ⟨e3, o3⟩, ⟨e4, o4⟩, ⟨e5, o5⟩, ⟨e6, o6⟩⟩ := opzFields
  obtain ⟨xs, n, _, _, hl, hx, hf⟩ := DataW.trod_struct hu h
  have hl7 : cs.length = 7 := hl.trans (by kernel_rfl)
  have hx7 : xs.length = 7 := hx
  have g0 := hf 0 f0 rfl
  have g1 := hf 1 f1 rfl
  have g2 := hf 2 f2 rfl
  have g3 := hf 3 f3 rfl
  have g4 := hf 4 f4 rfl
  have g5 := hf 5 f5 rfl
  have g6 := hf 6 f6 rfl
  have ci : Try.prog.cellsOf 3 = 1 := by kernel_rfl
  have c4 : Try.prog.cellsOf 45 = 1 := by kernel_rfl
  have c5 : Try.prog.cellsOf 34 = 1 := by kernel_rfl
  rw [e0, o0, ci, List.getElem?_eq_getElem (by omega : 0 < xs.length)] at g0
  rw [e1, o1, ci, List.getElem?_eq_getElem (by omega : 1 < xs.length)] at g1
  rw [e2, o2, ci, List.getElem?_eq_getElem (by omega : 2 < xs.length)] at g2
  rw [e3, o3, ci, List.getElem?_eq_getElem (by omega : 3 < xs.length)] at g3
  rw [e4, o4, c4, List.getElem?_eq_getElem (by omega : 4 < xs.length)] at g4
  rw [e5, o5, c5, List.getElem?_eq_getElem (by omega : 5 < xs.length)] at g5
  rw [e6, o6, c5, List.getElem?_eq_getElem (by omega : 6 < xs.length)] at g6
  obtain ⟨n0, h0, _, w0⟩ := DataW.trod_int Try.underlying3 g0
  obtain ⟨n1, h1, _, w1⟩ := DataW.trod_int Try.underlying3 g1
  obtain ⟨n2, h2, _, w2⟩ := DataW.trod_int Try.underlying3 g2
  obtain ⟨n3, h3, _, w3⟩ := DataW.trod_int Try.underlying3 g3
  obtain ⟨vl, l, h4, r4, q4, z4⟩ := cell_ranges2 g4
  obtain ⟨va, la, h5, r5, q5, i5⟩ := cell_numbers g5
  obtain ⟨vr, lr, h6, r6, q6, i6⟩ := cell_numbers g6
  refine ⟨⟨⟨n0, n1, n2, n3, vl, va, vr, l, la, lr⟩, ⟨⟨bounds_i64 w0, bounds_i64 w1, bounds_i64 w2, bounds_i64 w3, r4, q4, r5, q5, i5, r6, q6⟩, z4⟩⟩, ?_⟩
  show cs = [.int .i64 n0] ++ ([.int .i64 n1] ++ ([.int .i64 n2] ++ ([.int .i64 n3] ++ ([vl] ++ ([va] ++ [vr])))))
  have q := cut7 hl7
  rw [h0, h1, h2, h3, h4, h5, h6] at q
  exact q
end Go.Proofs.Ytiijnhgafadokaa
