/-
  A row of calls as an argument: how its cells read.
-/
import Derived.Test.YtiijnhgafadokaaPathsOnce
import Derived.Test.YtiijnhgafadokaaOpen
namespace Go.Proofs.Ytiijnhgafadokaa
open Go.RowKit Go.Deep
def opR (z : {z : OpRec // OpOk z}) : List Value := opCells z.1

theorem opFields : ∃ f0 f1 f2 f3 : Field, Try.prog.underlying 29 = some (.struct #[f0, f1, f2, f3]) ∧ f0.type = 3 ∧ f0.offset = 0 ∧ f1.type = 3 ∧ f1.offset = 1 ∧ f2.type = 3 ∧ f2.offset = 2 ∧ f3.type = 27 ∧ f3.offset = 3 :=
  ⟨_, _, _, _, Try.underlying29, rfl, rfl, rfl, rfl, rfl, rfl, rfl, rfl⟩

theorem cut11 {cs : List Value} (h : cs.length = 11) : cs = (cs.drop 0).take 1 ++ ((cs.drop 1).take 1 ++ ((cs.drop 2).take 1 ++ (cs.drop 3).take 8)) := by
  match cs, h with
  | [a, b, c, d, e, f, g, h, i, j, k], _ => rfl
theorem op_read {H : Type} {enc : TypeId × Value → H} {w : World} {base : Nat} {spare : Nat → Bool} {held : Bool} {m : Nat} {cs : List Value} {y : DataW H × List MemPlace}
    (h : DataW.trod enc Try.prog w base spare held m 29 cs = some y) : ∃ z, cs = opR z := by
  obtain ⟨f0, f1, f2, f3, hu, e0, o0, e1, o1, e2, o2, e3, o3⟩ := opFields
  obtain ⟨xs, n, _, _, hl, hx, hf⟩ := DataW.trod_struct hu h
  have hl11 : cs.length = 11 := hl.trans (by kernel_rfl)
  have hx4 : xs.length = 4 := hx
  have g0 := hf 0 f0 rfl
  have g1 := hf 1 f1 rfl
  have g2 := hf 2 f2 rfl
  have g3 := hf 3 f3 rfl
  have ci : Try.prog.cellsOf 3 = 1 := by kernel_rfl
  have ca : Try.prog.cellsOf 27 = 8 := by kernel_rfl
  rw [e0, o0, ci, List.getElem?_eq_getElem (by omega : 0 < xs.length)] at g0
  rw [e1, o1, ci, List.getElem?_eq_getElem (by omega : 1 < xs.length)] at g1
  rw [e2, o2, ci, List.getElem?_eq_getElem (by omega : 2 < xs.length)] at g2
  rw [e3, o3, ca, List.getElem?_eq_getElem (by omega : 3 < xs.length)] at g3
  obtain ⟨n0, h0, _, w0⟩ := DataW.trod_int Try.underlying3 g0
  obtain ⟨n1, h1, _, w1⟩ := DataW.trod_int Try.underlying3 g1
  obtain ⟨n2, h2, _, w2⟩ := DataW.trod_int Try.underlying3 g2
  obtain ⟨l, h3, hl3, w3⟩ := cells_ints Try.underlying27 Try.underlying5 (by kernel_rfl) ca g3
  refine ⟨⟨⟨n0, n1, n2, l⟩, ⟨(bounds_i64 w0).1, (bounds_i64 w0).2, hl3⟩⟩, ?_⟩
  show cs = [.int .i64 n0, .int .i64 n1, .int .i64 n2] ++ l.map (Value.int .u8)
  rw [← h3]
  have q := cut11 hl11
  rw [h0, h1, h2] at q
  simpa using q
end Go.Proofs.Ytiijnhgafadokaa
