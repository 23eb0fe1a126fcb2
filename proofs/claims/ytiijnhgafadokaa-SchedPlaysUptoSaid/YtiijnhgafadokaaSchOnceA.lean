/-
  SchedOnce: what its walk keeps.
-/
import Derived.Test.YtiijnhgafadokaaSchOncePure
import Derived.Test.YtiijnhgafadokaaSchOp
namespace Go.Proofs.Ytiijnhgafadokaa
open Go.RowKit
set_option linter.unusedVariables false

def bools (l : List Bool) : List Value := l.map Value.bool
theorem bools_len (l : List Bool) : (bools l).length = l.length := by simp [bools]
theorem bools_app (l m : List Bool) : bools (l ++ m) = bools l ++ bools m := by simp [bools]
theorem infoBool : (Try.prog.info? 4).map (fun i => (i.zero, i.size, i.bytes)) = some (some (.bool false), 1, 1) := by kernel_rfl
theorem otherBool : OtherT 4 := by unfold OtherT; decide
/-- One cell of a living row: what it holds, and how it is set. -/
theorem own_cell {w : World} {base n : Nat} {T : TypeId} {v : Value} {xs : List Value} (h : w.ownsRow base T 1 v n xs) {i : Nat} {x : Value} (hx : xs[i]? = some x) :
    ∃ g o cap, v = .slice (some ⟨g, o, .none⟩) n cap ∧ base ≤ g ∧ g < w.heap.size ∧ (∃ cur, w.heap[g]? = some (.cells cur T (0,0))) ∧ w.cell? ⟨g, o + i, .none⟩ = some x ∧ w.frozen? ⟨g, o + i, .none⟩ = false ∧
      ∀ y, (w.setCell ⟨g, o + i, .none⟩ y).ownsRow base T 1 v n (xs.set i y) := by
  have hi : i < xs.length := (List.getElem?_eq_some_iff.1 hx).1
  have hl := h.1
  rcases h.2 with ⟨rfl, rfl⟩ | ⟨g, cap, cur, hv, hg, hh, hn, hcap, hsz, hxs⟩
  · omega
  · have hcell : w.cell? ⟨g, 0 + i, .none⟩ = some x := by
      rw [cell_blk hh, Nat.zero_add, ← hx, ← hxs, List.getElem?_take_of_lt (by omega), Array.getElem?_toList]
    refine ⟨g, 0, cap, hv, hg, lt_blk hh, ⟨cur, hh⟩, hcell, frozen_blk hh, fun y => ⟨by rw [List.length_set]; exact hl, .inr ⟨g, cap, cur.setIfInBounds (0 + i) y, hv, hg, set_blk _ hh, hn, hcap, ?_, ?_⟩⟩⟩
    · rw [Array.size_setIfInBounds]; exact hsz
    · rw [Nat.zero_add, Array.toList_setIfInBounds, ← hxs, List.take_set]
structure On1 (w0 : World) (s N n : Nat) (vt : Value) (told : List Bool) (S : Sch) (w : World) : Prop where
  sv : Sv w0 s N S w
  row : w.ownsRow w0.heap.size 4 1 vt n (bools told)
  len : told.length = n
theorem bool_zone {w w' : World} {Z : Nat → Prop} {base n : Nat} {v : Value} {xs : List Value} (h : w.ownsRow base 4 1 v n xs) (hc : ChgZ Z w w') : w'.ownsRow base 4 1 v n xs :=
  own_chg h hc fun i hi hs => by
    obtain ⟨cur, hh⟩ := own_blk h hi
    exact cells_other hh (by decide) hs.2
theorem On1.idle {w0 : World} {s N n : Nat} {vt : Value} {told : List Bool} {S : Sch} {w w' : World} (h : On1 w0 s N n vt told S w) (hc : Chg Nowhere w w') : On1 w0 s N n vt told S w' :=
  ⟨h.sv.idle hc, own_chg h.row hc (fun _ _ => not_nowhere _), h.len⟩
theorem On1.step {w0 : World} {s N N' n : Nat} {vt : Value} {told : List Bool} {S S' : Sch} {w w' : World} (h : On1 w0 s N n vt told S w) (hi : SchIs (fun i => w0.heap.size ≤ i) w' s N' S') (hc : ChgZ (fun i => w0.heap.size ≤ i) w w') : On1 w0 s N' n vt told S' w' :=
  ⟨h.sv.step hi hc, bool_zone h.row hc, h.len⟩
theorem On1.more {w0 : World} {s N n : Nat} {vt : Value} {told : List Bool} {S : Sch} {w : World} (h : On1 w0 s N n vt told S w) : On1 w0 s (N + 1) n vt told S w := ⟨⟨h.sv.is.more, h.sv.chg⟩, h.row, h.len⟩
theorem On1.grow {w0 : World} {s N n : Nat} {vt v' : Value} {told : List Bool} {S : Sch} {w wa w' : World} (h : On1 w0 s N n vt told S w) (ha : Chg Nowhere w wa) (hg : wa.grownBy w' vt.ownBlock) (ho : w'.ownsRow w0.heap.size 4 1 v' (n + 1) (bools told ++ [.bool false])) :
    On1 w0 s N (n + 1) v' (told ++ [false]) S w' :=
  ⟨h.sv.grown ha otherBool h.row (Nat.le_refl _) hg, by rw [bools_app]; exact ho, by rw [List.length_append, h.len]; rfl⟩
/-- A row of ranges stays where the marks grow. -/
theorem On1.keepR {w0 : World} {s N n : Nat} {vt : Value} {told : List Bool} {S : Sch} {w wa w' : World} (h : On1 w0 s N n vt told S w) (ha : Chg Nowhere w wa) (hg : wa.grownBy w' vt.ownBlock) {base m : Nat} {v : Value} {xs : List Value} (ho : w.ownsRow base 49 2 v m xs) :
    w'.ownsRow base 49 2 v m xs := by
  have hC : Chg (fun i => vt.ownBlock = some i) w w' := Chg.grown (ha.mono fun _ _ e => e.elim) hg fun k hk => .inr hk
  refine own_chg ho hC fun i hi e => ?_
  obtain ⟨cur, hh⟩ := own_blk ho hi
  obtain ⟨cur', hh'⟩ := own_blk h.row e
  rw [hh] at hh'
  simp only [Option.some.injEq, Obj.cells.injEq] at hh'
  exact absurd hh'.2.1 (by decide)
theorem rng_zone {w w' : World} {Z : Nat → Prop} {base n : Nat} {v : Value} {xs : List Value} (h : w.ownsRow base 49 2 v n xs) (hc : ChgZ Z w w') : w'.ownsRow base 49 2 v n xs :=
  own_chg h hc fun i hi hs => by
    obtain ⟨cur, hh⟩ := own_blk h hi
    exact cells_other hh (by decide) hs.2
theorem rng_idle {w w' : World} {base n : Nat} {v : Value} {xs : List Value} (h : w.ownsRow base 49 2 v n xs) (hc : Chg Nowhere w w') : w'.ownsRow base 49 2 v n xs :=
  own_chg h hc fun _ _ => not_nowhere _
/-- The i-th mark, and how it is set. -/
theorem On1.mark {w0 : World} {s N n : Nat} {vt : Value} {told : List Bool} {S : Sch} {w : World} (h : On1 w0 s N n vt told S w) {i : Nat} {b : Bool} (hi : told[i]? = some b) :
    ∃ g o cap, vt = .slice (some ⟨g, o, .none⟩) n cap ∧ g < w.heap.size ∧ w.cell? ⟨g, o + i, .none⟩ = some (.bool b) ∧ w.frozen? ⟨g, o + i, .none⟩ = false ∧ On1 w0 s N n vt (told.set i true) S (w.setCell ⟨g, o + i, .none⟩ (.bool true)) ∧
      ∀ {base m : Nat} {v : Value} {xs : List Value}, w.ownsRow base 49 2 v m xs → (w.setCell ⟨g, o + i, .none⟩ (.bool true)).ownsRow base 49 2 v m xs := by
  obtain ⟨g, o, cap, hv, hb, hg, ⟨cur, hh⟩, hc, hf, hset⟩ := own_cell h.row (i := i) (x := .bool b) (by simp [bools, hi])
  have hC : Chg (At g) w (w.setCell ⟨g, o + i, .none⟩ (.bool true)) := (Chg.refl _ _).putAt
  refine ⟨g, o, cap, hv, hg, hc, hf, ⟨⟨h.sv.is.other otherBool hC fun j hj e => by rw [show j = g from e]; exact ⟨cur, hh⟩, h.sv.chg.trans hC fun j hj e => ?_⟩, ?_, by rw [List.length_set]; exact h.len⟩, fun ho => own_chg ho hC fun j hj e => ?_⟩
  · have : j = g := e
    omega
  · have := hset (.bool true)
    unfold bools at this ⊢
    rw [List.map_set]
    exact this
  · obtain ⟨cur', hh'⟩ := own_blk ho hj
    rw [show j = g from e, hh] at hh'
    simp only [Option.some.injEq, Obj.cells.injEq] at hh'
    exact absurd hh'.2.1 (by decide)
/-- The op that a round has taken. -/
def OpAt (w : World) (d : Nat) (zk zid zn zm : Int) (vl va vr : Value) : Prop :=
  w.heap[d]? = some (.cells #[.int .i64 zk, .int .i64 zid, .int .i64 zn, .int .i64 zm, vl, va, vr] 71 (0,0))
theorem OpAt.all {w : World} {d : Nat} {zk zid zn zm : Int} {vl va vr : Value} (h : OpAt w d zk zid zn zm vl va vr) :
    w.cell? ⟨d, 0, .none⟩ = some (.int .i64 zk) ∧ w.cell? ⟨d, 1, .none⟩ = some (.int .i64 zid) ∧ w.cell? ⟨d, 2, .none⟩ = some (.int .i64 zn) ∧ w.cell? ⟨d, 3, .none⟩ = some (.int .i64 zm) ∧
    w.cell? ⟨d, 4, .none⟩ = some vl ∧ w.cell? ⟨d, 5, .none⟩ = some va ∧ w.cell? ⟨d, 6, .none⟩ = some vr :=
  ⟨cell_blk h, cell_blk h, cell_blk h, cell_blk h, cell_blk h, cell_blk h, cell_blk h⟩
theorem OpAt.idle {w w' : World} {d : Nat} {zk zid zn zm : Int} {vl va vr : Value} (h : OpAt w d zk zid zn zm vl va vr) (hc : Chg Nowhere w w') : OpAt w' d zk zid zn zm vl va vr := hc.same h
theorem OpAt.zone {w w' : World} {Z : Nat → Prop} {d : Nat} {zk zid zn zm : Int} {vl va vr : Value} (h : OpAt w d zk zid zn zm vl va vr) (hc : ChgZ Z w w') : OpAt w' d zk zid zn zm vl va vr :=
  Chg.keep hc h fun hs => cells_other h (by decide) hs.2
end Go.Proofs.Ytiijnhgafadokaa
