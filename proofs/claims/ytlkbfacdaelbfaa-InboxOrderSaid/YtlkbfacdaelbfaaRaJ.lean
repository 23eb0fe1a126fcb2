/-
  Package slices: Replace at ranges, whole. Package ranges: Add (the walk).
-/
import Derived.Test.YtlkbfacdaelbfaaRaI4
namespace Go.Proofs.Ytlkbfacdaelbfaa
open Go.RowKit
set_option linter.unusedVariables false

theorem replace_any (v : Value) (L V : List Ra.Row) (i j : Nat) (u : Value) (w : World) (h : w.ownsRow 0 33 2 v L.length (flat L)) (hij : i ≤ j) (hj : j ≤ L.length) (hu : w.ownsRow 0 33 2 u V.length (flat V)) (hn : L.length + V.length ≤ 4000000) (hne : ∀ b, v.ownBlock = some b → u.ownBlock ≠ some b) :
    Calls Try.prog 75 #[v, .int .i64 (i : Int), .int .i64 (j : Int), u] w (GivesRow w v (L.take i ++ V ++ L.drop j)) := by
  rcases (by omega : i = j ∨ i < j) with rfl | hlt
  · exact replace_same v L V i u w h hj hu hn hne
  · obtain ⟨g, cap, R, rfl, hr, hnc⟩ := own_rowAt h (by omega)
    rcases (by omega : j = L.length ∨ j < L.length) with rfl | hjl
    · rw [List.drop_length, List.append_nil]
      exact replace_tail g L.length cap i L V u w R hr rfl hlt hnc hu hn (hne g rfl)
    · rcases (by omega : i + V.length ≤ j ∨ (j < i + V.length ∧ i + V.length + (L.length - j) ≤ cap) ∨ cap < i + V.length + (L.length - j)) with h1 | ⟨h1, h2⟩ | h1
      · exact replace_short g L.length cap i j L V u w R hr rfl hlt hjl hnc hu hn h1
      · exact replace_long g L.length cap i j L V u w R hr rfl hlt hjl hnc hu hn (hne g rfl) h1 h2
      · exact replace_grow g L.length cap i j L V u w R hr rfl hlt hjl hnc hu hn h1
theorem new_one (w : World) (f t : Int) : (w.alloc (.cells #[.int .i64 f, .int .i64 t] 33)).ownsRow 0 33 2 (.slice (some ⟨w.heap.size, 0, none⟩) 1 1) 1 (flat [(f, t)]) :=
  ⟨rfl, .inr ⟨w.heap.size, 1, #[.int .i64 f, .int .i64 t], rfl, Nat.zero_le _, alloc_new _ _, Nat.le_refl _, by unfold maxLen; omega, rfl, rfl⟩⟩
/-- What a call that changes an object leaves. -/
structure Moved (w : World) (o : Nat) (v : Value) (L' : List Ra.Row) (w' : World) : Prop where
  at' : ∃ v', RaAt w' o v' L' ∧ ∀ i, v'.ownBlock = some i → v.ownBlock = some i ∨ w.heap.size ≤ i
  chg : Chg (fun i => i = o ∨ v.ownBlock = some i) w w'
def GivesAdd (w : World) (o : Nat) (v : Value) (L : List Ra.Row) (f t : Int) : Ending → World → Prop := fun e w' => ∃ L', e = .returned (.int .i64 (Ra.total L' - Ra.total L)) ∧ Ra.Good L' ∧ (∀ n, Ra.mem L' n ↔ Ra.mem L n ∨ (max f 0 ≤ n ∧ n < min t Ra.M)) ∧ L'.length ≤ L.length + 1 ∧ Moved w o v L' w'
/-- The row that a call stores. -/
theorem RaAt.store {w w2 : World} {o : Nat} {v v' : Value} {L L' : List Ra.Row} (h : RaAt w o v L) (hv : w2.ownsRow 0 33 2 v' L'.length (flat L')) (hc : Chg (fun i => v.ownBlock = some i) w w2) (hn : ∀ i, v'.ownBlock = some i → v.ownBlock = some i ∨ w.heap.size ≤ i) : Moved w o v L' (w2.setCell ⟨o, 0, none⟩ v') := by
  have hob : ¬ (v.ownBlock = some o) := fun e => by
    obtain ⟨cur, hh⟩ := own_blk h.row e
    rw [h.blk] at hh
    simp only [Option.some.injEq, Obj.cells.injEq] at hh
    exact absurd hh.2.1 (by decide)
  have hb2 := hc.keep h.blk hob
  have hcs : Chg (At o) w2 (w2.setCell ⟨o, 0, none⟩ v') := (Chg.refl (At o) w2).putAt
  refine ⟨⟨v', ⟨set_one (y := v') hb2, own_chg hv hcs fun i hi e => ?_⟩, hn⟩, (hc.mono fun i _ h => .inr h).trans hcs fun i _ e => .inl e⟩
  have e : i = o := e
  subst e
  obtain ⟨cur, hh⟩ := own_blk hv hi
  rw [hb2] at hh
  simp only [Option.some.injEq, Obj.cells.injEq] at hh
  exact absurd hh.2.1 (by decide)
/-- A part of its row, read. -/
theorem RaAt.part {w : World} {o g c : Nat} {L : List Ra.Row} {n : Nat} (h : RaAt w o (.slice (some ⟨g, 0, none⟩) n c) L) {i j : Nat} (hij : i ≤ j) (hj : j ≤ L.length) : Rd w (.slice (some ⟨g, i * 2, none⟩) (j - i) (c - i)) 2 (j - i) (flat ((L.drop i).take (j - i))) := by
  obtain ⟨h1, A, c', hv, hnc, hA⟩ := h.rd
  simp only [Value.slice.injEq] at hv
  obtain ⟨rfl, hn, rfl⟩ := hv
  have hl : ((L.drop i).take (j - i)).length = j - i := by rw [List.length_take, List.length_drop]; omega
  refine ⟨by rw [flat_len, hl], _, _, rfl, by omega, fun h0 => ?_⟩
  obtain ⟨g', o', hg, hlt, hcell⟩ := hA (by omega)
  simp only [Option.some.injEq, Addr.mk.injEq] at hg
  obtain ⟨rfl, rfl, -⟩ := hg
  refine ⟨g, i * 2, rfl, hlt, fun k hk => ?_⟩
  rw [flat_len, hl] at hk
  have := hcell (i * 2 + k) (by rw [flat_len]; omega)
  rw [Nat.zero_add] at this
  rw [this, flat_take, flat_drop, List.getElem?_take, if_pos (by omega), List.getElem?_drop]
end Go.Proofs.Ytlkbfacdaelbfaa
