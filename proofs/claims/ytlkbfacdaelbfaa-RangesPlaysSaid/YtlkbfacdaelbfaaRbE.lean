/-
  Layer 17, the document's Add: what its loops keep.
-/
import Derived.Test.YtlkbfacdaelbfaaRbD
namespace Go.Proofs.Ytlkbfacdaelbfaa
open Go.RowKit
set_option linter.unusedVariables false

/-- The first loop: the row l is read, the row ot grows. -/
structure Lay1 (w : World) (l : Value) (D : List Ra.Row) (ot : Value) (K : List Ra.Row) (wr : World) : Prop where
  out : CutIn w ot K wr
  row : CutIn w l D wr
  ne : ∀ i, ot.ownBlock = some i → l.ownBlock ≠ some i
theorem Lay1.start {w wr : World} {l : Value} {D : List Ra.Row} (h : CutIn w l D wr) : Lay1 w l D (.slice none 0 0) [] wr := ⟨CutIn.nil h.chg, h, fun i hi => (by cases hi)⟩
theorem Lay1.idle {w wr wx : World} {l ot : Value} {D K : List Ra.Row} (h : Lay1 w l D ot K wr) (hc : Chg Nowhere wr wx) : Lay1 w l D ot K wx := ⟨h.out.same hc, h.row.same hc, h.ne⟩
theorem Lay1.app {w wr : World} {l ot : Value} {D K : List Ra.Row} (h : Lay1 w l D ot K wr) (hn : K.length ≤ 4000000) (x y : Int) (ty : TypeId) (g : Nat) (hg : wr.heap[g]? = some (.cells #[.int .i64 x, .int .i64 y] 33 (0, 0))) :
    ∃ l' w', (Builtin.append_ #[30, 30] ty #[ot, .slice (some ⟨g, 0, none⟩) 1 1]).run Try.prog wr = .ok l' w' ∧ Lay1 w l D l' (K ++ [(x, y)]) w' := by
  obtain ⟨l', w', h1, h2, h3, h4⟩ := h.out.app hn x y ty g hg
  refine ⟨l', w', h1, h2, ⟨own_chg h.row.own h4 fun i hi hs => h.ne i hs hi, h2.chg⟩, fun i hi hj => ?_⟩
  rcases h3 i hi with h5 | h5
  · exact h.ne i h5 hj
  · obtain ⟨cur, hh⟩ := own_blk h.row.own hj
    have := lt_blk hh
    omega
theorem Lay1.cells {w wr : World} {l ot : Value} {D K : List Ra.Row} (h : Lay1 w l D ot K wr) {k : Nat} (hk : k < D.length) :
    ∃ g c, l = .slice (some ⟨g, 0, none⟩) D.length c ∧ wr.cell? ⟨g, k * 2, none⟩ = some (.int .i64 (D.getD k (0, 0)).1) ∧ wr.cell? ⟨g, k * 2 + 1, none⟩ = some (.int .i64 (D.getD k (0, 0)).2) := by
  obtain ⟨g, cap, R, e, hr, _⟩ := own_rowAt (own_base0 h.row.own) (by omega)
  obtain ⟨g0, g1⟩ := flat_get D k _ (some_getD (d := (0, 0)) hk)
  have hfl := flat_len D
  refine ⟨g, cap, e, hr.cell ?_, hr.cell ?_⟩
  · rw [List.getElem?_append_left (by omega)]; exact g0
  · rw [List.getElem?_append_left (by omega)]; exact g1
/-- How far the row is laid. -/
def Ins (D : List Ra.Row) (f t : Int) (b : Bool) (k : Nat) (K : List Ra.Row) : Prop :=
  (b = false ∧ K = D.take k ∧ ∀ j, j < k → (D.getD j (0, 0)).1 ≤ f) ∨ (b = true ∧ ∃ p, p < k ∧ K = D.take p ++ [(f, t)] ++ (D.take k).drop p ∧ (∀ j, j < p → (D.getD j (0, 0)).1 ≤ f) ∧ f < (D.getD p (0, 0)).1)
theorem Ins.len {D : List Ra.Row} {f t : Int} {b : Bool} {k : Nat} {K : List Ra.Row} (h : Ins D f t b k K) : K.length ≤ D.length + 1 := by
  rcases h with ⟨_, rfl, _⟩ | ⟨_, p, hp, rfl, _⟩
  · rw [List.length_take]; omega
  · simp only [List.length_append, List.length_take, List.length_drop, List.length_singleton]; omega
theorem Ins.start (D : List Ra.Row) (f t : Int) : Ins D f t false 0 [] := .inl ⟨rfl, by simp, fun j hj => by omega⟩
theorem take_one {D : List Ra.Row} {k : Nat} (hk : k < D.length) : D.take (k + 1) = D.take k ++ [D.getD k (0, 0)] := by
  rw [List.take_add_one, some_getD hk]; rfl
theorem Ins.low {D : List Ra.Row} {f t : Int} {k : Nat} {K : List Ra.Row} (h : Ins D f t false k K) (hk : k < D.length) (h1 : (D.getD k (0, 0)).1 ≤ f) : Ins D f t false (k + 1) (K ++ [D.getD k (0, 0)]) := by
  rcases h with ⟨_, rfl, h2⟩ | ⟨h, _⟩
  · exact .inl ⟨rfl, (take_one hk).symm, fun j hj => by rcases (by omega : j < k ∨ j = k) with h | rfl; exact h2 j h; exact h1⟩
  · cases h
theorem Ins.hit {D : List Ra.Row} {f t : Int} {k : Nat} {K : List Ra.Row} (h : Ins D f t false k K) (hk : k < D.length) (h1 : f < (D.getD k (0, 0)).1) : Ins D f t true (k + 1) (K ++ [(f, t)] ++ [D.getD k (0, 0)]) := by
  rcases h with ⟨_, rfl, h2⟩ | ⟨h, _⟩
  · refine .inr ⟨rfl, k, by omega, ?_, h2, h1⟩
    have hl : (D.take k).length = k := by rw [List.length_take]; omega
    have e := List.drop_left (l₁ := D.take k) (l₂ := [D.getD k (0, 0)])
    rw [hl] at e
    rw [take_one hk, e]
  · cases h
theorem Ins.more {D : List Ra.Row} {f t : Int} {k : Nat} {K : List Ra.Row} (h : Ins D f t true k K) (hk : k < D.length) : Ins D f t true (k + 1) (K ++ [D.getD k (0, 0)]) := by
  rcases h with ⟨h, _⟩ | ⟨_, p, hp, rfl, h2, h3⟩
  · cases h
  · refine .inr ⟨rfl, p, by omega, ?_, h2, h3⟩
    rw [take_one hk, List.drop_append_of_le_length (by rw [List.length_take]; omega), List.append_assoc]
theorem Ins.doneT {D : List Ra.Row} (hD : Ra.Good D) {f t : Int} {K : List Ra.Row} (h : Ins D f t true D.length K) : ∃ p, Ra.Laid D f t p ∧ K = D.take p ++ [(f, t)] ++ D.drop p := by
  rcases h with ⟨h, _⟩ | ⟨_, p, hp, rfl, h2, h3⟩
  · cases h
  · refine ⟨p, ⟨by omega, h2, fun j h4 h5 => ?_⟩, by rw [List.take_length]⟩
    rcases (by omega : j = p ∨ p < j) with rfl | h6
    · exact h3
    · have := hD.lt h6 h5
      have := hD.getD hp
      omega
theorem Ins.doneF {D : List Ra.Row} {f t : Int} {K : List Ra.Row} (h : Ins D f t false D.length K) : ∃ p, Ra.Laid D f t p ∧ K ++ [(f, t)] = D.take p ++ [(f, t)] ++ D.drop p := by
  rcases h with ⟨_, rfl, h2⟩ | ⟨h, _⟩
  · exact ⟨D.length, ⟨Nat.le_refl _, h2, fun j h4 h5 => by omega⟩, by rw [List.drop_length, List.append_nil]⟩
  · cases h
/-- The second loop: the object's row grows, the row ot is read. -/
structure Lay2 (w : World) (o : Nat) (ot : Value) (O J : List Ra.Row) (wr : World) : Prop where
  obj : ∃ v, wr.heap[o]? = some (.cells #[v] 42 (0, 0)) ∧ wr.ownsRow w.heap.size 33 2 v J.length (flat J) ∧ ∀ i, v.ownBlock = some i → ot.ownBlock ≠ some i
  row : wr.ownsRow w.heap.size 33 2 ot O.length (flat O)
  lt : o < w.heap.size
  chg : Chg (At o) w wr
theorem Lay2.idle {w wr wx : World} {o : Nat} {ot : Value} {O J : List Ra.Row} (h : Lay2 w o ot O J wr) (hc : Chg Nowhere wr wx) : Lay2 w o ot O J wx := by
  obtain ⟨v, h1, h2, h3⟩ := h.obj
  exact ⟨⟨v, hc.same h1, own_chg h2 hc (fun _ _ => not_nowhere _), h3⟩, own_chg h.row hc (fun _ _ => not_nowhere _), h.lt, h.chg.then_none hc⟩
/-- The object's row is emptied. -/
theorem Lay2.start {w wr : World} {o : Nat} {v ot : Value} {L O : List Ra.Row} (ho : RbAt w o v L) (h : CutIn w ot O wr) : Lay2 w o ot O [] (wr.setCell ⟨o, 0, none⟩ (.slice none 0 0)) := by
  have hb := h.chg.same ho.blk
  have hlt := lt_blk ho.blk
  have hcs : Chg (At o) wr (wr.setCell ⟨o, 0, none⟩ (.slice none 0 0)) := (Chg.refl (At o) wr).putAt
  refine ⟨⟨_, set_one (y := .slice none 0 0) hb, ⟨rfl, .inl ⟨rfl, rfl⟩⟩, fun i hi => (by cases hi)⟩, own_chg h.own hcs fun i hi e => ?_, hlt, (h.chg.mono fun i _ h => h.elim).trans' hcs⟩
  have e : i = o := e
  have := own_ge h.own hi
  omega
/-- One cell of a row is set. -/
theorem flat_last (J : List Ra.Row) (hJ : 0 < J.length) (b : Int) : flat (J.take (J.length - 1) ++ [((J.getD (J.length - 1) (0, 0)).1, b)]) = (flat J).set ((J.length - 1) * 2 + 1) (.int .i64 b) := by
  obtain ⟨A, hA⟩ : ∃ A, A = J.take (J.length - 1) := ⟨_, rfl⟩
  obtain ⟨l, hl⟩ : ∃ l, l = J.getD (J.length - 1) (0, 0) := ⟨_, rfl⟩
  have hs := Ra.snoc_of hJ
  have hAl : A.length = J.length - 1 := by rw [hA, List.length_take]; omega
  rw [← hA, ← hl] at hs
  rw [← hA, ← hl, ← hAl, hs, flat_append, flat_append, List.set_append, if_neg (by rw [flat_len]; omega), flat_len, Nat.add_sub_cancel_left]
  rfl
theorem Lay2.join {w wr : World} {o : Nat} {ot : Value} {O J : List Ra.Row} (h : Lay2 w o ot O J wr) (hJ : 0 < J.length) (b : Int) :
    ∃ g c, wr.cell? ⟨o, 0, none⟩ = some (.slice (some ⟨g, 0, none⟩) J.length c) ∧ wr.cell? ⟨g, (J.length - 1) * 2, none⟩ = some (.int .i64 (J.getD (J.length - 1) (0, 0)).1) ∧ wr.cell? ⟨g, (J.length - 1) * 2 + 1, none⟩ = some (.int .i64 (J.getD (J.length - 1) (0, 0)).2) ∧ wr.frozen? ⟨g, (J.length - 1) * 2 + 1, none⟩ = false ∧
      Lay2 w o ot O (J.take (J.length - 1) ++ [((J.getD (J.length - 1) (0, 0)).1, b)]) (wr.setCell ⟨g, (J.length - 1) * 2 + 1, none⟩ (.int .i64 b)) := by
  obtain ⟨v, h1, h2, h3⟩ := h.obj
  have hge : ∀ i, v.ownBlock = some i → w.heap.size ≤ i := fun i hi => own_ge h2 hi
  rcases h2.2 with ⟨rfl, h0⟩ | ⟨g, cap, cur, rfl, hb, hg, hnc, hm, hcs, htake⟩
  · omega
  · have hfl := flat_len J
    obtain ⟨g0, g1⟩ := flat_get J (J.length - 1) _ (some_getD (d := (0, 0)) (by omega))
    have get : ∀ j u, (flat J)[j]? = some u → wr.cell? ⟨g, j, none⟩ = some u := fun j u hj => by
      have hlt := (List.getElem?_eq_some_iff.1 hj).1
      rw [cell_blk hg, ← hj, ← htake, List.getElem?_take, if_pos (by omega)]
      simp
    have hgw := hge g rfl
    have hlt := h.lt
    have hgo : g ≠ o := by omega
    have hb2 := set_blk (o := (J.length - 1) * 2 + 1) (.int .i64 b) hg
    have hch : Chg (At g) wr (wr.setCell ⟨g, (J.length - 1) * 2 + 1, none⟩ (.int .i64 b)) := (Chg.refl (At g) wr).putAt
    have hJ2 : (J.take (J.length - 1) ++ [((J.getD (J.length - 1) (0, 0)).1, b)]).length = J.length := by rw [List.length_append, List.length_take, List.length_singleton]; omega
    refine ⟨g, cap, by rw [cell_blk h1]; rfl, get _ _ g0, get _ _ g1, frozen_blk hg, ⟨⟨_, hch.keep h1 (fun e => hgo (by have : o = g := e; omega)), ?_, h3⟩, own_chg h.row hch (fun i hi e => h3 g rfl (by have e : i = g := e; rw [← e]; exact hi)), h.lt, h.chg.trans hch fun i hi e => by have e : i = g := e; omega⟩⟩
    rw [hJ2]
    refine ⟨by rw [flat_len, hJ2], .inr ⟨g, cap, _, rfl, hb, hb2, hnc, hm, by rw [Array.size_setIfInBounds]; exact hcs, ?_⟩⟩
    rw [flat_last J hJ b, ← htake, Array.toList_setIfInBounds, List.take_set]
theorem Lay2.app {w wr wx : World} {o : Nat} {ot : Value} {O J : List Ra.Row} (h0 : Lay2 w o ot O J wr) (hc0 : Chg Nowhere wr wx) (hn : J.length ≤ 4000000) (x y : Int) (ty : TypeId) (g : Nat) (hg : wx.heap[g]? = some (.cells #[.int .i64 x, .int .i64 y] 33 (0, 0))) :
    ∃ v A N c w', wr.cell? ⟨o, 0, none⟩ = some v ∧ (Builtin.append_ #[30, 30] ty #[v, .slice (some ⟨g, 0, none⟩) 1 1]).run Try.prog wx = .ok (.slice A N c) w' ∧ w'.cell? ⟨o, 0, none⟩ = some v ∧ w'.frozen? ⟨o, 0, none⟩ = false ∧ Lay2 w o ot O (J ++ [(x, y)]) (w'.setCell ⟨o, 0, none⟩ (.slice A N c)) := by
  obtain ⟨v, h10, h20, h3⟩ := h0.obj
  have h := h0.idle hc0
  have h1 := hc0.same h10
  have h2 := own_chg h20 hc0 (fun _ _ => not_nowhere _)
  obtain ⟨A, N, c, w', hr, ho, hc, hob⟩ := append_row w.heap.size wx v J x y ty h2 g hg hn h.chg.size
  have hlt := h.lt
  have hvo : v.ownBlock ≠ some o := fun e => by have := own_ge h2 e; omega
  have h1' := hc.keep h1 hvo
  have hcs : Chg (At o) w' (w'.setCell ⟨o, 0, none⟩ (.slice A N c)) := (Chg.refl (At o) w').putAt
  refine ⟨v, A, N, c, w', by rw [cell_blk h10]; rfl, hr, by rw [cell_blk h1']; rfl, frozen_blk h1', ⟨⟨_, set_one (y := .slice A N c) h1', own_chg ho hcs (fun i hi e => ?_), fun i hi hj => ?_⟩, own_chg (own_chg h.row hc (fun i hi hs => h3 i hs hi)) hcs (fun i hi e => ?_), h.lt, (h.chg.trans hc fun i hi hs => ?_).trans' hcs⟩⟩
  · have e : i = o := e
    have := own_ge ho hi
    omega
  · rcases hob i hi with h4 | h4
    · exact h3 i h4 hj
    · obtain ⟨cur, hh⟩ := own_blk h.row hj
      have := lt_blk hh
      omega
  · have e : i = o := e
    have := own_ge h.row hi
    omega
  · have := own_ge h2 hs
    omega
theorem Lay2.cells {w wr : World} {o : Nat} {ot : Value} {O J : List Ra.Row} (h : Lay2 w o ot O J wr) {k : Nat} (hk : k < O.length) :
    ∃ g c, ot = .slice (some ⟨g, 0, none⟩) O.length c ∧ wr.cell? ⟨g, k * 2, none⟩ = some (.int .i64 (O.getD k (0, 0)).1) ∧ wr.cell? ⟨g, k * 2 + 1, none⟩ = some (.int .i64 (O.getD k (0, 0)).2) := by
  obtain ⟨g, cap, R, e, hr, _⟩ := own_rowAt (own_base0 h.row) (by omega)
  obtain ⟨g0, g1⟩ := flat_get O k _ (some_getD (d := (0, 0)) hk)
  have hfl := flat_len O
  refine ⟨g, cap, e, hr.cell ?_, hr.cell ?_⟩
  · rw [List.getElem?_append_left (by omega)]; exact g0
  · rw [List.getElem?_append_left (by omega)]; exact g1
theorem Lay2.shape {w wr : World} {o : Nat} {ot : Value} {O J : List Ra.Row} (h : Lay2 w o ot O J wr) : ∃ A c, wr.cell? ⟨o, 0, none⟩ = some (.slice A J.length c) := by
  obtain ⟨v, h1, h2, h3⟩ := h.obj
  obtain ⟨A, c, rfl⟩ := ownR_shape (own_base0 h2)
  exact ⟨A, c, by rw [cell_blk h1]; rfl⟩
/-- What stands at the end. -/
theorem Lay2.done {w wr : World} {o : Nat} {v ot : Value} {L O J : List Ra.Row} (ho : RbAt w o v L) (h : Lay2 w o ot O J wr) : RMoved w o v J wr ∧ ∃ v', RbAt wr o v' J := by
  obtain ⟨v', h1, h2, h3⟩ := h.obj
  exact ⟨⟨⟨v', ⟨h1, own_base0 h2⟩, fun i hi => .inr (own_ge h2 hi)⟩, h.chg.mono fun i _ e => .inl e⟩, v', ⟨h1, own_base0 h2⟩⟩
end Go.Proofs.Ytlkbfacdaelbfaa
