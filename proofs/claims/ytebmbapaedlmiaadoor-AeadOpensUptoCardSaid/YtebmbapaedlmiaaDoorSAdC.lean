/-
  The document's stream: what the walk of Block asks.
-/
import Derived.Test.YtebmbapaedlmiaaDoorSAdB
import Derived.Maps.AppendAt
namespace Go.Proofs.YtebmbapaedlmiaaDoor
open Go.RowKit Ae
set_option linter.unusedVariables false

def wl (l : List Nat) : List Value := l.map fun (n : Nat) => Value.int .u32 (n : Int)
theorem wl_len (l : List Nat) : (wl l).length = l.length := by simp [wl]
theorem wl_append (l m : List Nat) : wl (l ++ m) = wl l ++ wl m := by simp [wl]
theorem wl_get {l : List Nat} {i b : Nat} (h : l[i]? = some b) : (wl l)[i]? = some (.int .u32 (b : Int)) := by simp [wl, h]
theorem wl_one (l : List Nat) : ∀ u ∈ wl l, u.oneCell' = true := fun u hu => by
  obtain ⟨b, _, rfl⟩ := List.mem_map.1 hu
  rfl
theorem infoB32 : (Tryd.prog.info? 39).map (fun i => (i.zero, i.size, i.bytes)) = some (some (.int .u32 0), 1, 4) := by kernel_rfl
theorem info32_parts : ∃ i, Tryd.prog.info? 39 = some i ∧ i.zero = some (.int .u32 0) ∧ i.size = 1 ∧ i.bytes = 4 := by
  obtain ⟨i, hi, h⟩ := Option.map_eq_some_iff.1 infoB32
  simp only [Prod.mk.injEq] at h
  exact ⟨i, hi, h⟩
/-- Words of a row that is read are appended to a row of words of one's own. -/
theorem append32 (w : World) (v : Value) (l m : List Nat) (g o c : Nat) (hown : w.ownsRow 0 39 1 v l.length (wl l)) (hx : ∀ j u, (wl m)[j]? = some u → w.cell? ⟨g, o + j, none⟩ = some u) (hn : l.length + m.length ≤ 1000) :
    ∃ v' w', (Builtin.append_ #[49, 49] 49 #[v, .slice (some ⟨g, o, none⟩) m.length c]).run Tryd.prog w = .ok v' w' ∧ w'.ownsRow 0 39 1 v' (l ++ m).length (wl (l ++ m)) ∧ w.grownBy w' v.ownBlock ∧ (v'.ownBlock = v.ownBlock ∨ v'.ownBlock = some w.heap.size) := by
  obtain ⟨i, hi, hz, hsize, hby⟩ := info32_parts
  obtain ⟨v', w', h1, h2, h3, -, h4⟩ := run_append_own_at (P := Tryd.prog) w 0 49 49 39 i (.int .u32 0) 1 4 Tryd.underlying49 hi hz hsize hby rfl (by decide) v l.length (wl l) hown ⟨g, o, none⟩ m.length c (wl m) (by rw [wl_len, Nat.mul_one]) (fun j u hj => by rw [Addr.add_mid]; exact hx j u hj) (wl_one m) (by unfold maxLen; omega) (by omega) (Nat.zero_le _)
  rw [wl_append, List.length_append]
  exact ⟨v', w', h1, h2, h3, h4⟩
/-- What the walk of a block keeps while its first state is made. -/
structure RbW (w wr : World) (key nonce : List Nat) (v : Value) (L : List Nat) : Prop where
  k : wr.heap[w.heap.size]? = some (.cells (bs key) 23 (0, 0))
  n : wr.heap[w.heap.size + 1]? = some (.cells (bs nonce) 25 (0, 0))
  r : wr.heap[w.heap.size + 1 + 1]? = some (.cells (bs (List.replicate 64 0)) 43 (0, 0))
  own : wr.ownsRow 0 39 1 v L.length (wl L)
  ge : ∀ i, v.ownBlock = some i → w.heap.size ≤ i
  c : Chg Nowhere w wr
theorem RbW.chg {w wr w2 : World} {key nonce L : List Nat} {v : Value} (h : RbW w wr key nonce v L) (hc : Chg Nowhere wr w2) : RbW w w2 key nonce v L :=
  ⟨hc.same h.k, hc.same h.n, hc.same h.r, own_chg h.own hc (fun _ _ => not_nowhere _), h.ge, h.c.then_none hc⟩
theorem RbW.grown {w wr w2 : World} {key nonce L L' : List Nat} {v v' : Value} (h : RbW w wr key nonce v L) (hg : wr.grownBy w2 v.ownBlock) (ho : w2.ownsRow 0 39 1 v' L'.length (wl L')) (hob : v'.ownBlock = v.ownBlock ∨ v'.ownBlock = some wr.heap.size) : RbW w w2 key nonce v' L' :=
  ⟨(hg.block _ (lt_blk h.k) (own_ne h.own h.k (by decide))).trans h.k, (hg.block _ (lt_blk h.n) (own_ne h.own h.n (by decide))).trans h.n, (hg.block _ (lt_blk h.r) (own_ne h.own h.r (by decide))).trans h.r, ho, fun i hi => by
    rcases hob with e | e <;> rw [e] at hi
    · exact h.ge i hi
    · injection hi with e2
      have := h.c.size
      omega, h.c.grown hg (fun k hk => .inl (h.ge k hk))⟩
/-- One word in a row of its own is appended. -/
theorem RbW.one {w wr : World} {key nonce L : List Nat} {v : Value} (h : RbW w wr key nonce v L) (y : Nat) (hn : L.length + 1 ≤ 1000) :
    ∃ v' w', (Builtin.append_ #[49, 49] 49 #[v, .slice (some ⟨wr.heap.size, 0, none⟩) 1 1]).run Tryd.prog (wr.alloc (.cells #[.int .u32 (y : Int)] 39)) = .ok v' w' ∧ RbW w w' key nonce v' (L ++ [y]) := by
  have h2 := h.chg ((Chg.refl Nowhere wr).alloc (.cells #[.int .u32 (y : Int)] 39))
  obtain ⟨v', w', h1, ho, hg, hob⟩ := append32 _ v L [y] wr.heap.size 0 1 h2.own (fun j u hj => by
    have hj0 : j = 0 := by have := (List.getElem?_eq_some_iff.1 hj).1; simpa [wl] using this
    subst hj0
    rw [Nat.zero_add, cell_of_row _ _ _ _ _ _ (alloc_new wr _)]
    exact hj) hn
  exact ⟨v', w', h1, h2.grown hg ho hob⟩
theorem rsl_k (g j : Nat) (hj : j < 8) (w : World) : (Instr.sliceAt 23 (.pointer (some ⟨g, 0, none⟩)) (some (.int .i64 (4 * (j : Int)))) (some (.int .i64 (4 * (j : Int) + 4))) none).run Tryd.prog w = .ok (.slice (some ⟨g, 4 * j, none⟩) 4 (32 - 4 * j)) w := by
  rcases (by omega : j = 0 ∨ j = 1 ∨ j = 2 ∨ j = 3 ∨ j = 4 ∨ j = 5 ∨ j = 6 ∨ j = 7) with rfl | rfl | rfl | rfl | rfl | rfl | rfl | rfl <;> go_simp
theorem rsl_n (g j : Nat) (hj : j < 3) (w : World) : (Instr.sliceAt 25 (.pointer (some ⟨g, 0, none⟩)) (some (.int .i64 (4 * (j : Int)))) (some (.int .i64 (4 * (j : Int) + 4))) none).run Tryd.prog w = .ok (.slice (some ⟨g, 4 * j, none⟩) 4 (12 - 4 * j)) w := by
  rcases (by omega : j = 0 ∨ j = 1 ∨ j = 2) with rfl | rfl | rfl <;> go_simp
/-- A row of words that begins a block. -/
def Row32 (w : World) (g : Nat) (X : List Nat) : Prop := ∃ cur, w.heap[g]? = some (.cells cur 39 (0, 0)) ∧ X.length ≤ cur.size ∧ cur.toList.take X.length = wl X
theorem Row32.same {w w' : World} {g : Nat} {X : List Nat} (h : Row32 w g X) (hc : Chg Nowhere w w') : Row32 w' g X := by
  obtain ⟨cur, h1, h2, h3⟩ := h
  exact ⟨cur, hc.same h1, h2, h3⟩
theorem Row32.lt {w : World} {g : Nat} {X : List Nat} (h : Row32 w g X) : g < w.heap.size := by
  obtain ⟨cur, h1, h2, h3⟩ := h
  exact lt_blk h1
theorem Row32.cell {w : World} {g i x : Nat} {X : List Nat} (h : Row32 w g X) (hx : X[i]? = some x) : w.cell? ⟨g, i, none⟩ = some (.int .u32 (x : Int)) := by
  obtain ⟨cur, h1, h2, h3⟩ := h
  have hi := (List.getElem?_eq_some_iff.1 hx).1
  rw [cell_of_row w g i _ _ _ h1, ← Array.getElem?_toList]
  have := congrArg (·[i]?) h3
  simp only [List.getElem?_take_of_lt hi] at this
  rw [this, wl_get hx]
theorem Row32.frozen {w : World} {g i : Nat} {X : List Nat} (h : Row32 w g X) : w.frozen? ⟨g, i, none⟩ = false := by
  obtain ⟨cur, h1, h2, h3⟩ := h
  exact frozen_blk h1
theorem Row32.set {w : World} {g i : Nat} {X : List Nat} (h : Row32 w g X) (hi : i < X.length) (x : Nat) : Row32 (w.setCell ⟨g, i, none⟩ (.int .u32 (x : Int))) g (X.set i x) := by
  obtain ⟨cur, h1, h2, h3⟩ := h
  refine ⟨_, set_blk _ h1, by simp; omega, ?_⟩
  rw [List.length_set]
  have e : (cur.setIfInBounds i (.int .u32 (x : Int))).toList.take X.length = (cur.toList.take X.length).set i (.int .u32 (x : Int)) := by
    rw [Array.toList_setIfInBounds, List.take_set]
  rw [e, h3]
  simp [wl, List.map_set]
theorem Row32.other {w : World} {g b i : Nat} {v : Value} {X : List Nat} (h : Row32 w g X) (hb : b ≠ g) : Row32 (w.setCell ⟨b, i, none⟩ v) g X := by
  obtain ⟨cur, h1, h2, h3⟩ := h
  exact ⟨cur, (set_other _ (fun e => hb e.symm)).trans h1, h2, h3⟩
theorem Row32.row {w : World} {g b : Nat} {cs : Array Value} {X : List Nat} (h : Row32 w g X) (hb : b ≠ g) : Row32 (w.setRow b cs) g X := by
  obtain ⟨cur, h1, h2, h3⟩ := h
  exact ⟨cur, row_other h1 (Ne.symm hb), h2, h3⟩
/-- A row of words of one's own, not empty, seen as its block. -/
theorem Row32.of_own {w : World} {v : Value} {X : List Nat} (h : w.ownsRow 0 39 1 v X.length (wl X)) (hn : 0 < X.length) : ∃ g c, v = .slice (some ⟨g, 0, none⟩) X.length c ∧ X.length ≤ c ∧ Row32 w g X := by
  rcases h.2 with ⟨_, h0⟩ | ⟨g, cap, cur, rfl, _, hh, hnc, _, hcs, htake⟩
  · omega
  · refine ⟨g, cap, rfl, hnc, cur, hh, by omega, ?_⟩
    rw [Nat.mul_one] at htake
    exact htake
end Go.Proofs.YtebmbapaedlmiaaDoor
