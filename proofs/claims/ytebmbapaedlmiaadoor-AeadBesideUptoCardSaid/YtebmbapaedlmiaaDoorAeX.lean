/-
  Package aead: what the walk of tag keeps.
-/
import Derived.Test.YtebmbapaedlmiaaDoorAeW
namespace Go.Proofs.YtebmbapaedlmiaaDoor
open Go.RowKit Ae
set_option linter.unusedVariables false

theorem own_blk {w : World} {base : Nat} {e : TypeId} {size : Nat} {v : Value} {n : Nat} {xs : List Value} (h : w.ownsRow base e size v n xs) {i : Nat} (hi : v.ownBlock = some i) : ∃ cur, w.heap[i]? = some (.cells cur e (0,0)) := by
  rcases h.2 with ⟨rfl, _⟩ | ⟨g, cap, cur, rfl, _, hh, _⟩
  · cases hi
  · simp only [Value.ownBlock, Option.some.injEq] at hi; subst hi; exact ⟨_, hh⟩
/-- A block of another kind is not the row's. -/
theorem own_ne {w : World} {base : Nat} {e t : TypeId} {size : Nat} {v : Value} {n : Nat} {xs : List Value} {cs : Array Value} (h : w.ownsRow base e size v n xs) {b : Nat} (hb : w.heap[b]? = some (.cells cs t (0, 0))) (ht : t ≠ e) : some b ≠ v.ownBlock := fun q => by
  obtain ⟨cur, hc⟩ := own_blk h q.symm
  rw [hb] at hc
  simp only [Option.some.injEq, Obj.cells.injEq] at hc
  exact ht hc.2.1
structure TagW (w wr : World) (S : Nat) (B : List Nat) (v : Value) (l : List Nat) : Prop where
  r : wr.heap[w.heap.size + 1 + 1]? = some (.cells (bs (List.replicate 16 0)) 36 (0, 0))
  s : wr.heap[S]? = some (.cells (bs B) 43 (0, 0))
  own : wr.ownsRow 0 5 1 v l.length (bl l)
  ge : ∀ i, v.ownBlock = some i → w.heap.size ≤ i
  c : Chg Nowhere w wr
theorem TagW.chg {w wr w2 : World} {S : Nat} {B : List Nat} {v : Value} {l : List Nat} (h : TagW w wr S B v l) (hc : Chg Nowhere wr w2) : TagW w w2 S B v l :=
  ⟨hc.same h.r, hc.same h.s, own_chg h.own hc (fun _ _ => not_nowhere _), h.ge, h.c.then_none hc⟩
theorem TagW.grown {w wr w2 : World} {S : Nat} {B : List Nat} {v v' : Value} {l l' : List Nat} (h : TagW w wr S B v l) (hg : wr.grownBy w2 v.ownBlock) (ho : w2.ownsRow 0 5 1 v' l'.length (bl l')) (hob : v'.ownBlock = v.ownBlock ∨ v'.ownBlock = some wr.heap.size) : TagW w w2 S B v' l' :=
  ⟨(hg.block _ (lt_blk h.r) (own_ne h.own h.r (by decide))).trans h.r, (hg.block _ (lt_blk h.s) (own_ne h.own h.s (by decide))).trans h.s, ho, fun i hi => by
    rcases hob with e | e <;> rw [e] at hi
    · exact h.ge i hi
    · injection hi with e2
      have := h.c.size
      omega, h.c.grown hg (fun k hk => .inl (h.ge k hk))⟩
end Go.Proofs.YtebmbapaedlmiaaDoor
