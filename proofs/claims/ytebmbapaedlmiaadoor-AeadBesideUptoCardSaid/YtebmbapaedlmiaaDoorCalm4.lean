/-
  A region that draws its order and has guards, all of which hold: each operation of its front once.
-/
import Derived.Test.YtebmbapaedlmiaaDoorAdE
namespace Go.Proofs.YtebmbapaedlmiaaDoor
open Go.RowKit Ae
set_option linter.unusedVariables false

/-- One operation after the other, each wanted, each from what it waits for. -/
def StepsG (P : Program) (l : List Oper) (ds : List Nat) (A : List Nat) (F : List Fact) (R : World → World → Prop) (a : Act) (w : World) : Nat → List Oper → Prop
  | _, [] => True
  | i, o :: rest => (∀ x w', R w w' → (∀ j, waits2 l i j = true → (F.getD j nothing).at x w') →
      Region.wanted o (yielded l.toArray (puts a ds x).tmps) = true ∧
      ∀ (K : Act → World → Prop) (Q' : Exit → Act → World → Prop), (∀ v w2, R w' w2 → (F.getD i nothing).at (upd x o.dst v) w2 → (∀ d, o.dst = some d → d ∈ A → Born w' w2 v) → K ((puts a ds x).put o.dst v) w2) → o.wp P (puts a ds x) w' K Q') ∧
      StepsG P l ds A F R a w (i + 1) rest
theorem StepsG.nil {P : Program} {l : List Oper} {ds : List Nat} {A : List Nat} {F : List Fact} {R : World → World → Prop} {a : Act} {w : World} {i : Nat} : StepsG P l ds A F R a w i [] := trivial
theorem StepsG.cons {P : Program} {l : List Oper} {ds : List Nat} {A : List Nat} {F : List Fact} {R : World → World → Prop} {a : Act} {w : World} {i : Nat} {o : Oper} {rest : List Oper}
    (g : ∀ x w', R w w' → (∀ j, waits2 l i j = true → (F.getD j nothing).at x w') → Region.wanted o (yielded l.toArray (puts a ds x).tmps) = true)
    (h : ∀ x w', R w w' → (∀ j, waits2 l i j = true → (F.getD j nothing).at x w') →
      ∀ (K : Act → World → Prop) (Q' : Exit → Act → World → Prop), (∀ v w2, R w' w2 → (F.getD i nothing).at (upd x o.dst v) w2 → (∀ d, o.dst = some d → d ∈ A → Born w' w2 v) → K ((puts a ds x).put o.dst v) w2) → o.wp P (puts a ds x) w' K Q')
    (k : StepsG P l ds A F R a w (i + 1) rest) : StepsG P l ds A F R a w i (o :: rest) := ⟨fun x w' hR hd => ⟨g x w' hR hd, h x w' hR hd⟩, k⟩
theorem StepsG.get {P : Program} {l : List Oper} {ds : List Nat} {A : List Nat} {F : List Fact} {R : World → World → Prop} {a : Act} {w : World} : ∀ {k : Nat} {L : List Oper}, StepsG P l ds A F R a w k L → ∀ j o, L[j]? = some o →
    ∀ x w', R w w' → (∀ i, waits2 l (k + j) i = true → (F.getD i nothing).at x w') →
      Region.wanted o (yielded l.toArray (puts a ds x).tmps) = true ∧
      ∀ (K : Act → World → Prop) (Q' : Exit → Act → World → Prop), (∀ v w2, R w' w2 → (F.getD (k + j) nothing).at (upd x o.dst v) w2 → (∀ d, o.dst = some d → d ∈ A → Born w' w2 v) → K ((puts a ds x).put o.dst v) w2) → o.wp P (puts a ds x) w' K Q'
  | k, [], _, j, o, ho => by simp at ho
  | k, o' :: L, h, 0, o, ho => by simp at ho; subst ho; exact h.1
  | k, o' :: L, h, j + 1, o, ho => by
    have := h.2.get j o (by simpa using ho)
    rw [show k + 1 + j = k + (j + 1) by omega] at this
    exact this
theorem wp_region_calmG {P : Program} {l : List Oper} {Q : Exit → Act → World → Prop} {id : Nat} {a : Act} {w : World} (n : Nat) (ds : List Nat) (A : List Nat) (F : List Fact) (R : World → World → Prop) (hm : P.follows .mixedOrders = true) (hB : calmB l n ds (F.map (·.slots)) = true)
    (refl : ∀ w, R w w) (trans : ∀ {a b c}, R a b → R b c → R a c) (grows : ∀ {a b}, R a b → a.heap.size ≤ b.heap.size) (hA : ∀ d, d ∈ A → d ∈ ds) (drew : R w { w with drawn := w.drawn + 1 })
    (stable : Lasting R F) (step : StepsG P l ds A F R a w 0 (l.take n))
    (tail : ∀ x w', R w w' → (∀ i, i < n → (F.getD i nothing).at x w') → (∀ d e, d ∈ A → e ∈ A → d ≠ e → blk (x d) ≠ blk (x e)) → wpList P l.toArray Q (l.drop n) (puts a ds x) w') : (Code.region id l.toArray true).wp P Q a w := by
  refine wp_region_calm n ds A F R hm hB refl trans grows hA drew (fun i _ x w1 w2 hR h => stable.get i _ _ _ hR h) (fun i o ho hi x w' hR hd => ?_) tail
  have ho2 : (l.take n)[i]? = some o := by rw [List.getElem?_take_of_lt hi]; exact ho
  have := step.get i o ho2 x w' hR (by rw [Nat.zero_add]; exact hd)
  rw [Nat.zero_add] at this
  rw [if_pos this.1]
  exact this.2 _ _ fun v w2 h1 h2 h3 => ⟨v, rfl, h1, h2, h3⟩
theorem want_none {o : Oper} {f : Nat → Option Bool} (h : o.guard = none) : Region.wanted o f = true := by simp [Region.wanted, h]
theorem want_some {o : Oper} {l : List Oper} {a : Act} {ds : List Nat} {x : Nat → Value} {j d : Nat} {b : Bool} (hg : o.guard = some (j, b)) (hd : (l[j]?).bind (·.dst) = some d) (hin : ds.contains d = true) (hs : (a.tmps[d]?).isSome = true) (hx : x d = .bool b) :
    Region.wanted o (yielded l.toArray (puts a ds x).tmps) = true := by
  obtain ⟨u, hu⟩ := Option.isSome_iff_exists.1 hs
  have e : yielded l.toArray (puts a ds x).tmps j = some b := by
    unfold yielded
    rw [List.getElem?_toArray, hd]
    simp only [Option.bind_some]
    rw [puts_get, hu, Option.map_some, if_pos hin, hx]
  simp [Region.wanted, hg, e]
theorem wp_conv {P : Program} {o : Oper} {a : Act} {w : World} {s t : TypeId} {x : Operand} {vx v : Value} {K : Act → World → Prop} {Q : Exit → Act → World → Prop} (ho : o.op = .convert s t x) (hx : a.eval x = vx)
    (hrun : (convert s t vx).run P w = .ok v w) (h : K (a.put o.dst v) w) : o.wp P a w K Q := by
  refine wp_run ?_ h
  unfold execOp
  simp only [ho, hx]
  simp [hrun]
theorem wp_field_at {P : Program} {o : Oper} {a : Act} {w : World} {t : TypeId} {x : Operand} {i : Nat} {vx v : Value} {K : Act → World → Prop} {Q : Exit → Act → World → Prop} (ho : o.op = .fieldAddr t x i) (hx : a.eval x = vx)
    (hrun : (Instr.fieldAt t vx i).run P w = .ok v w) (h : K (a.put o.dst v) w) : o.wp P a w K Q := by
  refine wp_run ?_ h
  unfold execOp
  simp only [ho, hx]
  simp [hrun]
theorem wp_pick {P : Program} {o : Oper} {a : Act} {w : World} {c x y : Operand} {b : Bool} {v : Value} {K : Act → World → Prop} {Q : Exit → Act → World → Prop} (ho : o.op = .pick c x y) (hc : a.eval c = .bool b) (hx : (if b then a.eval x else a.eval y) = v)
    (h : K (a.put o.dst v) w) : o.wp P a w K Q := by
  refine wp_run ?_ h
  subst hx
  unfold execOp
  simp only [ho, hc]
  cases b <;> simp [asBool]
theorem fa_key (g : Nat) (w : World) : (Instr.fieldAt 28 (.pointer (some ⟨g, 0, none⟩)) 0).run Tryd.prog w = .ok (.pointer (some ⟨g, 0, none⟩)) w := by go_simp
theorem fa_nonce (g : Nat) (w : World) : (Instr.fieldAt 28 (.pointer (some ⟨g, 0, none⟩)) 1).run Tryd.prog w = .ok (.pointer (some ⟨g, 32, none⟩)) w := by go_simp
theorem fa_beside (g : Nat) (w : World) : (Instr.fieldAt 28 (.pointer (some ⟨g, 0, none⟩)) 2).run Tryd.prog w = .ok (.pointer (some ⟨g, 44, none⟩)) w := by go_simp
theorem eq_str (s : ByteArray) (w : World) : (binOp .eql 9 (.string s) (.string s)).run Tryd.prog w = .ok (.bool true) w := by go_simp
theorem eqg_str (x y : Operand) (s t : ByteArray) (w : World) : (eqGuard .eql 9 x y (.string s) (.string t)).run Tryd.prog w = .ok () w := by simp [eqGuard]
end Go.Proofs.YtebmbapaedlmiaaDoor
