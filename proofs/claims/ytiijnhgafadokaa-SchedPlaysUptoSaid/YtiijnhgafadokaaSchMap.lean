/-
  A map from numbers to objects: what a key leads to.
-/
import Derived.Test.YtiijnhgafadokaaProg
import Derived.Test.YtiijnhgafadokaaKit
import Derived.Maps.Own
import Derived.Maps.OwnOps
import Derived.Maps.Views
import Derived.Maps.OwnSet
import Derived.WalkArith
namespace Go.Proofs.Ytiijnhgafadokaa
open Go.RowKit
open Go.Maps (Keyed)
set_option linter.unusedVariables false

/-- A pointer to a block reads as the block's number. -/
def rptr : Value → Option (DataW Unit × List MemPlace)
  | .pointer (some ⟨g, 0, .none⟩) => some (.lit (.int .i64 g), [])
  | _ => .none
theorem rptr_inv {v : Value} {y : DataW Unit × List MemPlace} (h : rptr v = some y) : ∃ g : Nat, v = .pointer (some ⟨g, 0, .none⟩) ∧ y = (.lit (.int .i64 g), []) := by
  unfold rptr at h
  split at h
  · exact ⟨_, rfl, (Option.some.inj h).symm⟩
  · cases h
def at_ (o : Option Nat) (z : DataW Unit) : DataW Unit := match o with
  | some g => .lit (.int .i64 (g : Int))
  | .none => z
/-- Block m is a map of at most n entries in which a key k leads to block F k. -/
def MapAt (w : World) (m n : Nat) (F : Int → Option Nat) : Prop :=
  ∃ D : DataW Unit, Maps.IsMap D ∧ w.ownsMap Try.prog 3 rptr m n D ∧ ∀ (k : Int) z, D.atKey (.int .i64 k) z = at_ (F k) z
theorem MapAt.lt {w : World} {m n : Nat} {F : Int → Option Nat} (h : MapAt w m n F) : m < w.heap.size := by
  obtain ⟨D, _, h, _⟩ := h; exact h.lt
theorem MapAt.keep {w w' : World} {m n : Nat} {F : Int → Option Nat} (h : MapAt w m n F) (hw : w'.heap[m]? = w.heap[m]?) : MapAt w' m n F := by
  obtain ⟨D, hD, ⟨es, clock, hb, r⟩, hF⟩ := h
  exact ⟨D, hD, ⟨es, clock, hw.trans hb, r⟩, hF⟩
theorem mapAt_made (w : World) : MapAt (w.alloc (.map #[] 0)) w.heap.size 0 (fun _ => .none) :=
  ⟨.map [], by exact ⟨_, rfl⟩, World.ownsMap_made w _ _ _, fun k z => rfl⟩
theorem keyI : Keyed Try.prog 3 := Maps.int_keyed Try.underlying3
theorem keyOfI {k : Int} (hk : -9223372036854775808 ≤ k ∧ k ≤ 9223372036854775807) : keyOf Try.prog 3 (.int .i64 k) = some (.int .i64 k) := Maps.keyOf_int_mk Try.underlying3 (WalkArith.wf_i64 hk)
theorem at_inj {o : Option Nat} {y : DataW Unit} (h : ∀ z, at_ o z = y) : ∃ g, o = some g := by
  cases o with
  | some g => exact ⟨g, rfl⟩
  | none =>
    have h1 := h (.lit (.bool true))
    have h2 := h (.lit (.bool false))
    have h3 : (DataW.lit (.bool true) : DataW Unit) = .lit (.bool false) := h1.trans h2.symm
    cases h3
/-- What 'v, ok := m[k]' gives. -/
def lookV (o : Option Nat) : Value := match o with
  | some g => .tuple #[.pointer (some ⟨g, 0, .none⟩), .bool true]
  | .none => .tuple #[.pointer .none, .bool false]
theorem MapAt.look {w : World} {m n : Nat} {F : Int → Option Nat} (h : MapAt w m n F) {k : Int} (hk : -9223372036854775808 ≤ k ∧ k ≤ 9223372036854775807) :
    (Instr.lookup 94 (.map (some m)) (.int .i64 k) true).run Try.prog w = .ok (lookV (F k)) w := by
  obtain ⟨D, hD, ⟨es, clock, hb, F', hn, rfl⟩, hF⟩ := h
  have hz : (zeroValue 97).run Try.prog w = .ok (.pointer .none) w := Try.zeroValue97 w
  rcases Maps.fit_look true keyI Try.underlying94 hz hb F' (keyOfI hk) with ⟨hrun, _, hat⟩ | ⟨e0, y, _, _, hrun, hRv, hat, _⟩
  · have : F k = .none := by
      cases hf : F k with
      | none => rfl
      | some g =>
        have h1 := (hF k (.lit (.bool true))).symm.trans (hat (.lit (.bool true)))
        rw [hf] at h1
        cases h1
    rw [hrun, this]; rfl
  · have h1 : ∀ z, at_ (F k) z = y.1 := fun z => (hF k z).symm.trans (hat z)
    obtain ⟨g, hg⟩ := at_inj h1
    obtain ⟨g', hv, rfl⟩ := rptr_inv hRv
    have h2 := h1 (.lit (.bool true))
    rw [hg] at h2
    simp only [at_, DataW.lit.injEq, Lit.int.injEq, true_and] at h2
    have : g = g' := by omega
    rw [hrun, hg, hv, this]; rfl
def insF (F : Int → Option Nat) (k : Int) (g : Nat) : Int → Option Nat := fun x => if x = k then some g else F x
def delF (F : Int → Option Nat) (k : Int) : Int → Option Nat := fun x => if x = k then .none else F x
theorem keyLit (k : Int) : WideAt.IsKeyLit (.int .i64 k) := trivial
theorem atKey_ins {D : DataW Unit} {F : Int → Option Nat} (hD : Maps.IsMap D) (h : ∀ (k : Int) z, D.atKey (.int .i64 k) z = at_ (F k) z) (k : Int) (g : Nat) :
    ∀ (x : Int) z, (D.put (.int .i64 k) (.lit (.int .i64 g))).atKey (.int .i64 x) z = at_ (insF F k g x) z := by
  intro x z
  unfold insF
  by_cases hx : x = k
  · subst hx
    rw [if_pos rfl, Maps.atKey_put_same hD (keyLit _)]; rfl
  · rw [if_neg hx, Maps.atKey_put_other (fun e => hx (by injection e)), h]
theorem atKey_del {D : DataW Unit} {F : Int → Option Nat} (h : ∀ (k : Int) z, D.atKey (.int .i64 k) z = at_ (F k) z) (k : Int) :
    ∀ (x : Int) z, (D.del (.int .i64 k)).atKey (.int .i64 x) z = at_ (delF F k x) z := by
  intro x z
  unfold delF
  by_cases hx : x = k
  · subst hx
    rw [if_pos rfl, Maps.atKey_del_same]; rfl
  · rw [if_neg hx, Maps.atKey_del_other (fun e => hx (by injection e)), h]
theorem wpList_mapPut (w : World) {ops : Array Oper} {rest : List Oper} {o : Oper} {a : Act} {Q : Exit → Act → World → Prop} {m n : Nat} {F : Int → Option Nat}
    (hg : o.guard = .none) (mm x v : Operand) (hop : o.op = Op.mapUpdate 94 mm x v) (hm : a.eval mm = .map (some m)) (h : MapAt w m n F) (hn : n < maxLen) (k : Int) (g : Nat) (hx : a.eval x = .int .i64 k) (hv : a.eval v = .pointer (some ⟨g, 0, .none⟩))
    (hk : -9223372036854775808 ≤ k ∧ k ≤ 9223372036854775807) (hK : ∀ w', MapAt w' m (n + 1) (insF F k g) → w.grownBy w' (some m) → wpList Try.prog ops Q rest (a.put o.dst undef) w') :
    wpList Try.prog ops Q (o :: rest) a w := by
  obtain ⟨D, hD, hO, hF⟩ := h
  exact wpList_mapUpdate_own w hg mm x v _ hop _ _ keyI Try.underlying94 rptr m n D hm hO hn _ _ _ hx hv (keyOfI hk) _ _ rfl fun w' h1 h2 => hK w' ⟨_, hD.put _ _, h1, atKey_ins hD hF k g⟩ h2
theorem wpList_mapDel (w : World) {ops : Array Oper} {rest : List Oper} {o : Oper} {a : Act} {Q : Exit → Act → World → Prop} {m n : Nat} {F : Int → Option Nat}
    (hg : o.guard = .none) (mm x : Operand) (hop : o.op = Op.call { callee := Callee.builtin Builtin.delete, args := #[mm, x], argTypes := #[94, 3] }) (hm : a.eval mm = .map (some m)) (h : MapAt w m n F) (k : Int) (hx : a.eval x = .int .i64 k)
    (hk : -9223372036854775808 ≤ k ∧ k ≤ 9223372036854775807) (hK : ∀ w', MapAt w' m n (delF F k) → w.grownBy w' (some m) → wpList Try.prog ops Q rest (a.put o.dst (.tuple #[])) w') :
    wpList Try.prog ops Q (o :: rest) a w := by
  obtain ⟨D, hD, hO, hF⟩ := h
  exact wpList_delete_own w hg mm x _ _ hop _ keyI Try.underlying94 rptr m n D hm hO _ _ hx (keyOfI hk) fun w' h1 h2 => hK w' ⟨_, hD.del _, h1, atKey_del hF k⟩ h2.grown
end Go.Proofs.Ytiijnhgafadokaa
