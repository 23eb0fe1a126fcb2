/-
  The document's examples of layer 21, walked.
-/
import Derived.Test.YtiijnhgafadokaaSchO
namespace Go.Proofs.Ytiijnhgafadokaa
open Go.RowKit
set_option linter.unusedVariables false

def FiveTo : Nat → List Rec → Prop
  | 0, l => l = []
  | i + 1, l => ∃ l' v, FiveTo i l' ∧ l = l' ++ [⟨(i : Int), 10, v, [((i : Int), (i : Int) + 1)]⟩]
theorem five_all {l : List Rec} (h : FiveTo 5 l) : ∃ v0 v1 v2 v3 v4, l = five v0 v1 v2 v3 v4 := by
  obtain ⟨l4, v4, ⟨l3, v3, ⟨l2, v2, ⟨l1, v1, ⟨l0, v0, rfl, rfl⟩, rfl⟩, rfl⟩, rfl⟩, rfl⟩ := h
  exact ⟨v0, v1, v2, v3, v4, rfl⟩
theorem fiveTo_len : ∀ (i : Nat) (l : List Rec), FiveTo i l → l.length = i
  | 0, l, h => by rw [show l = [] from h]; rfl
  | i + 1, l, h => by
    obtain ⟨l', v, h', rfl⟩ := h
    rw [List.length_append, fiveTo_len i l' h']; rfl
theorem View.sent {S : Sch} {x : Int} {o : Option Fl} {i : Nat} {l : List Rec} (h : View S x (some ⟨4, (i : Int), l⟩) o) (hi : i < 5) (cv : Value) :
    View (sentS S 1 (i : Int) 10 cv [((i : Int), (i : Int) + 1)]) x (some ⟨4, ((i + 1 : Nat) : Int), l ++ [⟨(i : Int), 10, cv, [((i : Int), (i : Int) + 1)]⟩]⟩) o := by
  unfold sentS
  rw [h.p1]
  simp only
  rw [if_neg (by omega)]
  exact ⟨h.pol, h.last, rfl, h.p2⟩
/-- The scheduler at s with its view. -/
structure Sv (w0 : World) (s N : Nat) (S : Sch) (w : World) : Prop where
  is : SchIs (fun i => w0.heap.size ≤ i) w s N S
  chg : Chg Nowhere w0 w
theorem Sv.zone {w0 : World} {s N : Nat} {S : Sch} {w : World} (h : Sv w0 s N S w) : ∀ i, w.heap.size ≤ i → w0.heap.size ≤ i := fun i hi => by have := h.chg.size; omega
theorem Sv.step {w0 : World} {s N N' : Nat} {S S' : Sch} {w w' : World} (h : Sv w0 s N S w) (hi : SchIs (fun i => w0.heap.size ≤ i) w' s N' S') (hc : ChgZ (fun i => w0.heap.size ≤ i) w w') : Sv w0 s N' S' w' :=
  ⟨hi, h.chg.trans hc fun i hi2 e => by have := e.1; omega⟩
theorem Sv.idle {w0 : World} {s N : Nat} {S : Sch} {w w' : World} (h : Sv w0 s N S w) (hc : Chg Nowhere w w') : Sv w0 s N S w' := ⟨h.is.idle hc, h.chg.trans' hc⟩
def ShownSTo (w : World) (e : Ending) (w' : World) : Prop := e = .returned (.bool true) ∧ Chg Nowhere w w'
end Go.Proofs.Ytiijnhgafadokaa
