/-
  The document's examples of layer 14 (shown), walked.
-/
import Derived.Test.YtiijnhgafadokaaWinShown
namespace Go.Proofs.Ytiijnhgafadokaa
open Go.RowKit Wins
set_option linter.unusedVariables false

/-- Block b holds the window W; all that was there is as it was. -/
structure Wb (w0 : World) (b : Nat) (W : Win) (w : World) : Prop where
  win : WinAt w b W
  chg : Chg Nowhere w0 w
  new : w0.heap.size ≤ b
theorem Wb.step {w0 : World} {b : Nat} {W W' : Win} {w w' : World} (h : Wb w0 b W w) (hc : Chg (At b) w w') (ht : WinAt w' b W') : Wb w0 b W' w' :=
  ⟨ht, h.chg.trans hc (fun i hi e => by have : i = b := e; have := h.new; omega), h.new⟩
theorem Wb.idle {w0 : World} {b : Nat} {W : Win} {w w' : World} (h : Wb w0 b W w) (hc : Chg Nowhere w w') : Wb w0 b W w' :=
  ⟨h.win.chg hc (not_nowhere _), h.chg.trans' hc, h.new⟩
def ShownWTo (w : World) (e : Ending) (w' : World) : Prop := e = .returned (.bool true) ∧ Chg Nowhere w w'

theorem Chg.at_keep {b g : Nat} {w w' : World} (h : Chg (At b) w w') {o : Obj} (hg : w.heap[g]? = some o) (hne : g ≠ b) : w'.heap[g]? = some o := h.keep hg (fun e => hne e)

set_option maxHeartbeats 3200000 in
set_option maxRecDepth 100000 in
theorem shownW_any (w : World) : Calls Try.prog 26 #[] w (ShownWTo w) := by
  go_enter Try.func26, Try.ntmps26
  go_wp2_with fail
  refine (newW_any _).mono ?_
  rintro e w1 ⟨b, rfl, hW, hC, hb⟩
  have H := Lib.hid (show Wb w b Wins.new w1 from ⟨hW, hC, hb⟩)
  clear hW hC hb
  go_wp2_with fail
  refine (top_any _ _ _ H.out.win).mono ?_
  rintro e w' ⟨rfl, rfl⟩
  go_wp2_with fail
  refine (mark_any _ _ _ _ H.out.win).mono ?_
  rw [Wins.w1]
  rintro e x1 ⟨rfl, hC, hW⟩
  replace H := Lib.hid (show Wb w b e1 x1 from H.out.step hC hW)
  clear hC hW
  go_wp2_with fail
  refine (mark_any _ _ _ _ H.out.win).mono ?_
  rw [Wins.w2]
  rintro e x2 ⟨rfl, hC, hW⟩
  replace H := Lib.hid (show Wb w b e2 x2 from H.out.step hC hW)
  clear hC hW
  go_wp2_with fail
  refine (mark_any _ _ _ _ H.out.win).mono ?_
  rw [Wins.w3]
  rintro e x3 ⟨rfl, hC, hW⟩
  replace H := Lib.hid (show Wb w b e3 x3 from H.out.step hC hW)
  clear hC hW
  go_wp2_with fail
  refine (below_any _ _ _ _ H.out.win).mono ?_
  rw [Wins.w4]
  rintro e x4 ⟨v, rfl, hO, hC⟩
  have hbx := H.out.win.lt
  replace H := Lib.hid (H.out.idle hC)
  clear hC
  rcases hO.2 with ⟨_, h0⟩ | ⟨g, cap, cur, rfl, hgb, _, _, _, _, _⟩
  · exact absurd h0 (by decide)
  have c0 := hO.cellAt 0 (by decide)
  have c1 := hO.cellAt 1 (by decide)
  have hgl := (hO.lt g rfl).2
  have hgne : g ≠ b := by omega
  have C0 := Lib.hid c0
  have C1 := Lib.hid c1
  clear c0 c1 hO
  go_wp2_with fail
  refine (top_any _ _ _ H.out.win).mono ?_
  rw [Wins.w5]
  rintro e w' ⟨rfl, rfl⟩
  go_wp2_with fail
  refine (count_any _ _ _ H.out.win).mono ?_
  rw [Wins.w6]
  rintro e w' ⟨rfl, rfl⟩
  go_wp2_with fail
  refine (mark_any _ _ _ _ H.out.win).mono ?_
  rw [Wins.w7]
  rintro e x5 ⟨rfl, hC, hW⟩
  have c0 := (hC.cell (p := ⟨g, 0, none⟩) hgl (fun e => hgne e)).trans C0.out
  have c1 := (hC.cell (p := ⟨g, 1, none⟩) hgl (fun e => hgne e)).trans C1.out
  simp only [flat, rcells, List.flatMap_cons, List.cons_append, List.nil_append, List.flatMap_nil, List.getElem?_cons_zero, List.getElem?_cons_succ] at c0 c1
  replace H := Lib.hid (show Wb w b e4 x5 from H.out.step hC hW)
  clear hC hW C0 C1
  go_wp2_with fail
  refine (chk_any _ _ _ _ H.out.win).mono ?_
  rw [Wins.w8]
  rintro e w' ⟨rfl, rfl⟩
  go_wp2_with fail
  refine (chk_any _ _ _ _ H.out.win).mono ?_
  rw [Wins.w9]
  rintro e w' ⟨rfl, rfl⟩
  go_wp2_with fail
  refine (chk_any _ _ _ _ H.out.win).mono ?_
  rw [Wins.w10]
  rintro e w' ⟨rfl, rfl⟩
  go_wp2_with fail
  go_ret
  exact ⟨rfl, H.out.chg⟩
end Go.Proofs.Ytiijnhgafadokaa
