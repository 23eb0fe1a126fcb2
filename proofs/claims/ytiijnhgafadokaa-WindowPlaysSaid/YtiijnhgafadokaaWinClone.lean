/-
  The calls of a window (layer 14): Clone.
-/
import Derived.Test.YtiijnhgafadokaaWinG
namespace Go.Proofs.Ytiijnhgafadokaa
open Go.RowKit Wins
set_option linter.unusedVariables false

def zeros17 : Array Value := #[.int .u64 0, .int .u64 0, .int .u64 0, .int .u64 0, .int .u64 0, .int .u64 0, .int .u64 0, .int .u64 0, .int .u64 0, .int .u64 0, .int .u64 0, .int .u64 0, .int .u64 0, .int .u64 0, .int .u64 0, .int .u64 0, .int .i64 0]
theorem infoWin : (Try.prog.info? 91).map (·.size) = some 17 := by kernel_rfl
theorem store_lit (w : World) (x0 x1 x2 x3 x4 x5 x6 x7 x8 x9 x10 x11 x12 x13 x14 x15 n : Int) :
    (storeCells ⟨w.heap.size, 0, none⟩ [.int .u64 x0, .int .u64 x1, .int .u64 x2, .int .u64 x3, .int .u64 x4, .int .u64 x5, .int .u64 x6, .int .u64 x7, .int .u64 x8, .int .u64 x9, .int .u64 x10, .int .u64 x11, .int .u64 x12, .int .u64 x13, .int .u64 x14, .int .u64 x15, .int .i64 n] 0).run Try.prog (w.alloc (.cells #[.int .u64 0, .int .u64 0, .int .u64 0, .int .u64 0, .int .u64 0, .int .u64 0, .int .u64 0, .int .u64 0, .int .u64 0, .int .u64 0, .int .u64 0, .int .u64 0, .int .u64 0, .int .u64 0, .int .u64 0, .int .u64 0, .int .i64 0] 91)) = .ok () (w.alloc (.cells #[.int .u64 x0, .int .u64 x1, .int .u64 x2, .int .u64 x3, .int .u64 x4, .int .u64 x5, .int .u64 x6, .int .u64 x7, .int .u64 x8, .int .u64 x9, .int .u64 x10, .int .u64 x11, .int .u64 x12, .int .u64 x13, .int .u64 x14, .int .u64 x15, .int .i64 n] 91)) :=
  run_storeCells_new (P := Try.prog) w 91 zeros17 #[.int .u64 x0, .int .u64 x1, .int .u64 x2, .int .u64 x3, .int .u64 x4, .int .u64 x5, .int .u64 x6, .int .u64 x7, .int .u64 x8, .int .u64 x9, .int .u64 x10, .int .u64 x11, .int .u64 x12, .int .u64 x13, .int .u64 x14, .int .u64 x15, .int .i64 n] infoWin rfl (by simp [Value.oneCell'])

def WCloneTo (w : World) (W : Win) (e : Ending) (w' : World) : Prop :=
  ∃ b, e = .returned (.pointer (some ⟨b, 0, none⟩)) ∧ WinAt w' b W ∧ Chg Nowhere w w' ∧ w.heap.size ≤ b

set_option maxHeartbeats 800000 in
set_option maxRecDepth 100000 in
theorem wclone_any (b : Nat) (W : Win) (w : World) (hW : WinAt w b W) :
    Calls Try.prog 33 #[.pointer (some ⟨b, 0, none⟩)] w (WCloneTo w W) := by
  have HW := Lib.hid hW
  have hle := hW.le
  have c0 := hW.words (i := 0) (by decide)
  have c1 := hW.words (i := 1) (by decide)
  have c2 := hW.words (i := 2) (by decide)
  have c3 := hW.words (i := 3) (by decide)
  have c4 := hW.words (i := 4) (by decide)
  have c5 := hW.words (i := 5) (by decide)
  have c6 := hW.words (i := 6) (by decide)
  have c7 := hW.words (i := 7) (by decide)
  have c8 := hW.words (i := 8) (by decide)
  have c9 := hW.words (i := 9) (by decide)
  have c10 := hW.words (i := 10) (by decide)
  have c11 := hW.words (i := 11) (by decide)
  have c12 := hW.words (i := 12) (by decide)
  have c13 := hW.words (i := 13) (by decide)
  have c14 := hW.words (i := 14) (by decide)
  have c15 := hW.words (i := 15) (by decide)
  have c16 := hW.nx
  have hst := store_lit w (wordOf W.m 0 : Int) (wordOf W.m 1 : Int) (wordOf W.m 2 : Int) (wordOf W.m 3 : Int) (wordOf W.m 4 : Int) (wordOf W.m 5 : Int) (wordOf W.m 6 : Int) (wordOf W.m 7 : Int) (wordOf W.m 8 : Int) (wordOf W.m 9 : Int) (wordOf W.m 10 : Int) (wordOf W.m 11 : Int) (wordOf W.m 12 : Int) (wordOf W.m 13 : Int) (wordOf W.m 14 : Int) (wordOf W.m 15 : Int) (W.next : Int)
  clear hW
  go_enter Try.func33, Try.ntmps33
  go_wp2_with fail
  go_ret
  refine ⟨w.heap.size, rfl, ⟨⟨_, alloc_new _ _, rfl, fun i hi => ?_, rfl⟩, hle⟩, (Chg.refl _ _).alloc _, Nat.le_refl _⟩
  refine ⟨wordOf W.m i, ofBits_lt _ 64, ?_, fun j hj => by unfold wordOf; rw [ofBits_bit, decide_eq_true hj, Bool.true_and]⟩
  rcases (by omega : i = 0 ∨ i = 1 ∨ i = 2 ∨ i = 3 ∨ i = 4 ∨ i = 5 ∨ i = 6 ∨ i = 7 ∨ i = 8 ∨ i = 9 ∨ i = 10 ∨ i = 11 ∨ i = 12 ∨ i = 13 ∨ i = 14 ∨ i = 15) with rfl | rfl | rfl | rfl | rfl | rfl | rfl | rfl | rfl | rfl | rfl | rfl | rfl | rfl | rfl | rfl <;> rfl
end Go.Proofs.Ytiijnhgafadokaa
