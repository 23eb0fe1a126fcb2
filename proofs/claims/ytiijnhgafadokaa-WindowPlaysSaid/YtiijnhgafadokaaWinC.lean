/-
  The calls of a window (layer 14): Top, a clone, a new one, how many bits a word has.
-/
import Derived.Test.YtiijnhgafadokaaWinB
import Derived.Deep.WholeRow
namespace Go.Proofs.Ytiijnhgafadokaa
open Go.RowKit Wins
set_option linter.unusedVariables false

set_option maxHeartbeats 400000 in
theorem top_any (b : Nat) (W : Win) (w : World) (hW : WinAt w b W) :
    Calls Try.prog 31 #[.pointer (some ⟨b, 0, none⟩)] w fun e w' => e = .returned (.int .i64 ((W.next : Int) - 1)) ∧ w = w' := by
  have h1 := hW.nx
  have hle := hW.le
  clear hW
  go_enter Try.func31, Try.ntmps31
  go_wp2
  go_ret
  exact ⟨rfl, rfl⟩

def zeroWin : Array Value := ((List.replicate 16 (Value.int .u64 0)) ++ [Value.int .i64 0]).toArray
theorem zeroWinArr : WinArr zeroWin Wins.new := by
  refine ⟨rfl, fun i hi => ⟨0, by decide, ?_, fun j _ => by simp [Wins.new]⟩, rfl⟩
  have : ∀ i, i < 16 → zeroWin[i]? = some (.int .u64 0) := by
    intro i hi
    simp only [zeroWin, List.getElem?_toArray]
    rw [List.getElem?_append_left (by simpa using hi), List.getElem?_replicate, if_pos hi]
  exact this i hi

def NewWTo (w : World) (e : Ending) (w' : World) : Prop :=
  ∃ b, e = .returned (.pointer (some ⟨b, 0, none⟩)) ∧ WinAt w' b Wins.new ∧ Chg Nowhere w w' ∧ w.heap.size ≤ b

set_option maxHeartbeats 400000 in
theorem newW_any (w : World) : Calls Try.prog 27 #[] w (NewWTo w) := by
  have hz := Lib.hid (alloc_new w (.cells zeroWin 91))
  go_enter Try.func27, Try.ntmps27
  go_wp2_with fail
  go_ret
  exact ⟨w.heap.size, rfl, ⟨⟨zeroWin, hz.out, zeroWinArr⟩, by decide⟩, (Chg.refl _ _).alloc _, Nat.le_refl _⟩

def oc1 (a : Int) : Int := IntKind.u64.wrap (bits .and .u64 (a / 2) 6148914691236517205 + bits .and .u64 a 6148914691236517205)
def oc2 (a : Int) : Int := IntKind.u64.wrap (bits .and .u64 (a / 4) 3689348814741910323 + bits .and .u64 a 3689348814741910323)
def oc3 (a : Int) : Int := bits .and .u64 (IntKind.u64.wrap (a / 16 + a)) 1085102592571150095
def oc4 (a : Int) : Int := IntKind.u64.wrap (a + a / 256)
def oc5 (a : Int) : Int := IntKind.u64.wrap (a + a / 65536)
def oc6 (a : Int) : Int := IntKind.u64.wrap (a + a / 4294967296)
def ocI (a : Int) : Int := bits .and .i64 (wrap64 (oc6 (oc5 (oc4 (oc3 (oc2 (oc1 a))))))) 127

set_option maxHeartbeats 800000 in
set_option maxRecDepth 100000 in
theorem ones_any (a : Int) (w : World) (h : 0 ≤ a) : Calls Try.prog 69 #[.int .u64 a] w fun e w' => e = .returned (.int .i64 (ocI a)) ∧ w = w' := by
  go_enter Try.func69, Try.ntmps69
  go_wp2
  go_ret
  exact ⟨rfl, rfl⟩
end Go.Proofs.Ytiijnhgafadokaa
