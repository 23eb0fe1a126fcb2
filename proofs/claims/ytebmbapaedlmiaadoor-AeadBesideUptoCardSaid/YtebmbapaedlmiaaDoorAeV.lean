/-
  Package aead: pad (the walk).
-/
import Derived.Test.YtebmbapaedlmiaaDoorAeU
namespace Go.Proofs.YtebmbapaedlmiaaDoor
open Go.RowKit Ae
set_option linter.unusedVariables false

/-- A text made whole to pieces of sixteen. -/
def Ae.padL (l : List Nat) : List Nat := l ++ List.replicate ((16 - l.length % 16) % 16) 0
def GivesPad (w : World) (v : Value) (l : List Nat) : Ending → World → Prop := fun e w' =>
  ∃ v', e = .returned v' ∧ w'.ownsRow 0 5 1 v' l.length (bl l) ∧ w.grownBy w' v.ownBlock ∧ (v'.ownBlock = v.ownBlock ∨ v'.ownBlock = some w.heap.size)
set_option maxHeartbeats 800000 in
set_option maxRecDepth 100000 in
theorem pad_any (v : Value) (l : List Nat) (w : World) (h : w.ownsRow 0 5 1 v l.length (bl l)) (hl : l.length ≤ 200000000) :
    Calls Tryd.prog 20 #[v] w (GivesPad w v (padL l)) := by
  obtain ⟨r, hr⟩ : ∃ r, r = l.length % 16 := ⟨_, rfl⟩
  obtain ⟨s, hs⟩ : ∃ s, s = 16 - r := ⟨_, rfl⟩
  obtain ⟨k, hk⟩ : ∃ k, k = s % 16 := ⟨_, rfl⟩
  have hP : padL l = l ++ List.replicate k 0 := by rw [hk, hs, hr]; rfl
  have h1 : (l.length : Int) % 16 = (r : Int) := by omega
  have h2 : (16 : Int) - (r : Int) = (s : Int) := by omega
  have h3 : (s : Int) % 16 = (k : Int) := by omega
  have hk16 : k ≤ 16 := by omega
  obtain ⟨v', w', hrun, hown, hg, hob⟩ := append_zeros w 26 v l.length (bl l) h k hk16 hl
  have HV : GivesPad w v (padL l) (.returned v') w' := ⟨v', rfl, by rw [hP, bl_append, List.length_append, List.length_replicate]; exact hown, hg, hob⟩
  have HP := Lib.hid HV
  clear HV hown hg hob hP hr hs hk
  obtain ⟨A, cap, rfl⟩ : ∃ A cap, v = .slice A l.length cap := by
    rcases h.2 with ⟨rfl, h0⟩ | ⟨g, cap, cur, rfl, _⟩
    · exact ⟨none, 0, by rw [h0]⟩
    · exact ⟨_, _, rfl⟩
  have HR := Lib.hid hrun
  clear h hrun
  go_enter Tryd.func20, Tryd.ntmps20
  go_wp2_with (at_builtin; (refine Lib.wpList_append_run _ rfl _ _ 26 3 rfl (.slice A l.length cap) (.int .i64 (k : Int)) rfl (congrArg (Value.int .i64) h3) v' w' HR.out ?_))
  go_ret
  exact HP.out
end Go.Proofs.YtebmbapaedlmiaaDoor
