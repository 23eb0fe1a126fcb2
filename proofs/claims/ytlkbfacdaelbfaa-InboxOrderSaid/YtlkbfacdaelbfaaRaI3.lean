/-
  Package slices: Replace at ranges, in the middle (the row is longer).
-/
import Derived.Test.YtlkbfacdaelbfaaRaI2
namespace Go.Proofs.Ytlkbfacdaelbfaa
open Go.RowKit
set_option linter.unusedVariables false

set_option maxHeartbeats 8000000 in
set_option maxRecDepth 100000 in
theorem replace_long (g n cap i j : Nat) (L V : List Ra.Row) (u : Value) (w : World) (R : List Value) (hr : RowAt w g cap (flat L ++ R)) (hnl : L.length = n) (hij : i < j) (hj : j < n) (hnc : n ≤ cap) (hu : w.ownsRow 0 33 2 u V.length (flat V)) (hn : n + V.length ≤ 4000000) (hne : u.ownBlock ≠ some g) (hmj : j < i + V.length) (hroom : i + V.length + (n - j) ≤ cap) :
    Calls Try.prog 75 #[.slice (some ⟨g, 0, none⟩) n cap, .int .i64 (i : Int), .int .i64 (j : Int), u] w (GivesRow w (.slice (some ⟨g, 0, none⟩) n cap) (L.take i ++ V ++ L.drop j)) := by
  obtain ⟨gu, cu, Ru, rfl, hru, hmc⟩ := own_rowAt hu (by omega)
  obtain ⟨m, hmm⟩ : ∃ n, n = V.length := ⟨_, rfl⟩
  obtain ⟨s, hs⟩ : ∃ t, t = i + m := ⟨_, rfl⟩
  obtain ⟨q, hq⟩ : ∃ t, t = n - j := ⟨_, rfl⟩
  have hgu : gu ≠ g := fun e => hne (by rw [e]; rfl)
  have HRUN := Lib.hid (fun k : Nat => long_runs g n cap i j m s q (s + q) gu cu L V (w.drewN k) R Ru (hr.drewN k) hnl hij hj hnc (hru.drewN k) hgu hmm (by omega) hs hq rfl (by omega))
  obtain ⟨K, hK⟩ : ∃ K, K = L.take i ++ V ++ L.drop j := ⟨_, rfl⟩
  rw [← hK] at HRUN ⊢
  rw [← hmm]
  have f1 : ¬ ((i : Int) = (j : Int)) := by omega
  have f2 : ¬ ((j : Int) = (n : Int)) := by omega
  have f3 : n - j = q := hq.symm
  have f5 : (i : Int) + (m : Int) = (s : Int) := by omega
  have f6 : ¬ (cap = i) := by omega
  have f7 : ¬ (cap = j) := by omega
  have f8 : i ≤ n := by omega
  have f9 : j ≤ n := by omega
  have f10 : (j : Int) ≤ (n : Int) := by omega
  have f11 : (i : Int) ≤ (n : Int) := by omega
  have f12 : (i : Int) ≤ (j : Int) := by omega
  have g1 : ¬ ((s : Int) ≤ (j : Int)) := by omega
  have g2 : ¬ ((cap : Int) < ((s : Int) + (q : Int))) := by omega
  have g3 : s + q ≤ cap := by omega
  have g5 : ¬ (cap = s) := by omega
  have g6 : i ≤ s + q := by omega
  have g7 : s ≤ s + q := by omega
  have g11 : (s : Int) ≤ (s : Int) + (q : Int) := by omega
  have g12 : (i : Int) ≤ (s : Int) + (q : Int) := by omega
  have g14 : (s : Int) + (q : Int) ≤ (cap : Int) := by omega
  have g8 : (s : Int) ≤ 8000000 := by omega
  have g9 : ((s : Int) + (q : Int)) ≤ 8000000 := by omega
  have g10 : IntKind.i64.wrap (s : Int) = (s : Int) := by rw [IntKind.wrap_i64]; omega
  clear hr hu hmm hnl hmj hq hs hn hK hru hmc hgu hne hroom
  go_enter Try.func75, Try.ntmps75
  go_upto_region 9 with fail
  go_quiet (fail)
  obtain ⟨w1, w2, hov, hcp1, hcp2, hG⟩ := HRUN.out nq
  have HF := Lib.hid hG.drewN
  rw [Nat.add_sub_cancel_left, show (w.drewN nq).drew = w.drewN (nq + 1) from rfl] at hcp1
  clear hG HRUN
  go_upto_region 22 with (simp only [hov])
  go_region_law (refine step_copy_run rfl _ _ 30 30 rfl _ _ (by simp [Act.eval, Act.put]) (by simp [Act.eval, Act.put]) (hcp1 _ _ _) ?_)
  go_wp2_with (at_builtin; refine wpList_copy_run _ rfl _ _ 30 30 rfl _ _ rfl rfl (hcp2 _ _) ?_)
  go_ret
  exact HF.out
end Go.Proofs.Ytlkbfacdaelbfaa
