/-
  Package slices: Replace at ranges, in the middle (the row grows).
-/
import Derived.Test.YtlkbfacdaelbfaaRaI3
namespace Go.Proofs.Ytlkbfacdaelbfaa
open Go.RowKit
set_option linter.unusedVariables false

set_option maxHeartbeats 8000000 in
set_option maxRecDepth 100000 in
theorem replace_grow (g n cap i j : Nat) (L V : List Ra.Row) (u : Value) (w : World) (R : List Value) (hr : RowAt w g cap (flat L ++ R)) (hnl : L.length = n) (hij : i < j) (hj : j < n) (hnc : n ≤ cap) (hu : w.ownsRow 0 33 2 u V.length (flat V)) (hn : n + V.length ≤ 4000000) (hroom : cap < i + V.length + (n - j)) :
    Calls Try.prog 75 #[.slice (some ⟨g, 0, none⟩) n cap, .int .i64 (i : Int), .int .i64 (j : Int), u] w (GivesRow w (.slice (some ⟨g, 0, none⟩) n cap) (L.take i ++ V ++ L.drop j)) := by
  obtain ⟨gu, cu, Ru, rfl, hru, hmc⟩ := own_rowAt hu (by omega)
  obtain ⟨m, hmm⟩ : ∃ n, n = V.length := ⟨_, rfl⟩
  obtain ⟨s, hs⟩ : ∃ t, t = i + m := ⟨_, rfl⟩
  obtain ⟨q, hq⟩ : ∃ t, t = n - j := ⟨_, rfl⟩
  have HRUN := Lib.hid (fun k : Nat => grow_runs g n cap i j m s q (s + q) gu cu L V (w.drewN k) R Ru (hr.drewN k) hnl hij hj hnc (hru.drewN k) hmm hs hq rfl (by omega) hn)
  obtain ⟨K, hK⟩ : ∃ K, K = L.take i ++ V ++ L.drop j := ⟨_, rfl⟩
  rw [← hK] at HRUN ⊢
  rw [← hmm]
  have f1 : ¬ ((i : Int) = (j : Int)) := by omega
  have f2 : ¬ ((j : Int) = (n : Int)) := by omega
  have f3 : n - j = q := hq.symm
  have f5 : (i : Int) + (m : Int) = (s : Int) := by omega
  have f6 : ¬ (cap = i) := by omega
  have f7 : ¬ (cap = j) := by omega
  have f8 : i ≤ n := by omega
  have f9 : j ≤ n := by omega
  have f10 : (j : Int) ≤ (n : Int) := by omega
  have f11 : (i : Int) ≤ (n : Int) := by omega
  have f12 : (i : Int) ≤ (j : Int) := by omega
  have g2 : (cap : Int) < ((s : Int) + (q : Int)) := by omega
  have g6 : i ≤ s + q := by omega
  have g7 : s ≤ s + q := by omega
  have g11 : (s : Int) ≤ (s : Int) + (q : Int) := by omega
  have g12 : (i : Int) ≤ (s : Int) + (q : Int) := by omega
  have g8 : (s : Int) ≤ 8000000 := by omega
  have g9 : ((s : Int) + (q : Int)) ≤ 8000000 := by omega
  have g10 : IntKind.i64.wrap (s : Int) = (s : Int) := by rw [IntKind.wrap_i64]; omega
  obtain ⟨z, hz⟩ : ∃ z, z = s + q - i := ⟨_, rfl⟩
  have g13 : (s : Int) + (q : Int) - (i : Int) = (z : Int) := by omega
  have g14 : (z : Int) ≤ 8000000 := by omega
  have Hiz := Lib.hid (show s + q - i = z from hz.symm)
  have g20 : s < s + q := by omega
  have g21 : i < s + q := by omega
  clear hr hu hmm hnl hq hs hn hK hru hmc hroom hz
  go_enter Try.func75, Try.ntmps75
  go_upto_region 9 with fail
  go_quiet (fail)
  obtain ⟨g2, cap2, w1, w2, w3, -, hc2, hap, hcp1, hcp2, hG⟩ := HRUN.out nq
  have HF := Lib.hid hG.drewN
  rw [Hiz.out] at hap
  have HAP := Lib.hid hap
  have k1 : ¬ (cap2 = i) := by omega
  have k2 : ¬ (cap2 = s) := by omega
  rw [Nat.add_sub_cancel_left] at hcp2
  clear hG HRUN hap
  go_upto_region 13 with (first
    | (at_builtin; refine Lib.wpList_append_run _ rfl _ _ 30 3 rfl (.slice (some ⟨g, 0, none⟩) i cap) (.int .i64 (z : Int)) rfl rfl (.slice (some ⟨g2, 0, none⟩) (s + q) cap2) w1 HAP.out ?_)
    | (at_builtin; refine wpList_copy_run _ rfl _ _ 30 30 rfl _ _ rfl rfl (hcp1 _ _) ?_))
  go_region_law (refine step_copy_run rfl _ _ 30 30 rfl _ _ (by simp [Act.eval, Act.put]) (by simp [Act.eval, Act.put]) (hcp2 _ _ _) ?_)
  go_wp2_with fail
  go_ret
  exact HF.out
end Go.Proofs.Ytlkbfacdaelbfaa
