/-
  Package slices: Replace at ranges, in the middle (the walks).
-/
import Derived.Test.YtlkbfacdaelbfaaRaI
namespace Go.Proofs.Ytlkbfacdaelbfaa
open Go.RowKit
set_option linter.unusedVariables false

theorem RowAt.drewN {w : World} {g cap : Nat} {cur : List Value} (h : RowAt w g cap cur) (k : Nat) : RowAt (w.drewN k) g cap cur := ⟨h.blk, h.size, h.max⟩
theorem ownsRow_drewN {w : World} {b : Nat} {e : TypeId} {s : Nat} {v : Value} {n : Nat} {xs : List Value} (h : w.ownsRow b e s v n xs) (k : Nat) : (w.drewN k).ownsRow b e s v n xs := ⟨h.1, h.2⟩
theorem GivesRow.drewN {w : World} {k : Nat} {v : Value} {L : List Ra.Row} {e : Ending} {w' : World} (h : GivesRow (w.drewN k) v L e w') : GivesRow w v L e w' := by
  obtain ⟨v', h1, h2, h3, h4⟩ := h
  exact ⟨v', h1, h2, ((Chg.refl _ w).drewN k).trans h3 (fun i hi hs => hs), h4⟩
set_option maxHeartbeats 8000000 in
set_option maxRecDepth 100000 in
theorem replace_short (g n cap i j : Nat) (L V : List Ra.Row) (u : Value) (w : World) (R : List Value) (hr : RowAt w g cap (flat L ++ R)) (hnl : L.length = n) (hij : i < j) (hj : j < n) (hnc : n ≤ cap) (hu : w.ownsRow 0 33 2 u V.length (flat V)) (hn : n + V.length ≤ 4000000) (hmj : i + V.length ≤ j) :
    Calls Try.prog 75 #[.slice (some ⟨g, 0, none⟩) n cap, .int .i64 (i : Int), .int .i64 (j : Int), u] w (GivesRow w (.slice (some ⟨g, 0, none⟩) n cap) (L.take i ++ V ++ L.drop j)) := by
  obtain ⟨m, hmm⟩ : ∃ n, n = V.length := ⟨_, rfl⟩
  obtain ⟨s, hs⟩ : ∃ t, t = i + m := ⟨_, rfl⟩
  obtain ⟨q, hq⟩ : ∃ t, t = n - j := ⟨_, rfl⟩
  obtain ⟨A2, cu, rfl⟩ := ownR_shape hu
  rw [← hmm] at hu
  have HRUN := Lib.hid (fun k : Nat => short_runs g n cap i j m s q (s + q) L V A2 cu (w.drewN k) R (hr.drewN k) hnl hij hj hnc (by rw [← hmm]; exact ownsRow_drewN hu k) hmm (by omega) hs hq rfl)
  obtain ⟨K, hK⟩ : ∃ K, K = L.take i ++ V ++ L.drop j := ⟨_, rfl⟩
  rw [← hK] at HRUN ⊢
  have f1 : ¬ ((i : Int) = (j : Int)) := by omega
  have f2 : ¬ ((j : Int) = (n : Int)) := by omega
  have f3 : n - j = q := hq.symm
  have f5 : (i : Int) + (m : Int) = (s : Int) := by omega
  have f6 : ¬ (cap = i) := by omega
  have f7 : ¬ (cap = j) := by omega
  have f8 : i ≤ n := by omega
  have f9 : j ≤ n := by omega
  have f10 : (j : Int) ≤ (n : Int) := by omega
  have f11 : (i : Int) ≤ (n : Int) := by omega
  have f12 : (i : Int) ≤ (j : Int) := by omega
  rw [← hmm]
  have g1 : (s : Int) ≤ (j : Int) := by omega
  have g2 : ¬ ((cap : Int) < ((s : Int) + (q : Int))) := by omega
  have g3 : s + q ≤ cap := by omega
  have g4 : s + q ≤ n := by omega
  have g5 : ¬ (cap = s) := by omega
  have g6 : i ≤ s + q := by omega
  have g7 : s ≤ s + q := by omega
  have g11 : (s : Int) ≤ (s : Int) + (q : Int) := by omega
  have g12 : (i : Int) ≤ (s : Int) + (q : Int) := by omega
  have g13 : (s : Int) + (q : Int) ≤ (n : Int) := by omega
  have g14 : (s : Int) + (q : Int) ≤ (cap : Int) := by omega
  have g8 : (s : Int) ≤ 8000000 := by omega
  have g9 : ((s : Int) + (q : Int)) ≤ 8000000 := by omega
  have g10 : IntKind.i64.wrap (s : Int) = (s : Int) := by rw [IntKind.wrap_i64]; omega
  clear hK hr hu hmm hnl hmj hq hs hn
  go_enter Try.func75, Try.ntmps75
  go_upto_region 9 with fail
  go_quiet (fail)
  obtain ⟨w1, w2, w3, hcp1, hcp2, hcl, hG⟩ := HRUN.out nq
  have HF := Lib.hid hG.drewN
  have HCL := Lib.hid hcl
  rw [Nat.add_sub_cancel_left] at hcp2
  clear hcl hG HRUN
  go_upto_region 18 with (first
    | (at_builtin; refine wpList_copy_run _ rfl _ _ 30 30 rfl _ _ rfl rfl (hcp1 _ _) ?_))
  go_region_law (refine step_copy_run rfl _ _ 30 30 rfl _ _ (by simp [Act.eval, Act.put]) (by simp [Act.eval, Act.put]) (hcp2 _ _ _) ?_)
  rcases (by omega : cap = s + q ∨ s + q < cap) with hA | hA
  · obtain rfl : n = s + q := by omega
    subst hA
    have hcl : ∀ ty (dp : Option Addr) dc, (Builtin.clear_ #[30] ty #[.slice dp 0 dc]).run Try.prog w2 = .ok (.tuple #[]) w3 := fun ty dp dc => by
      have := HCL.out ty dp dc (.inr (by omega))
      rw [Nat.sub_self] at this
      exact this
    clear HCL hcp1 hcp2
    go_wp2_with fail
    go_ret
    exact HF.out
  · have hB : ¬ (cap = s + q) := by omega
    have hcl : ∀ ty dc, (Builtin.clear_ #[30] ty #[.slice (some ⟨g, (s + q) * 2, none⟩) (n - (s + q)) dc]).run Try.prog w2 = .ok (.tuple #[]) w3 := fun ty dc => HCL.out ty _ dc (.inl rfl)
    clear HCL hcp1 hcp2
    go_wp2_with fail
    go_ret
    exact HF.out
end Go.Proofs.Ytlkbfacdaelbfaa
