/-
  Package slices: Replace at ranges, in the middle (what copy and clear leave behind).
-/
import Derived.Test.YtlkbfacdaelbfaaRaH
namespace Go.Proofs.Ytlkbfacdaelbfaa
open Go.RowKit
set_option linter.unusedVariables false

/-- .. the later part moved first. -/
theorem splice_back {α : Type} (X Z V Y : List α) (a c : Nat) (ha : X.length = a) (hc : V.length = c) (hz : c + Y.length ≤ Z.length) :
    splice (splice (X ++ Z) (a + c) Y) a V = X ++ V ++ Y ++ Z.drop (c + Y.length) := by
  subst ha hc
  have h1 : splice (X ++ Z) (X.length + V.length) Y = X ++ (Z.take V.length ++ (Y ++ Z.drop (V.length + Y.length))) := by
    unfold splice
    rw [show X.length + V.length + Y.length = X.length + (V.length + Y.length) by omega, ← List.drop_drop, List.drop_left, List.take_append, List.take_of_length_le (by omega : X.length ≤ X.length + V.length), Nat.add_sub_cancel_left, List.append_assoc]
  rw [h1]
  unfold splice
  have hl : (Z.take V.length).length = V.length := by rw [List.length_take]; omega
  have t2 : (Z.take V.length ++ (Y ++ Z.drop (V.length + Y.length))).drop V.length = Y ++ Z.drop (V.length + Y.length) := by
    have := List.drop_left (l₁ := Z.take V.length) (l₂ := Y ++ Z.drop (V.length + Y.length))
    rw [hl] at this
    exact this
  rw [List.take_left, ← List.drop_drop, List.drop_left, t2]
  simp
set_option maxHeartbeats 2000000 in
set_option maxRecDepth 100000 in
theorem short_runs (g n cap i j m s q tot : Nat) (L V : List Ra.Row) (A2 : Option Addr) (cu : Nat) (w : World) (R : List Value) (hr : RowAt w g cap (flat L ++ R)) (hnl : L.length = n) (hij : i < j) (hj : j < n) (hnc : n ≤ cap) (hu : w.ownsRow 0 33 2 (.slice A2 m cu) V.length (flat V)) (hmm : m = V.length) (hmj : i + m ≤ j) (hs : s = i + m) (hq : q = n - j) (htot : tot = s + q) :
    ∃ w1 w2 w3 : World, (∀ ty dc, (Builtin.copy_ #[30, 30] ty #[.slice (some ⟨g, i * 2, none⟩) (tot - i) dc, .slice A2 m cu]).run Try.prog w = .ok (goInt (m : Int)) w1) ∧
      (∀ ty dc sc, (Builtin.copy_ #[30, 30] ty #[.slice (some ⟨g, s * 2, none⟩) (tot - s) dc, .slice (some ⟨g, j * 2, none⟩) q sc]).run Try.prog w1.drew = .ok (goInt (q : Int)) w2) ∧
      (∀ ty (dp : Option Addr) dc, (dp = some ⟨g, tot * 2, none⟩ ∨ n - tot = 0) → (Builtin.clear_ #[30] ty #[.slice dp (n - tot) dc]).run Try.prog w2 = .ok (.tuple #[]) w3) ∧
      GivesRow w (.slice (some ⟨g, 0, none⟩) n cap) (L.take i ++ V ++ L.drop j) (.returned (.slice (some ⟨g, 0, none⟩) tot cap)) w3 := by
  have hfl := flat_len L
  have hfv := flat_len V
  have hsz := hr.size
  rw [List.length_append] at hsz
  obtain ⟨X, hX⟩ : ∃ X, X = flat (L.take i) := ⟨_, rfl⟩
  obtain ⟨B, hB⟩ : ∃ X, X = flat ((L.drop i).take (j - i)) := ⟨_, rfl⟩
  obtain ⟨Y, hY⟩ : ∃ X, X = flat (L.drop j) := ⟨_, rfl⟩
  obtain ⟨W, hW⟩ : ∃ X, X = flat V := ⟨_, rfl⟩
  have hXl : X.length = i * 2 := by rw [hX, flat_len, List.length_take]; omega
  have hBl : B.length = (j - i) * 2 := by rw [hB, flat_len, List.length_take, List.length_drop]; omega
  have hYl : Y.length = q * 2 := by rw [hY, flat_len, List.length_drop]; omega
  have hWl : W.length = m * 2 := by rw [hW, hfv, hmm]
  have hXY : flat L = X ++ B ++ Y := by rw [hX, hB, hY, ← flat_append, ← flat_append, ← Ra.cut3 L (by omega)]
  have hY1 : ∀ v ∈ Y, v.oneCell' = true := by rw [hY]; exact flat_one' _
  have hW1 : ∀ v ∈ W, v.oneCell' = true := by rw [hW]; exact flat_one' _
  rw [hXY, List.append_assoc, List.append_assoc] at hr
  obtain ⟨Z, hZ⟩ : ∃ Z, Z = B ++ (Y ++ R) := ⟨_, rfl⟩
  rw [← hZ] at hr
  have hZl : Z.length = cap * 2 - i * 2 := by have := hr.size; rw [List.length_append] at this; omega
  have hlen : (L.take i ++ V ++ L.drop j).length = tot := by simp only [List.length_append, List.length_take, List.length_drop]; omega
  have hflat : flat (L.take i ++ V ++ L.drop j) = X ++ W ++ Y := by rw [flat_append, flat_append, ← hX, ← hW, ← hY]
  have hxl : (X ++ W ++ Y).length = tot * 2 := by simp only [List.length_append]; omega
  have hZj : ∀ (t : Nat) v, Y[t]? = some v → (X ++ Z)[j * 2 + t]? = some v := fun t v ht => by
    have hlt := (List.getElem?_eq_some_iff.1 ht).1
    rw [hZ, List.getElem?_append_right (by omega), List.getElem?_append_right (by omega), List.getElem?_append_left (by omega), show j * 2 + t - X.length - B.length = t by omega]
    exact ht
  obtain ⟨C1, hC1⟩ : ∃ C, C = splice (X ++ Z) (i * 2) W := ⟨_, rfl⟩
  have hC1l : C1.length = cap * 2 := by rw [hC1, length_splice _ _ _ (by rw [List.length_append]; omega)]; exact hr.size
  have hC1e : C1 = X ++ W ++ Z.drop (m * 2) := by
    rw [hC1]
    unfold splice
    rw [← hXl, List.take_left, ← List.drop_drop, List.drop_left, hWl]
    simp
  obtain ⟨w1, hw1⟩ : ∃ w1, w1 = w.setRow g C1.toArray := ⟨_, rfl⟩
  have hr1 : RowAt w1 g cap C1 := by rw [hw1]; exact hr.set (by rw [hC1l]; exact hr.size.symm)
  have hcp1 : ∀ ty dc, (Builtin.copy_ #[30, 30] ty #[.slice (some ⟨g, i * 2, none⟩) (tot - i) dc, .slice A2 m cu]).run Try.prog w = .ok (goInt (m : Int)) w1 := fun ty dc => by
    by_cases hm0 : m = 0
    · have hW0 : W = [] := List.eq_nil_of_length_eq_zero (by omega)
      have e : C1 = X ++ Z := by rw [hC1e, hW0, hm0]; simp
      rw [hw1, e, setRow_self w g _ _ (0, 0) hr.blk, hm0]
      exact run_copy2_none w ty _ _ dc A2 cu
    · obtain ⟨gu, cu2, Ru, hueq, hru, hmc⟩ := own_rowAt hu (by omega)
      rw [← hmm] at hueq
      simp only [Value.slice.injEq, true_and] at hueq
      obtain ⟨rfl, rfl⟩ := hueq
      rw [hw1, hC1]
      exact run_copy2 w ty g (i * 2) (tot - i) dc ⟨gu, 0, none⟩ m cu m W (X ++ Z) _ hr.blk (by simp only [Nat.min_def]; split <;> omega) hWl (fun t v ht => by
        rw [addr_add, Nat.zero_add]
        refine hru.cell ?_
        rw [List.getElem?_append_left (by rw [hfv]; have := (List.getElem?_eq_some_iff.1 ht).1; omega), ← hW]
        exact ht) (by rw [List.length_append]; omega) hW1
  obtain ⟨C2, hC2⟩ : ∃ C, C = splice C1 (s * 2) Y := ⟨_, rfl⟩
  have hC2l : C2.length = cap * 2 := by rw [hC2, length_splice _ _ _ (by omega)]; exact hC1l
  have hC2e : C2 = X ++ W ++ Y ++ Z.drop (m * 2 + Y.length) := by
    rw [hC2, hC1, show s * 2 = i * 2 + m * 2 by omega]
    exact splice_two X Z W Y (i * 2) (m * 2) hXl hWl (by omega)
  obtain ⟨w2, hw2⟩ : ∃ w2, w2 = w1.drew.setRow g C2.toArray := ⟨_, rfl⟩
  have hr2 : RowAt w2 g cap C2 := by rw [hw2]; exact hr1.drew.set (by rw [hC2l, hC1l])
  have hcp2 : ∀ ty dc sc, (Builtin.copy_ #[30, 30] ty #[.slice (some ⟨g, s * 2, none⟩) (tot - s) dc, .slice (some ⟨g, j * 2, none⟩) q sc]).run Try.prog w1.drew = .ok (goInt (q : Int)) w2 := fun ty dc sc => by
    rw [hw2, hC2]
    exact run_copy2 w1.drew ty g (s * 2) (tot - s) dc ⟨g, j * 2, none⟩ q sc q Y C1 _ hr1.drew.blk (by simp only [Nat.min_def]; split <;> omega) hYl (fun t v ht => by
      rw [addr_add]
      refine hr1.drew.cell ?_
      have hlt := (List.getElem?_eq_some_iff.1 ht).1
      have hz := hZj t v ht
      rw [List.getElem?_append_right (by omega)] at hz
      rw [hC1e, List.getElem?_append_right (by rw [List.length_append]; omega), List.getElem?_drop, List.length_append]
      rw [show m * 2 + (j * 2 + t - (X.length + W.length)) = j * 2 + t - X.length by omega]
      exact hz) (by omega) hY1
  obtain ⟨C3, hC3⟩ : ∃ C, C = splice C2 (tot * 2) (List.replicate ((n - tot) * 2) (Value.int .i64 0)) := ⟨_, rfl⟩
  have hC3l : C3.length = cap * 2 := by rw [hC3, length_splice _ _ _ (by rw [List.length_replicate]; omega)]; exact hC2l
  obtain ⟨w3, hw3⟩ : ∃ w3, w3 = w2.setRow g C3.toArray := ⟨_, rfl⟩
  have hr3 : RowAt w3 g cap C3 := by rw [hw3]; exact hr2.set (by rw [hC3l, hC2l])
  have hcl : ∀ ty (dp : Option Addr) dc, (dp = some ⟨g, tot * 2, none⟩ ∨ n - tot = 0) → (Builtin.clear_ #[30] ty #[.slice dp (n - tot) dc]).run Try.prog w2 = .ok (.tuple #[]) w3 := fun ty dp dc hd => by
    rcases hd with rfl | hd
    · rw [hw3, hC3]
      exact run_clear2 w2 ty g (tot * 2) (n - tot) dc C2 _ hr2.blk (by omega)
    · have e : C3 = C2 := by rw [hC3, hd]; simp [splice]
      rw [hw3, e, setRow_self w2 g _ _ (0, 0) hr2.blk, hd]
      have hu' := undR
      cases dp <;> simp [Builtin.clear_, run_underlying hu']
  refine ⟨w1, w2, w3, hcp1, hcp2, hcl, (show GivesRow w (.slice (some ⟨g, 0, none⟩) n cap) (L.take i ++ V ++ L.drop j) (.returned (.slice (some ⟨g, 0, none⟩) tot cap)) w3 from ⟨_, rfl, by
    rw [hlen, hflat]
    refine hr3.own (by omega) hxl ?_
    rw [hC3]
    unfold splice
    rw [List.take_append_of_le_length (by rw [List.length_take]; omega), List.take_take, Nat.min_self, hC2e]
    exact take_mid X W Y _ _ hxl, by
    rw [hw3, hw2, hw1]
    exact ((((Chg.refl (fun b => (Value.slice (some ⟨g, 0, none⟩) n cap).ownBlock = some b) w).putRow (b := g) (.inl rfl)).drew).putRow (b := g) (.inl rfl)).putRow (b := g) (.inl rfl), fun b hb => .inl hb⟩)⟩
set_option maxHeartbeats 2000000 in
set_option maxRecDepth 100000 in
theorem long_runs (g n cap i j m s q tot gu cu : Nat) (L V : List Ra.Row) (w : World) (R Ru : List Value) (hr : RowAt w g cap (flat L ++ R)) (hnl : L.length = n) (hij : i < j) (hj : j < n) (hnc : n ≤ cap) (hru : RowAt w gu cu (flat V ++ Ru)) (hgu : gu ≠ g) (hmm : m = V.length) (hmj : j < i + m) (hs : s = i + m) (hq : q = n - j) (htot : tot = s + q) (hroom : tot ≤ cap) :
    ∃ w1 w2 : World, (∀ o1 l1 c1, (callFunc 93 #[.slice (some ⟨g, o1, none⟩) l1 c1, .slice (some ⟨gu, 0, none⟩) m cu]).run Try.prog w = .ok (.value (.bool false)) w) ∧
      (∀ ty dc sc, (Builtin.copy_ #[30, 30] ty #[.slice (some ⟨g, s * 2, none⟩) (tot - s) dc, .slice (some ⟨g, j * 2, none⟩) q sc]).run Try.prog w.drew = .ok (goInt (q : Int)) w1) ∧
      (∀ ty dc, (Builtin.copy_ #[30, 30] ty #[.slice (some ⟨g, i * 2, none⟩) (tot - i) dc, .slice (some ⟨gu, 0, none⟩) m cu]).run Try.prog w1 = .ok (goInt (m : Int)) w2) ∧
      GivesRow w (.slice (some ⟨g, 0, none⟩) n cap) (L.take i ++ V ++ L.drop j) (.returned (.slice (some ⟨g, 0, none⟩) tot cap)) w2 := by
  have hfl := flat_len L
  have hfv := flat_len V
  have hsz := hr.size
  rw [List.length_append] at hsz
  obtain ⟨X, hX⟩ : ∃ X, X = flat (L.take i) := ⟨_, rfl⟩
  obtain ⟨B, hB⟩ : ∃ X, X = flat ((L.drop i).take (j - i)) := ⟨_, rfl⟩
  obtain ⟨Y, hY⟩ : ∃ X, X = flat (L.drop j) := ⟨_, rfl⟩
  obtain ⟨W, hW⟩ : ∃ X, X = flat V := ⟨_, rfl⟩
  have hXl : X.length = i * 2 := by rw [hX, flat_len, List.length_take]; omega
  have hBl : B.length = (j - i) * 2 := by rw [hB, flat_len, List.length_take, List.length_drop]; omega
  have hYl : Y.length = q * 2 := by rw [hY, flat_len, List.length_drop]; omega
  have hWl : W.length = m * 2 := by rw [hW, hfv, hmm]
  have hXY : flat L = X ++ B ++ Y := by rw [hX, hB, hY, ← flat_append, ← flat_append, ← Ra.cut3 L (by omega)]
  have hY1 : ∀ v ∈ Y, v.oneCell' = true := by rw [hY]; exact flat_one' _
  have hW1 : ∀ v ∈ W, v.oneCell' = true := by rw [hW]; exact flat_one' _
  rw [hXY, List.append_assoc, List.append_assoc] at hr
  rw [← hW] at hru
  have hap : ∀ o1 l1 c1, (callFunc 93 #[.slice (some ⟨g, o1, none⟩) l1 c1, .slice (some ⟨gu, 0, none⟩) m cu]).run Try.prog w = .ok (.value (.bool false)) w := fun o1 l1 c1 =>
    run_apart w g o1 l1 c1 gu 0 m cu _ _ (fun e => hgu e.symm) hr.blk hru.blk (by rw [List.length_append]; omega)
  obtain ⟨Z, hZ⟩ : ∃ Z, Z = B ++ (Y ++ R) := ⟨_, rfl⟩
  rw [← hZ] at hr
  have hZl : Z.length = cap * 2 - i * 2 := by have := hr.size; rw [List.length_append] at this; omega
  have hlen : (L.take i ++ V ++ L.drop j).length = tot := by simp only [List.length_append, List.length_take, List.length_drop]; omega
  have hflat : flat (L.take i ++ V ++ L.drop j) = X ++ W ++ Y := by rw [flat_append, flat_append, ← hX, ← hW, ← hY]
  have hxl : (X ++ W ++ Y).length = tot * 2 := by simp only [List.length_append]; omega
  have hZj : ∀ (t : Nat) v, Y[t]? = some v → (X ++ Z)[j * 2 + t]? = some v := fun t v ht => by
    have hlt := (List.getElem?_eq_some_iff.1 ht).1
    rw [hZ, List.getElem?_append_right (by omega), List.getElem?_append_right (by omega), List.getElem?_append_left (by omega), show j * 2 + t - X.length - B.length = t by omega]
    exact ht
  obtain ⟨C1, hC1⟩ : ∃ C, C = splice (X ++ Z) (s * 2) Y := ⟨_, rfl⟩
  have hC1l : C1.length = cap * 2 := by rw [hC1, length_splice _ _ _ (by rw [List.length_append]; omega)]; exact hr.size
  obtain ⟨w1, hw1⟩ : ∃ w1, w1 = w.drew.setRow g C1.toArray := ⟨_, rfl⟩
  have hr1 : RowAt w1 g cap C1 := by rw [hw1]; exact hr.drew.set (by rw [hC1l]; exact hr.size.symm)
  have hru1 : RowAt w1 gu cu (W ++ Ru) := by rw [hw1]; exact hru.drew.other hgu
  have hcp1 : ∀ ty dc sc, (Builtin.copy_ #[30, 30] ty #[.slice (some ⟨g, s * 2, none⟩) (tot - s) dc, .slice (some ⟨g, j * 2, none⟩) q sc]).run Try.prog w.drew = .ok (goInt (q : Int)) w1 := fun ty dc sc => by
    rw [hw1, hC1]
    exact run_copy2 w.drew ty g (s * 2) (tot - s) dc ⟨g, j * 2, none⟩ q sc q Y (X ++ Z) _ hr.drew.blk (by simp only [Nat.min_def]; split <;> omega) hYl (fun t v ht => by
      rw [addr_add]
      exact hr.drew.cell (hZj t v ht)) (by rw [List.length_append]; omega) hY1
  obtain ⟨C2, hC2⟩ : ∃ C, C = splice C1 (i * 2) W := ⟨_, rfl⟩
  have hC2l : C2.length = cap * 2 := by rw [hC2, length_splice _ _ _ (by omega)]; exact hC1l
  have hC2e : C2 = X ++ W ++ Y ++ Z.drop (m * 2 + Y.length) := by
    rw [hC2, hC1, show s * 2 = i * 2 + m * 2 by omega]
    exact splice_back X Z W Y (i * 2) (m * 2) hXl hWl (by omega)
  obtain ⟨w2, hw2⟩ : ∃ w2, w2 = w1.setRow g C2.toArray := ⟨_, rfl⟩
  have hr2 : RowAt w2 g cap C2 := by rw [hw2]; exact hr1.set (by rw [hC2l, hC1l])
  have hcp2 : ∀ ty dc, (Builtin.copy_ #[30, 30] ty #[.slice (some ⟨g, i * 2, none⟩) (tot - i) dc, .slice (some ⟨gu, 0, none⟩) m cu]).run Try.prog w1 = .ok (goInt (m : Int)) w2 := fun ty dc => by
    rw [hw2, hC2]
    exact run_copy2 w1 ty g (i * 2) (tot - i) dc ⟨gu, 0, none⟩ m cu m W C1 _ hr1.blk (by simp only [Nat.min_def]; split <;> omega) hWl (fun t v ht => by
      rw [addr_add, Nat.zero_add]
      refine hru1.cell ?_
      rw [List.getElem?_append_left (List.getElem?_eq_some_iff.1 ht).1]
      exact ht) (by omega) hW1
  refine ⟨w1, w2, hap, hcp1, hcp2, ⟨_, rfl, ?_, ?_, fun b hb => .inl hb⟩⟩
  · rw [hlen, hflat]
    exact hr2.own (by omega) hxl (by rw [hC2e]; exact take_mid X W Y _ _ hxl)
  · rw [hw2, hw1]
    exact (((Chg.refl (fun b => (Value.slice (some ⟨g, 0, none⟩) n cap).ownBlock = some b) w).drew).putRow (b := g) (.inl rfl)).putRow (b := g) (.inl rfl)
set_option maxHeartbeats 2000000 in
set_option maxRecDepth 100000 in
theorem grow_runs (g n cap i j m s q tot gu cu : Nat) (L V : List Ra.Row) (w : World) (R Ru : List Value) (hr : RowAt w g cap (flat L ++ R)) (hnl : L.length = n) (hij : i < j) (hj : j < n) (hnc : n ≤ cap) (hru : RowAt w gu cu (flat V ++ Ru)) (hmm : m = V.length) (hs : s = i + m) (hq : q = n - j) (htot : tot = s + q) (hroom : cap < tot) (hn : n + V.length ≤ 4000000) :
    ∃ (g2 cap2 : Nat) (w1 w2 w3 : World), g2 = w.heap.size ∧ tot ≤ cap2 ∧ (Builtin.append_ #[30, 3] 30 #[.slice (some ⟨g, 0, none⟩) i cap, .int .i64 ((tot - i : Nat) : Int)]).run Try.prog w = .ok (.slice (some ⟨g2, 0, none⟩) tot cap2) w1 ∧
      (∀ ty dc, (Builtin.copy_ #[30, 30] ty #[.slice (some ⟨g2, i * 2, none⟩) (tot - i) dc, .slice (some ⟨gu, 0, none⟩) m cu]).run Try.prog w1 = .ok (goInt (m : Int)) w2) ∧
      (∀ ty dc sc, (Builtin.copy_ #[30, 30] ty #[.slice (some ⟨g2, s * 2, none⟩) (tot - s) dc, .slice (some ⟨g, j * 2, none⟩) q sc]).run Try.prog w2.drew = .ok (goInt (q : Int)) w3) ∧
      GivesRow w (.slice (some ⟨g, 0, none⟩) n cap) (L.take i ++ V ++ L.drop j) (.returned (.slice (some ⟨g2, 0, none⟩) tot cap2)) w3 := by
  have hfl := flat_len L
  have hfv := flat_len V
  have hsz := hr.size
  rw [List.length_append] at hsz
  obtain ⟨X, hX⟩ : ∃ X, X = flat (L.take i) := ⟨_, rfl⟩
  obtain ⟨B, hB⟩ : ∃ X, X = flat ((L.drop i).take (j - i)) := ⟨_, rfl⟩
  obtain ⟨Y, hY⟩ : ∃ X, X = flat (L.drop j) := ⟨_, rfl⟩
  obtain ⟨W, hW⟩ : ∃ X, X = flat V := ⟨_, rfl⟩
  have hXl : X.length = i * 2 := by rw [hX, flat_len, List.length_take]; omega
  have hBl : B.length = (j - i) * 2 := by rw [hB, flat_len, List.length_take, List.length_drop]; omega
  have hYl : Y.length = q * 2 := by rw [hY, flat_len, List.length_drop]; omega
  have hWl : W.length = m * 2 := by rw [hW, hfv, hmm]
  have hXY : flat L = X ++ B ++ Y := by rw [hX, hB, hY, ← flat_append, ← flat_append, ← Ra.cut3 L (by omega)]
  have hY1 : ∀ v ∈ Y, v.oneCell' = true := by rw [hY]; exact flat_one' _
  have hW1 : ∀ v ∈ W, v.oneCell' = true := by rw [hW]; exact flat_one' _
  rw [hXY, List.append_assoc, List.append_assoc] at hr
  have hlen : (L.take i ++ V ++ L.drop j).length = tot := by simp only [List.length_append, List.length_take, List.length_drop]; omega
  have hflat : flat (L.take i ++ V ++ L.drop j) = X ++ W ++ Y := by rw [flat_append, flat_append, ← hX, ← hW, ← hY]
  have hxl : (X ++ W ++ Y).length = tot * 2 := by simp only [List.length_append]; omega
  have hYj : ∀ (t : Nat) v, Y[t]? = some v → (X ++ (B ++ (Y ++ R)))[j * 2 + t]? = some v := fun t v ht => by
    have hlt := (List.getElem?_eq_some_iff.1 ht).1
    rw [List.getElem?_append_right (by omega), List.getElem?_append_right (by omega), List.getElem?_append_left (by omega), show j * 2 + t - X.length - B.length = t by omega]
    exact ht
  obtain ⟨k, hk⟩ : ∃ k, k = tot - i := ⟨_, rfl⟩
  obtain ⟨cap2, Z, w1, hrun1, hr1, hc2, hC1⟩ := grow_zeros2 w 30 g cap i k (X ++ (B ++ (Y ++ R))) X hr (by rw [← hXl, List.take_left]) hXl (by omega) (by omega) (by omega)
  have hik : i + k = tot := by omega
  rw [hik] at hrun1 hc2
  have hZl : Z.length = cap2 * 2 - i * 2 := by have := hr1.size; rw [List.length_append] at this; omega
  have hg2 : g ≠ w.heap.size := by have := lt_blk hr.blk; omega
  have hgu2 : gu ≠ w.heap.size := by have := lt_blk hru.blk; omega
  obtain ⟨g2, hg2e⟩ : ∃ g2, g2 = w.heap.size := ⟨_, rfl⟩
  rw [← hg2e] at hrun1 hr1 hg2 hgu2
  have hg1 : RowAt w1 g cap (X ++ (B ++ (Y ++ R))) := ⟨hC1.same hr.blk, hr.size, hr.max⟩
  have hru1 : RowAt w1 gu cu (W ++ Ru) := by rw [hW]; exact ⟨hC1.same hru.blk, hru.size, hru.max⟩
  obtain ⟨Z1, hZ1⟩ : ∃ Z2, Z2 = splice (X ++ Z) (i * 2) W := ⟨_, rfl⟩
  have hZ1l : Z1.length = (X ++ Z).length := by rw [hZ1]; exact length_splice _ _ _ (by rw [List.length_append]; omega)
  obtain ⟨w2, hw2⟩ : ∃ w2, w2 = w1.setRow g2 Z1.toArray := ⟨_, rfl⟩
  have hcp1 : ∀ ty dc, (Builtin.copy_ #[30, 30] ty #[.slice (some ⟨g2, i * 2, none⟩) (tot - i) dc, .slice (some ⟨gu, 0, none⟩) m cu]).run Try.prog w1 = .ok (goInt (m : Int)) w2 := fun ty dc => by
    rw [hw2, hZ1]
    exact run_copy2 w1 ty g2 (i * 2) (tot - i) dc ⟨gu, 0, none⟩ m cu m W (X ++ Z) _ hr1.blk (by simp only [Nat.min_def]; split <;> omega) hWl (fun j v hj => by
      rw [addr_add, Nat.zero_add]
      refine hru1.cell ?_
      rw [List.getElem?_append_left (List.getElem?_eq_some_iff.1 hj).1]
      exact hj) (by rw [List.length_append]; omega) hW1
  have hr2 : RowAt w2 g2 cap2 Z1 := by rw [hw2]; exact hr1.set hZ1l
  have hgr2 : RowAt w2 g cap (X ++ (B ++ (Y ++ R))) := by rw [hw2]; exact hg1.other hg2
  obtain ⟨Z2, hZ2⟩ : ∃ Z2, Z2 = splice Z1 (s * 2) Y := ⟨_, rfl⟩
  have hZ2l : Z2.length = Z1.length := by rw [hZ2]; exact length_splice _ _ _ (by rw [hZ1l, List.length_append]; omega)
  have hZ2e : Z2 = X ++ W ++ Y ++ Z.drop (m * 2 + Y.length) := by
    rw [hZ2, hZ1, show s * 2 = i * 2 + m * 2 by omega]
    exact splice_two X Z W Y (i * 2) (m * 2) hXl hWl (by omega)
  obtain ⟨w3, hw3⟩ : ∃ w3, w3 = w2.drew.setRow g2 Z2.toArray := ⟨_, rfl⟩
  have hcp2 : ∀ ty dc sc, (Builtin.copy_ #[30, 30] ty #[.slice (some ⟨g2, s * 2, none⟩) (tot - s) dc, .slice (some ⟨g, j * 2, none⟩) q sc]).run Try.prog w2.drew = .ok (goInt (q : Int)) w3 := fun ty dc sc => by
    rw [hw3, hZ2]
    exact run_copy2 w2.drew ty g2 (s * 2) (tot - s) dc ⟨g, j * 2, none⟩ q sc q Y Z1 _ hr2.drew.blk (by simp only [Nat.min_def]; split <;> omega) hYl (fun t v ht => by
      rw [addr_add]
      exact hgr2.drew.cell (hYj t v ht)) (by rw [hZ1l, List.length_append]; omega) hY1
  have hr3 : RowAt w3 g2 cap2 Z2 := by rw [hw3]; exact hr2.drew.set hZ2l
  rw [hk] at hrun1
  refine ⟨g2, cap2, w1, w2, w3, hg2e, hc2, hrun1, hcp1, hcp2, ⟨_, rfl, ?_, ?_, fun j hj => .inr (by simp only [Value.ownBlock, Option.some.injEq] at hj; omega)⟩⟩
  · rw [hlen, hflat]
    exact hr3.own (by omega) hxl (by rw [hZ2e]; exact take_mid X W Y _ _ hxl)
  · rw [hw3, hw2]
    exact ((((hC1.mono (fun _ _ h => h.elim)).putRow (b := g2) (.inr (by omega))).drew).putRow (b := g2) (.inr (by omega)))
end Go.Proofs.Ytlkbfacdaelbfaa
