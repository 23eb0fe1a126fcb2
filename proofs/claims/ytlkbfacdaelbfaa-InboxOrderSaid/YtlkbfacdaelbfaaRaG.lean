/-
  Package slices: Insert at ranges (the walks).
-/
import Derived.Test.YtlkbfacdaelbfaaRaF
import Derived.Deep.DeepCutAuto
namespace Go.Proofs.Ytlkbfacdaelbfaa
open Go.RowKit
set_option linter.unusedVariables false

/-- A row of ranges that took the place of another one. -/
def GivesRow (w : World) (v : Value) (L : List Ra.Row) : Ending → World → Prop := fun e w' => ∃ v', e = .returned v' ∧ w'.ownsRow 0 33 2 v' L.length (flat L) ∧ Chg (fun i => v.ownBlock = some i) w w' ∧ (∀ i, v'.ownBlock = some i → v.ownBlock = some i ∨ w.heap.size ≤ i)
set_option maxHeartbeats 4000000 in
set_option maxRecDepth 100000 in
theorem insert_end (v : Value) (L V : List Ra.Row) (u : Value) (w : World) (h : w.ownsRow 0 33 2 v L.length (flat L)) (hu : w.ownsRow 0 33 2 u V.length (flat V)) (hm : 0 < V.length) (hn : L.length + V.length ≤ 4000000) :
    Calls Try.prog 92 #[v, .int .i64 (L.length : Int), u] w (GivesRow w v (L ++ V)) := by
  obtain ⟨i0, hi, hz0, hz1, hz2⟩ := info_parts infoRng
  obtain ⟨gu, cu, Ru, rfl, hru, hmc⟩ := own_rowAt hu hm
  obtain ⟨v', w', hr, ho, hg, -, hob⟩ := run_append_own_at (P := Try.prog) w 0 30 30 33 i0 (.agg #[.int .i64 0, .int .i64 0]) 2 16 undR hi hz0 hz1 hz2 rfl (by decide) v L.length (flat L) h ⟨gu, 0, none⟩ V.length cu (flat V) (flat_len V) (fun j x hj => by rw [addr_add, Nat.zero_add]; exact hru.cell (by rw [List.getElem?_append_left (List.getElem?_eq_some_iff.1 hj).1]; exact hj)) (flat_one' V) (by unfold maxLen; omega) (by omega) (Nat.zero_le _)
  have HR := Lib.hid hr
  have HV : GivesRow w v (L ++ V) (.returned v') w' := ⟨v', rfl, by rw [List.length_append, flat_append]; exact ho, (Chg.refl _ w).grown hg (fun k hk => .inr hk), fun i hi => by
    rcases hob with e | e <;> rw [e] at hi
    · exact .inl hi
    · injection hi with e2; exact .inr (by omega)⟩
  have HV := Lib.hid HV
  obtain ⟨A, cap, rfl⟩ := ownR_shape h
  obtain ⟨n, hnn⟩ : ∃ n, n = L.length := ⟨_, rfl⟩
  obtain ⟨m, hmm⟩ : ∃ n, n = V.length := ⟨_, rfl⟩
  rw [← hnn, ← hmm] at HR hn
  rw [← hmm] at hm hmc
  rw [← hnn] at HV
  rw [← hnn, ← hmm]
  have hz : ¬ ((m : Int) = 0) := by omega
  have hcap : n ≤ cap := by
    rw [hnn]
    rcases h.2 with ⟨h1, h2⟩ | ⟨g, c, cur, h1, _, _, h2, _⟩
    · simp only [Value.slice.injEq] at h1; omega
    · simp only [Value.slice.injEq] at h1; omega
  clear h hu hru hr ho hg hob hnn hmm
  rcases (by omega : cap = n ∨ n < cap) with rfl | hlt
  · go_enter Try.func92, Try.ntmps92
    go_wp2_with (at_builtin; refine Lib.wpList_append_run _ rfl _ _ 30 30 rfl (.slice A cap cap) (.slice (some ⟨gu, 0, none⟩) m cu) rfl rfl v' w' HR.out ?_)
    go_ret
    exact HV.out
  · have hcn : ¬ (cap = n) := by omega
    go_enter Try.func92, Try.ntmps92
    go_wp2_with (at_builtin; refine Lib.wpList_append_run _ rfl _ _ 30 30 rfl (.slice A n cap) (.slice (some ⟨gu, 0, none⟩) m cu) rfl rfl v' w' HR.out ?_)
    go_ret
    exact HV.out
set_option maxHeartbeats 4000000 in
set_option maxRecDepth 100000 in
theorem insert_room (g n cap i : Nat) (L V : List Ra.Row) (u : Value) (w : World) (R : List Value) (hr : RowAt w g cap (flat L ++ R)) (hnl : L.length = n) (hi : i < n) (hu : w.ownsRow 0 33 2 u V.length (flat V)) (hm : 0 < V.length) (hn : n + V.length ≤ 4000000) (hroom : n + V.length ≤ cap) (hne : u.ownBlock ≠ some g) :
    Calls Try.prog 92 #[.slice (some ⟨g, 0, none⟩) n cap, .int .i64 (i : Int), u] w (GivesRow w (.slice (some ⟨g, 0, none⟩) n cap) (L.take i ++ V ++ L.drop i)) := by
  obtain ⟨gu, cu, Ru, rfl, hru, hmc⟩ := own_rowAt hu hm
  have hgu : gu ≠ g := fun e => hne (by rw [e]; rfl)
  obtain ⟨m, hmm⟩ : ∃ n, n = V.length := ⟨_, rfl⟩
  have hfl := flat_len L
  have hfv := flat_len V
  have hsz := hr.size
  rw [List.length_append] at hsz
  obtain ⟨X, hX⟩ : ∃ X, X = flat (L.take i) := ⟨_, rfl⟩
  obtain ⟨Y, hY⟩ : ∃ X, X = flat (L.drop i) := ⟨_, rfl⟩
  obtain ⟨W, hW⟩ : ∃ X, X = flat V := ⟨_, rfl⟩
  have hXl : X.length = i * 2 := by rw [hX, flat_len, List.length_take]; omega
  have hYl : Y.length = (n - i) * 2 := by rw [hY, flat_len, List.length_drop]; omega
  have hWl : W.length = m * 2 := by rw [hW, hfv, hmm]
  have hXY : flat L = X ++ Y := by rw [hX, hY, ← flat_append, List.take_append_drop]
  have hY1 : ∀ v ∈ Y, v.oneCell' = true := by rw [hY]; exact flat_one' _
  have hW1 : ∀ v ∈ W, v.oneCell' = true := by rw [hW]; exact flat_one' _
  rw [hXY] at hr
  have hcur : (X ++ Y ++ R).length = cap * 2 := by simp only [List.length_append] at hsz ⊢; omega
  have hov : ∀ lb cb, (callFunc 93 #[.slice (some ⟨gu, 0, none⟩) m cu, .slice (some ⟨g, (i + m) * 2, none⟩) lb cb]).run Try.prog w = .ok (.value (.bool false)) w := fun lb cb => run_apart w gu 0 m cu g _ lb cb _ _ hgu hru.blk hr.blk (by simp only [List.length_append] at hcur ⊢; omega)
  obtain ⟨w1, hw1⟩ : ∃ w1, w1 = w.drew.setRow g (splice (X ++ Y ++ R) ((i + m) * 2) Y).toArray := ⟨_, rfl⟩
  have hcp1 : ∀ ty dc sc, (Builtin.copy_ #[30, 30] ty #[.slice (some ⟨g, (i + m) * 2, none⟩) (n + m - (i + m)) dc, .slice (some ⟨g, i * 2, none⟩) (n + m - i) sc]).run Try.prog w.drew = .ok (goInt ((n - i : Nat) : Int)) w1 := fun ty dc sc => by
    rw [hw1]
    exact run_copy2 w.drew ty g ((i + m) * 2) (n + m - (i + m)) dc ⟨g, i * 2, none⟩ (n + m - i) sc (n - i) Y (X ++ Y ++ R) _ hr.drew.blk (by simp only [Nat.min_def]; split <;> omega) hYl (fun j v hj => by
      rw [addr_add]
      refine hr.drew.cell ?_
      rw [List.append_assoc, List.getElem?_append_right (by omega), hXl, Nat.add_sub_cancel_left, List.getElem?_append_left (List.getElem?_eq_some_iff.1 hj).1]
      exact hj) (by omega) hY1
  obtain ⟨Z, hZ⟩ : ∃ Z, Z = splice (X ++ Y ++ R) ((i + m) * 2) Y := ⟨_, rfl⟩
  have hZl : Z.length = (X ++ Y ++ R).length := by rw [hZ]; exact length_splice _ _ _ (by omega)
  have hr1 : RowAt w1 g cap Z := by rw [hw1, ← hZ]; exact hr.drew.set hZl
  have hru1 : RowAt w1 gu cu (W ++ Ru) := by rw [hw1, hW]; exact hru.drew.other hgu
  obtain ⟨Z2, hZ2⟩ : ∃ Z2, Z2 = splice Z (i * 2) W := ⟨_, rfl⟩
  have hZ2e : Z2 = X ++ W ++ Y ++ R.drop (m * 2) := by
    rw [hZ2, hZ, show (i + m) * 2 = i * 2 + m * 2 by omega]
    exact splice_shift X Y R W (i * 2) (m * 2) hXl hWl (by simp only [List.length_append] at hcur; omega)
  have hZ2l : Z2.length = Z.length := by rw [hZ2]; exact length_splice _ _ _ (by omega)
  obtain ⟨w2, hw2⟩ : ∃ w2, w2 = w1.setRow g Z2.toArray := ⟨_, rfl⟩
  have hcp2 : ∀ ty dc, (Builtin.copy_ #[30, 30] ty #[.slice (some ⟨g, i * 2, none⟩) (n + m - i) dc, .slice (some ⟨gu, 0, none⟩) m cu]).run Try.prog w1 = .ok (goInt (m : Int)) w2 := fun ty dc => by
    rw [hw2, hZ2]
    exact run_copy2 w1 ty g (i * 2) (n + m - i) dc ⟨gu, 0, none⟩ m cu m W Z _ hr1.blk (by simp only [Nat.min_def]; split <;> omega) hWl (fun j v hj => by
      rw [addr_add, Nat.zero_add]
      refine hru1.cell ?_
      rw [List.getElem?_append_left (List.getElem?_eq_some_iff.1 hj).1]
      exact hj) (by omega) hW1
  have hr2 : RowAt w2 g cap Z2 := by rw [hw2]; exact hr1.set hZ2l
  have HF := Lib.hid (show GivesRow w (.slice (some ⟨g, 0, none⟩) n cap) (L.take i ++ V ++ L.drop i) (.returned (.slice (some ⟨g, 0, none⟩) (n + m) cap)) w2 from ⟨_, rfl, by
    have hlen : (L.take i ++ V ++ L.drop i).length = n + m := by simp only [List.length_append, List.length_take, List.length_drop]; omega
    rw [hlen]
    have e : flat (L.take i ++ V ++ L.drop i) = X ++ W ++ Y := by rw [flat_append, flat_append, ← hX, ← hW, ← hY]
    rw [e]
    have hxl : (X ++ W ++ Y).length = (n + m) * 2 := by simp only [List.length_append]; omega
    exact hr2.own (by omega) hxl (by rw [hZ2e]; exact take_mid X W Y _ _ hxl), by
    rw [hw2, hw1]
    exact (((Chg.refl (fun i => (Value.slice (some ⟨g, 0, none⟩) n cap).ownBlock = some i) w).drew).putRow (b := g) (.inl rfl)).putRow (b := g) (.inl rfl), fun i hi => .inl hi⟩)
  rw [← hmm]
  rw [← hmm] at hm hn hroom hmc
  have hz1 : ¬ ((m : Int) = 0) := by omega
  have hz2 : ¬ ((i : Int) = (n : Int)) := by omega
  have hwr : IntKind.i64.wrap ((i : Int) + (m : Int)) = (i : Int) + (m : Int) := by rw [IntKind.wrap_i64]; omega
  have hb1 : (0 : Int) ≤ (i : Int) + (m : Int) := by omega
  have hin : i ≤ n := by omega
  have htn : ((i : Int) + (m : Int)).toNat = i + m := by omega
  have hb2 : ¬ (cap = i + m) := by omega
  have hb3 : (i : Int) ≤ (n : Int) + (m : Int) := by omega
  have hb4 : ¬ (cap = i) := by omega
  have HW1 := Lib.hid hw1
  have HW2 := Lib.hid hw2
  clear hr hru hr1 hru1 hr2 hu hw1 hw2 hZ hZl hZ2 hZ2e hZ2l hX hY hW hXl hYl hWl hXY hY1 hW1 hcur hsz hfl hfv hmm hne hnl
  go_enter Try.func92, Try.ntmps92
  go_wp2_with (simp only [hov])
  go_region_law (refine step_copy_run rfl _ _ 30 30 rfl _ _ (by simp [Act.eval, Act.put]) (by simp [Act.eval, Act.put]) (hcp1 _ _ _) ?_)
  go_wp2_with (at_builtin; refine wpList_copy_run _ rfl _ _ 30 30 rfl _ _ rfl rfl (hcp2 _ _) ?_)
  go_ret
  exact HF.out
theorem grow_zeros2 (w : World) (ty : TypeId) (g cap i k : Nat) (cur X : List Value) (hr : RowAt w g cap cur) (hX : cur.take (i * 2) = X) (hXl : X.length = i * 2) (hk : 0 < k) (hcap : cap < i + k) (hn : i + k ≤ 8000000) :
    ∃ cap2 Z w2, (Builtin.append_ #[30, 3] ty #[.slice (some ⟨g, 0, none⟩) i cap, .int .i64 (k : Int)]).run Try.prog w = .ok (.slice (some ⟨w.heap.size, 0, none⟩) (i + k) cap2) w2 ∧ RowAt w2 w.heap.size cap2 (X ++ Z) ∧ i + k ≤ cap2 ∧ Chg Nowhere w w2 := by
  obtain ⟨i0, hi, hz0, hz1, hz2⟩ := info_parts infoRng
  have htn : Try.prog.underlying 3 = some (.int .i64) := Try.underlying3
  have hf := run_firstCells_some (P := Try.prog) w.drew i0.size i ⟨g, 0, none⟩ i cap X (by rw [hz1]; exact hXl) (fun j v hj => by
    rw [addr_add, Nat.zero_add]
    refine hr.drew.cell ?_
    rw [← hX, List.getElem?_take] at hj
    split at hj
    · exact hj
    · cases hj)
  have hrun := Lib.run_append_grow_zeros (P := Try.prog) w 30 3 ty 33 i0 (.agg #[.int .i64 0, .int .i64 0]) .i64 .i64 undR htn hi hz0 (some ⟨g, 0, none⟩) i cap X hf k hk (by omega) hcap (by omega) (by rw [hz2]; omega) (growslice_fits hcap (by rw [hz2]; omega))
  have hge := grownCap_ge w (i + k) cap 33
  have hcm : grownCap w (i + k) cap 33 ≤ maxLen := grownCap_le_maxLen w (i + k) cap 33 (by unfold maxLen; omega)
  rw [zero_cells2, zero_cells2] at hrun
  refine ⟨_, List.replicate (k * 2) (Value.int .i64 0) ++ List.replicate ((grownCap w (i + k) cap 33 - (i + k)) * 2) (Value.int .i64 0), _, hrun, ⟨?_, ?_, hcm⟩, hge, ((Chg.refl Nowhere w).drew).alloc _⟩
  · have := alloc_new w.drew (.cells (X.toArray ++ (List.replicate (k * 2) (Value.int .i64 0)).toArray ++ (List.replicate ((grownCap w (i + k) cap 33 - (i + k)) * 2) (Value.int .i64 0)).toArray) 33)
    rw [show w.drew.heap.size = w.heap.size from rfl] at this
    rw [this]
    simp
  · simp only [List.length_append, List.length_replicate, hXl]; omega
/-- Rows laid one behind the other in a row that is long enough. -/
theorem splice_two {α : Type} (X Z V Y : List α) (a c : Nat) (ha : X.length = a) (hc : V.length = c) (hz : c + Y.length ≤ Z.length) :
    splice (splice (X ++ Z) a V) (a + c) Y = X ++ V ++ Y ++ Z.drop (c + Y.length) := by
  subst ha hc
  have h1 : splice (X ++ Z) X.length V = X ++ V ++ Z.drop V.length := by
    unfold splice
    rw [List.take_left, ← List.drop_drop, List.drop_left]
    simp
  rw [h1]
  unfold splice
  have hl : (X ++ V).length = X.length + V.length := List.length_append
  rw [← hl, List.take_left, ← List.drop_drop, List.drop_left, List.drop_drop]
  simp
set_option maxHeartbeats 4000000 in
set_option maxRecDepth 100000 in
theorem insert_grow (g n cap i : Nat) (L V : List Ra.Row) (u : Value) (w : World) (R : List Value) (hr : RowAt w g cap (flat L ++ R)) (hnl : L.length = n) (hi : i < n) (hu : w.ownsRow 0 33 2 u V.length (flat V)) (hm : 0 < V.length) (hn : n + V.length ≤ 4000000) (hroom : cap < n + V.length) (hnc : n ≤ cap) :
    Calls Try.prog 92 #[.slice (some ⟨g, 0, none⟩) n cap, .int .i64 (i : Int), u] w (GivesRow w (.slice (some ⟨g, 0, none⟩) n cap) (L.take i ++ V ++ L.drop i)) := by
  obtain ⟨gu, cu, Ru, rfl, hru, hmc⟩ := own_rowAt hu hm
  obtain ⟨m, hmm⟩ : ∃ n, n = V.length := ⟨_, rfl⟩
  have hfl := flat_len L
  have hfv := flat_len V
  have hsz := hr.size
  rw [List.length_append] at hsz
  obtain ⟨X, hX⟩ : ∃ X, X = flat (L.take i) := ⟨_, rfl⟩
  obtain ⟨Y, hY⟩ : ∃ X, X = flat (L.drop i) := ⟨_, rfl⟩
  obtain ⟨W, hW⟩ : ∃ X, X = flat V := ⟨_, rfl⟩
  have hXl : X.length = i * 2 := by rw [hX, flat_len, List.length_take]; omega
  have hYl : Y.length = (n - i) * 2 := by rw [hY, flat_len, List.length_drop]; omega
  have hWl : W.length = m * 2 := by rw [hW, hfv, hmm]
  have hXY : flat L = X ++ Y := by rw [hX, hY, ← flat_append, List.take_append_drop]
  have hY1 : ∀ v ∈ Y, v.oneCell' = true := by rw [hY]; exact flat_one' _
  have hW1 : ∀ v ∈ W, v.oneCell' = true := by rw [hW]; exact flat_one' _
  rw [hXY] at hr
  obtain ⟨k, hk⟩ : ∃ k, k = n + m - i := ⟨_, rfl⟩
  obtain ⟨cap2, Z, w1, hrun1, hr1, hc2, hC1⟩ := grow_zeros2 w 30 g cap i k (X ++ Y ++ R) X hr (by rw [List.append_assoc, ← hXl, List.take_left]) hXl (by omega) (by omega) (by omega)
  have hZl : Z.length = cap2 * 2 - i * 2 := by have := hr1.size; rw [List.length_append] at this; omega
  have hg2 : g ≠ w.heap.size := by have := lt_blk hr.blk; omega
  have hgu2 : gu ≠ w.heap.size := by have := lt_blk hru.blk; omega
  obtain ⟨g2, hg2e⟩ : ∃ g2, g2 = w.heap.size := ⟨_, rfl⟩
  rw [← hg2e] at hrun1 hr1 hg2 hgu2
  have hg1 : RowAt w1 g cap (X ++ Y ++ R) := ⟨hC1.same hr.blk, hr.size, hr.max⟩
  have hru1 : RowAt w1 gu cu (W ++ Ru) := by rw [hW]; exact ⟨hC1.same hru.blk, hru.size, hru.max⟩
  obtain ⟨Z1, hZ1⟩ : ∃ Z2, Z2 = splice (X ++ Z) (i * 2) W := ⟨_, rfl⟩
  have hZ1l : Z1.length = (X ++ Z).length := by rw [hZ1]; exact length_splice _ _ _ (by rw [List.length_append]; omega)
  obtain ⟨w2, hw2⟩ : ∃ w2, w2 = w1.setRow g2 Z1.toArray := ⟨_, rfl⟩
  have hcp1 : ∀ ty dc, (Builtin.copy_ #[30, 30] ty #[.slice (some ⟨g2, i * 2, none⟩) (n + m - i) dc, .slice (some ⟨gu, 0, none⟩) m cu]).run Try.prog w1 = .ok (goInt (m : Int)) w2 := fun ty dc => by
    rw [hw2, hZ1]
    exact run_copy2 w1 ty g2 (i * 2) (n + m - i) dc ⟨gu, 0, none⟩ m cu m W (X ++ Z) _ hr1.blk (by simp only [Nat.min_def]; split <;> omega) hWl (fun j v hj => by
      rw [addr_add, Nat.zero_add]
      refine hru1.cell ?_
      rw [List.getElem?_append_left (List.getElem?_eq_some_iff.1 hj).1]
      exact hj) (by rw [List.length_append]; omega) hW1
  have hr2 : RowAt w2 g2 cap2 Z1 := by rw [hw2]; exact hr1.set hZ1l
  have hgr2 : RowAt w2 g cap (X ++ Y ++ R) := by rw [hw2]; exact hg1.other hg2
  obtain ⟨Z2, hZ2⟩ : ∃ Z2, Z2 = splice Z1 ((i + m) * 2) Y := ⟨_, rfl⟩
  have hZ2l : Z2.length = Z1.length := by rw [hZ2]; exact length_splice _ _ _ (by rw [hZ1l, List.length_append]; omega)
  have hZ2e : Z2 = X ++ W ++ Y ++ Z.drop (m * 2 + Y.length) := by
    rw [hZ2, hZ1, show (i + m) * 2 = i * 2 + m * 2 by omega]
    exact splice_two X Z W Y (i * 2) (m * 2) hXl hWl (by omega)
  obtain ⟨w3, hw3⟩ : ∃ w3, w3 = w2.drew.setRow g2 Z2.toArray := ⟨_, rfl⟩
  have hcp2 : ∀ ty dc sc, (Builtin.copy_ #[30, 30] ty #[.slice (some ⟨g2, (i + m) * 2, none⟩) (n + m - (i + m)) dc, .slice (some ⟨g, i * 2, none⟩) (n - i) sc]).run Try.prog w2.drew = .ok (goInt ((n - i : Nat) : Int)) w3 := fun ty dc sc => by
    rw [hw3, hZ2]
    exact run_copy2 w2.drew ty g2 ((i + m) * 2) (n + m - (i + m)) dc ⟨g, i * 2, none⟩ (n - i) sc (n - i) Y Z1 _ hr2.drew.blk (by simp only [Nat.min_def]; split <;> omega) hYl (fun j v hj => by
      rw [addr_add]
      refine hgr2.drew.cell ?_
      rw [List.append_assoc, List.getElem?_append_right (by omega), hXl, Nat.add_sub_cancel_left, List.getElem?_append_left (List.getElem?_eq_some_iff.1 hj).1]
      exact hj) (by rw [hZ1l, List.length_append]; omega) hY1
  have hr3 : RowAt w3 g2 cap2 Z2 := by rw [hw3]; exact hr2.drew.set hZ2l
  have HF := Lib.hid (show GivesRow w (.slice (some ⟨g, 0, none⟩) n cap) (L.take i ++ V ++ L.drop i) (.returned (.slice (some ⟨g2, 0, none⟩) (n + m) cap2)) w3 from ⟨_, rfl, by
    have hlen : (L.take i ++ V ++ L.drop i).length = n + m := by simp only [List.length_append, List.length_take, List.length_drop]; omega
    rw [hlen]
    have e : flat (L.take i ++ V ++ L.drop i) = X ++ W ++ Y := by rw [flat_append, flat_append, ← hX, ← hW, ← hY]
    rw [e]
    have hxl : (X ++ W ++ Y).length = (n + m) * 2 := by simp only [List.length_append]; omega
    exact hr3.own (by omega) hxl (by rw [hZ2e]; exact take_mid X W Y _ _ hxl), by
    rw [hw3, hw2]
    exact ((((hC1.mono (fun _ _ h => h.elim)).putRow (b := g2) (.inr (by omega))).drew).putRow (b := g2) (.inr (by omega))), fun j hj => .inr (by simp only [Value.ownBlock, Option.some.injEq] at hj; omega)⟩)
  rw [← hmm]
  rw [← hmm] at hm hn hroom hmc
  have hik : i + k = n + m := by omega
  rw [hik] at hrun1
  have HRUN := Lib.hid hrun1
  have hz1 : ¬ ((m : Int) = 0) := by omega
  have hz2 : ¬ ((i : Int) = (n : Int)) := by omega
  have hwr : IntKind.i64.wrap ((i : Int) + (m : Int)) = (i : Int) + (m : Int) := by rw [IntKind.wrap_i64]; omega
  have hkk : ((n : Int) + (m : Int)) - (i : Int) = (k : Int) := by omega
  have hwk : IntKind.i64.wrap (((n : Int) + (m : Int)) - (i : Int)) = (k : Int) := by rw [IntKind.wrap_i64]; omega
  have hb1 : (0 : Int) ≤ (i : Int) + (m : Int) := by omega
  have hin : i ≤ n := by omega
  have htn : ((i : Int) + (m : Int)).toNat = i + m := by omega
  have hb2 : ¬ (cap2 = i + m) := by omega
  have hb3 : (i : Int) ≤ (n : Int) + (m : Int) := by omega
  have hb4 : ¬ (cap2 = i) := by omega
  have hb5 : ¬ (cap = i) := by omega
  have hb6 : (cap : Int) < (n : Int) + (m : Int) := by omega
  have hb7 : n + m ≤ cap2 := by omega
  have HW2 := Lib.hid hw2
  clear hrun1 hr hru hr1 hru1 hr2 hu hw2 hw3 hZ1 hZ1l hZ2 hZ2e hZ2l hX hY hW hXl hYl hWl hXY hY1 hW1 hsz hfl hfv hmm hnl hk hZl hg1 hgr2 hr3 hg2e hC1 hik
  go_enter Try.func92, Try.ntmps92
  go_upto_region 11 with (first
    | (at_builtin; refine Lib.wpList_append_run _ rfl _ _ 30 3 rfl (.slice (some ⟨g, 0, none⟩) i cap) (.int .i64 (k : Int)) rfl rfl (.slice (some ⟨g2, 0, none⟩) (n + m) cap2) w1 HRUN.out ?_)
    | (at_builtin; refine wpList_copy_run _ rfl _ _ 30 30 rfl _ _ rfl rfl (hcp1 _ _) ?_))

  go_region_law (refine step_copy_run rfl _ _ 30 30 rfl _ _ (by simp [Act.eval, Act.put]) (by simp [Act.eval, Act.put]) (hcp2 _ _ _) ?_)
  go_wp2_with fail
  go_ret
  exact HF.out
end Go.Proofs.Ytlkbfacdaelbfaa
