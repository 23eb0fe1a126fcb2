/-
  The document's numbers: Canon, Add, Low (the walks).
-/
import Derived.Test.YtebmbapaedlmiaaDoorSAdJ
namespace Go.Proofs.YtebmbapaedlmiaaDoor
open Go.RowKit Ae
set_option linter.unusedVariables false

theorem digits6 (a : List Nat) (ha : a.length = 17) (hab : Byt a) (w : World) :
    Calls Tryd.prog 49 #[.agg (bs a)] w (fun e w' => ∃ g, w.heap.size ≤ g ∧ e = .returned (.slice (some ⟨g, 0, none⟩) 6 6) ∧ w'.heap[g]? = some (.cells (ia (digs (val a) 136)) 3 (0, 0)) ∧ Chg Nowhere w w') := by
  refine (digits_any a ha hab w).mono ?_
  rintro e w' ⟨g, h1, rfl, h2, h3⟩
  exact ⟨g, h1, by rw [digs_len], h2, h3⟩
theorem reduce6 (t : List Nat) (h6 : t.length = 6) (hu : Upto 288230376151711744 t) (g0 : Nat) (w : World) (h0 : w.heap[g0]? = some (.cells (ia t) 3 (0, 0))) :
    Calls Tryd.prog 50 #[.slice (some ⟨g0, 0, none⟩) 6 6] w (Gives w (.agg (bs (bytesOf 17 (dval t % q))))) := by
  have := reduce_any t (.inr ⟨h6, hu⟩) g0 w h0
  rwa [h6] at this
theorem digs_upto (x k B : Nat) (hB : 67108864 ≤ B) : Upto B (digs x k) := fun d hd => by
  obtain ⟨i, _, rfl⟩ := List.mem_map.1 hd
  exact Nat.le_trans (Nat.le_of_lt (dig_lt x k i)) hB
theorem val17 {a : List Nat} (ha : a.length = 17) (hab : Byt a) : dval (digs (val a) 136) = val a := by
  refine digs_val _ ?_
  have := val_lt hab
  rw [ha] at this
  exact Nat.lt_of_lt_of_le this (by decide +kernel)
theorem info17b (l : List Nat) (h : l.length = 17) : InfoArr 58 (bs l).size := by rw [bs_size, h]; exact info17
set_option maxHeartbeats 4000000 in
set_option maxRecDepth 100000 in
theorem rcanon_any (a : List Nat) (ha : a.length = 17) (hab : Byt a) (w : World) :
    Calls Tryd.prog 51 #[.agg (bs a)] w (Gives w (.agg (bs (bytesOf 17 (val a % q))))) := by
  have HI := Lib.hid (info17b a ha)
  have HIO := Lib.hid (info17b (bytesOf 17 (val a % q)) (bytesOf_len _ _))
  have HD := Lib.hid (fun w => digits6 a ha hab w)
  have HR := Lib.hid (show ∀ g w, w.heap[g]? = some (.cells (ia (digs (val a) 136)) 3 (0, 0)) → Calls Tryd.prog 50 #[.slice (some ⟨g, 0, none⟩) 6 6] w (Gives w (.agg (bs (bytesOf 17 (val a % q))))) from fun g w h => by
    have := reduce6 _ (digs_len _ _) (digs_upto _ _ _ (by decide)) g w h
    rwa [val17 ha hab] at this)
  clear ha hab
  have HA0 := Lib.hid (alloc_old (o := .cells (bs (List.replicate 17 0)) 58) (alloc_new w (.cells (bs a) 58)))
  have HR0 := Lib.hid (new_1 w (.cells (bs a) 58) (.cells (bs (List.replicate 17 0)) 58))
  have HC0 := Lib.hid (((Chg.refl Nowhere w).alloc (.cells (bs a) 58)).alloc (.cells (bs (List.replicate 17 0)) 58))
  go_enter Tryd.func51, Tryd.ntmps51
  go_wp2_with (first
    | (refine wpList_load_row rfl 58 (Operand.tmp 1) rfl w.heap.size rfl 58 _ (0, 0) _ HA0.out Tryd.underlying58 rfl HI.out ?_)
    | (go_at_call 49; refine (HD.out _).mono ?_; rintro e w1 ⟨g1, -, rfl, h1, hC1⟩; have HH1 := Lib.hid h1; have HR1 := Lib.hid (hC1.same HR0.out); have HC1 := Lib.hid (HC0.out.then_none hC1); clear h1 hC1)
    | (go_at_call 50; refine (HR.out _ _ HH1.out).mono ?_; rintro e w2 ⟨rfl, hC2⟩; have HR2 := Lib.hid (hC2.same HR1.out); have HC2 := Lib.hid (HC1.out.then_none hC2); clear hC2)
    | (refine wpList_store_row rfl 58 (Operand.tmp 2) (Operand.tmp 5) rfl (w.heap.size + 1) _ rfl rfl 58 _ HR2.out HIO.out (by rw [bs_size, bs_size, bytesOf_len]; rfl) (bs_one _) ?_))
  refine bodyPost_ret (results_cell_row rfl _ _ (w.heap.size + 1) _ _ (0, 0) _ rfl (row_blk HR2.out) Tryd.underlying58 rfl HIO.out) rfl ⟨rfl, HC2.out.putRow (.inr (by omega))⟩
/-- Digits added, as far as they are. -/
def addK (t u : List Nat) (k : Nat) : List Nat := (List.range 6).map fun i => t.getD i 0 + if i < k then u.getD i 0 else 0
theorem addK_len (t u : List Nat) (k : Nat) : (addK t u k).length = 6 := by simp [addK]
theorem addK_get (t u : List Nat) (k : Nat) {i : Nat} (hi : i < 6) : (addK t u k)[i]? = some (t.getD i 0 + if i < k then u.getD i 0 else 0) := by simp [addK, hi]
theorem addK_zero {t : List Nat} (u : List Nat) (h : t.length = 6) : addK t u 0 = t := by
  apply List.ext_getElem?
  intro i
  by_cases hi : i < 6
  · rw [addK_get t u 0 hi, if_neg (by omega), Nat.add_zero]; exact (some_getD (by omega)).symm
  · rw [List.getElem?_eq_none (by rw [addK_len]; omega), List.getElem?_eq_none (by omega)]
theorem addK_step (t u : List Nat) {k : Nat} (hk : k < 6) : (addK t u k).set k (t.getD k 0 + u.getD k 0) = addK t u (k + 1) := by
  apply List.ext_getElem?
  intro i
  by_cases hi : i < 6
  · rw [addK_get t u (k + 1) hi, List.getElem?_set]
    by_cases h : k = i
    · subst h
      rw [if_pos rfl, if_pos (by rw [addK_len]; exact hi), if_pos (by omega)]
    · rw [if_neg h, addK_get t u k hi]
      congr 2
      repeat' split
      all_goals omega
  · rw [List.getElem?_eq_none (by rw [List.length_set, addK_len]; omega), List.getElem?_eq_none (by rw [addK_len]; omega)]
theorem addK_val {t u : List Nat} (ht : t.length = 6) (hu : u.length = 6) : dval (addK t u 6) = dval t + dval u := by
  match t, u, ht, hu with
  | [a, b, c, d, e, f], [g, h, i, j, k, l], _, _ =>
    have e1 : addK [a, b, c, d, e, f] [g, h, i, j, k, l] 6 = addL [a, b, c, d, e, f] [g, h, i, j, k, l] := by simp [addK, List.range_succ, addL]
    rw [e1, dval_addL]
theorem addK_upto {t u : List Nat} {B : Nat} (ht : Upto B t) (hu : Upto B u) (k : Nat) : Upto (2 * B) (addK t u k) := fun x hx => by
  obtain ⟨i, _, rfl⟩ := List.mem_map.1 hx
  have h1 := ht.at i
  have h2 := hu.at i
  split <;> omega
set_option maxHeartbeats 4000000 in
set_option maxRecDepth 100000 in
theorem radd_any (a b : List Nat) (ha : a.length = 17) (hab : Byt a) (hb : b.length = 17) (hbb : Byt b) (w : World) :
    Calls Tryd.prog 38 #[.agg (bs a), .agg (bs b)] w (Gives w (.agg (bs (bytesOf 17 ((val a + val b) % q))))) := by
  obtain ⟨T, hT⟩ : ∃ T, T = digs (val a) 136 := ⟨_, rfl⟩
  obtain ⟨U, hU⟩ : ∃ T, T = digs (val b) 136 := ⟨_, rfl⟩
  have hTl : T.length = 6 := by rw [hT, digs_len]
  have hUl : U.length = 6 := by rw [hU, digs_len]
  have hTu : Upto 67108864 T := by rw [hT]; exact digs_upto _ _ _ (by decide)
  have hUu : Upto 67108864 U := by rw [hU]; exact digs_upto _ _ _ (by decide)
  have HIA := Lib.hid (info17b a ha)
  have HIB := Lib.hid (info17b b hb)
  have HIO := Lib.hid (info17b (bytesOf 17 ((val a + val b) % q)) (bytesOf_len _ _))
  have HDA := Lib.hid (fun w => digits6 a ha hab w)
  have HDB := Lib.hid (fun w => digits6 b hb hbb w)
  rw [← hT] at HDA
  rw [← hU] at HDB
  have HR := Lib.hid (show ∀ g w, w.heap[g]? = some (.cells (ia (addK T U 6)) 3 (0, 0)) → Calls Tryd.prog 50 #[.slice (some ⟨g, 0, none⟩) 6 6] w (Gives w (.agg (bs (bytesOf 17 ((val a + val b) % q))))) from fun g w h => by
    have := reduce6 _ (addK_len _ _ _) (fun x hx => Nat.le_trans (addK_upto hTu hUu 6 x hx) (by decide)) g w h
    rwa [addK_val hTl hUl, hT, hU, val17 ha hab, val17 hb hbb] at this)
  have HTL := Lib.hid hTl
  have HUL := Lib.hid hUl
  have HTU := Lib.hid hTu
  have HUU := Lib.hid hUu
  clear ha hab hb hbb hT hU hTl hUl hTu hUu
  have HA0 := Lib.hid (alloc_old (o := .cells (bs (List.replicate 17 0)) 58) (alloc_old (o := .cells (bs b) 58) (alloc_new w (.cells (bs a) 58))))
  have HB0 := Lib.hid (alloc_old (o := .cells (bs (List.replicate 17 0)) 58) (new_1 w (.cells (bs a) 58) (.cells (bs b) 58)))
  have HR0 := Lib.hid (new_2 w (.cells (bs a) 58) (.cells (bs b) 58) (.cells (bs (List.replicate 17 0)) 58))
  have HC0 := Lib.hid ((((Chg.refl Nowhere w).alloc (.cells (bs a) 58)).alloc (.cells (bs b) 58)).alloc (.cells (bs (List.replicate 17 0)) 58))
  go_enter Tryd.func38, Tryd.ntmps38
  go_wp2_with (first
    | (refine wpList_load_row rfl 58 (Operand.tmp 2) rfl w.heap.size rfl 58 _ (0, 0) _ HA0.out Tryd.underlying58 rfl HIA.out ?_)
    | (go_at_call 49; refine (HDA.out _).mono ?_; clear HDA; rintro e w1 ⟨g1, hg1, rfl, h1, hC1⟩; have HG1 := Lib.hid (show w.heap.size + 1 + 1 < g1 by rw [sz3] at hg1; omega); have HH1 := Lib.hid h1; have HB1 := Lib.hid (hC1.same HB0.out); have HR1 := Lib.hid (hC1.same HR0.out); have HC1 := Lib.hid (HC0.out.then_none hC1); clear h1 hC1 hg1)
    | (refine wpList_load_row rfl 58 (Operand.tmp 3) rfl (w.heap.size + 1) rfl 58 _ (0, 0) _ HB1.out Tryd.underlying58 rfl HIB.out ?_)
    | (go_at_call 49; refine (HDB.out _).mono ?_; rintro e w2 ⟨g2, hg2, rfl, h2, hC2⟩; have HG2 := Lib.hid (show g1 ≠ g2 ∧ w.heap.size + 1 + 1 < g2 by have a1 := lt_blk HH1.out; have a2 := HG1.out; omega); have HH2 := Lib.hid h2; have HK2 := Lib.hid (hC2.same HH1.out); have HR2 := Lib.hid (hC2.same HR1.out); have HC2 := Lib.hid (HC1.out.then_none hC2); clear h2 hC2 hg2))
  have HX0 := Lib.hid (show w2.heap[g1]? = some (.cells (ia (addK T U 0)) 3 (0, 0)) by rw [addK_zero U HTL.out]; exact HK2.out)
  go_loopw [7] (fun i wr => ∃ k : Nat, k ≤ 6 ∧ i = .int .i64 k ∧ wr.heap[g1]? = some (.cells (ia (addK T U k)) 3 (0, 0)) ∧ wr.heap[g2]? = some (.cells (ia U) 3 (0, 0)) ∧ wr.heap[w.heap.size + 1 + 1]? = some (.cells (bs (List.replicate 17 0)) 58 (0, 0)) ∧ Chg Nowhere w wr) (fun i _ => 6 - (intOf i).toNat)
  case atStart => exact ⟨0, by omega, rfl, HX0.out, HH2.out, HR2.out, HC2.out⟩
  case round =>
    obtain ⟨k, hk, rfl, hX, hU, hr, hC⟩ := hrel
    clear HX0 HH2 HR2 HC2 HK2 HH1 HB1 HR1 HC1 HA0 HB0 HR0 HC0
    have HX := Lib.hid hX
    have HUr := Lib.hid hU
    have HRr := Lib.hid hr
    have HC := Lib.hid hC
    clear hX hU hr hC
    by_cases hk2 : k < 6
    · obtain ⟨x, hx⟩ : ∃ x, x = T.getD k 0 := ⟨_, rfl⟩
      obtain ⟨y, hy⟩ : ∃ y, y = U.getD k 0 := ⟨_, rfl⟩
      have hxl : x ≤ 67108864 := by rw [hx]; exact HTU.out.at k
      have hyl : y ≤ 67108864 := by rw [hy]; exact HUU.out.at k
      have cx : wr.cell? ⟨g1, k, none⟩ = some (.int .i64 (x : Int)) := (cell_blk HX.out (o := k)).trans (ia_get (by rw [addK_get T U k hk2, if_neg (by omega), Nat.add_zero, hx]))
      have cy : wr.cell? ⟨g2, k, none⟩ = some (.int .i64 (y : Int)) := (cell_blk HUr.out (o := k)).trans (ia_get (by rw [hy]; exact some_getD (by rw [HUL.out]; exact hk2)))
      have fo : wr.frozen? ⟨g1, k, none⟩ = false := frozen_blk HX.out
      obtain ⟨z, hz⟩ : ∃ z, z = x + y := ⟨_, rfl⟩
      have hz2 : (x : Int) + (y : Int) = (z : Int) := by omega
      have hzl : z < 1000000000 := by omega
      have HS := Lib.hid (show (addK T U k).set k z = addK T U (k + 1) by rw [hz, hx, hy]; exact addK_step T U hk2)
      clear hx hy hz
      go_wp2_with fail
      go_region
      go_wp2_with fail
      go_roundw
      case rel => exact ⟨k + 1, by omega, by go_num, (set_blk _ HX.out).trans (by rw [ia_set, HS.out]), (set_other _ (Ne.symm HG2.out.1)).trans HUr.out, (set_other _ (by have := HG1.out; show w.heap.size + 1 + 1 ≠ g1; omega)).trans HRr.out, (HC.out.put (.inr (by have := HG1.out; omega))).drew⟩
      case measure => simp [intOf]; omega
    · obtain rfl : k = 6 := by omega
      go_wp2_with (first
        | (go_at_call 50; refine (HR.out _ _ HX.out).mono ?_; rintro e w3 ⟨rfl, hC3⟩; have HR3 := Lib.hid (hC3.same HRr.out); have HC3 := Lib.hid (HC.out.then_none hC3); clear hC3)
        | (refine wpList_store_row rfl 58 (Operand.tmp 4) (Operand.tmp 29) rfl (w.heap.size + 1 + 1) _ rfl rfl 58 _ HR3.out HIO.out (by rw [bs_size, bs_size, bytesOf_len]; rfl) (bs_one _) ?_))
      refine bodyPost_ret (results_cell_row rfl _ _ (w.heap.size + 1 + 1) _ _ (0, 0) _ rfl (row_blk HR3.out) Tryd.underlying58 rfl HIO.out) rfl ⟨rfl, HC3.out.putRow (.inr (by omega))⟩
end Go.Proofs.YtebmbapaedlmiaaDoor
