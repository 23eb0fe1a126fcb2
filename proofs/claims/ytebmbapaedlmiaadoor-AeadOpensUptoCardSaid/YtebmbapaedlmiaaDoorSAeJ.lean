/-
  Package clamp: Mul (the walk).
-/
import Derived.Test.YtebmbapaedlmiaaDoorSAeMulQ
import Derived.Deep.QuietTactic
import Derived.BigQuiet
namespace Go.Proofs.YtebmbapaedlmiaaDoor
open Go.RowKit Ae
set_option linter.unusedVariables false

set_option maxHeartbeats 3200000 in
set_option maxRecDepth 100000 in
theorem mul_any (l m : List Nat) (hl : l.length = 17) (hb : Byt l) (hm : m.length = 17) (hc : Byt m) (w : World) (hg : Glob w) :
    Calls Tryd.prog 32 #[.agg (bs l), .agg (bs m)] w (Gives w (.agg (bs (bytesOf 17 (val l * val m % q))))) := by
  have HL := Lib.hid hl
  have HB := Lib.hid hb
  have HM := Lib.hid hm
  have HC := Lib.hid hc
  have HG := Lib.hid hg
  have HVL := Lib.hid (words_lt (val17_lt hb hl))
  have HVM := Lib.hid (words_lt (val17_lt hc hm))
  clear hl hb hg hm hc
  obtain ⟨X, hX⟩ : ∃ X, X = fold1 (fold1 (val l)) := ⟨_, rfl⟩
  obtain ⟨Y, hY⟩ : ∃ Y, Y = fold1 (fold1 (val m)) := ⟨_, rfl⟩
  have HX2 := Lib.hid (show X < 1361129467683753853853498429727072845824 by rw [hX]; exact fold2_lt HVL.out)
  have HY2 := Lib.hid (show Y < 1361129467683753853853498429727072845824 by rw [hY]; exact fold2_lt HVM.out)
  have HE := Lib.hid (show val l * val m % q = X * Y % q by rw [hX, hY, mul_mod_q])
  have HXF := Lib.hid hX
  have HYF := Lib.hid hY
  clear hX hY
  have hu := Tryd.underlying58
  have hi1 : (Tryd.prog.info? 58).map (·.size) = some (bl l).length := by rw [bl_len, HL.out]; exact info17
  have hi2 : (Tryd.prog.info? 58).map (·.size) = some (bl m).length := by rw [bl_len, HM.out]; exact info17
  go_enter Tryd.func32, Tryd.ntmps32
  go_wp2_with fail
  have HA0 := Lib.hid (show (((w.alloc (.cells (bs l) 58)).alloc (.cells (bs m) 58)).alloc (.cells (bs (List.replicate 17 0)) 58)).rangeAt w.heap.size 0 (bl l) from rangeAt_blk (alloc_old (alloc_old (alloc_new _ _))))
  have HB0 := Lib.hid (show (((w.alloc (.cells (bs l) 58)).alloc (.cells (bs m) 58)).alloc (.cells (bs (List.replicate 17 0)) 58)).rangeAt (w.heap.size + 1) 0 (bl m) from rangeAt_blk (alloc_old (new_1 _ _ _)))
  have HR0 := Lib.hid (show (((w.alloc (.cells (bs l) 58)).alloc (.cells (bs m) 58)).alloc (.cells (bs (List.replicate 17 0)) 58)).heap[w.heap.size + 1 + 1]? = some (.cells (bs (List.replicate 17 0)) 58 (0, 0)) from new_2 _ _ _ _)
  have HC0 := Lib.hid ((((Chg.refl Nowhere w).alloc (.cells (bs l) 58)).alloc (.cells (bs m) 58)).alloc (.cells (bs (List.replicate 17 0)) 58))
  have HZ0 := Lib.hid (sz3 w (.cells (bs l) 58) (.cells (bs m) 58) (.cells (bs (List.replicate 17 0)) 58))
  refine wp_region_calm0 8 [18, 19, 20, 21, 22, 23, 5, 6] [5, 6] [⟨[18], fun v _ => v = [.agg (bs l)]⟩, ⟨[19], fun v _ => v = [.agg (ds (words (val l)))]⟩, ⟨[20], fun v _ => v = [.agg (ds (words X))]⟩, ⟨[21], fun v _ => v = [.agg (bs m)]⟩, ⟨[22], fun v _ => v = [.agg (ds (words (val m)))]⟩, ⟨[23], fun v _ => v = [.agg (ds (words Y))]⟩,
    ⟨[5], IsNew (w.heap.size + 1 + 1 + 1) 67 (ds (words 0))⟩, ⟨[6], IsNew (w.heap.size + 1 + 1 + 1) 67 (ds (words 0))⟩] (Chg Nowhere) (by kernel_rfl) (by kernel_rfl) (by kernel_rfl) (Chg.refl _) Chg.trans' Chg.size (by decide) (Chg.refl Nowhere _).drew ?_ ?_ ?_
  · exact ⟨fun _ _ _ _ h => h, fun _ _ _ _ h => h, fun _ _ _ _ h => h, fun _ _ _ _ h => h, fun _ _ _ _ h => h, fun _ _ _ _ h => h, fun _ _ _ hR h => IsNew.chg h hR, fun _ _ _ hR h => IsNew.chg h hR, trivial⟩
  · simp only [List.take_succ_cons, List.take_zero]
    refine Steps.cons ?_ (Steps.cons ?_ (Steps.cons ?_ (Steps.cons ?_ (Steps.cons ?_ (Steps.cons ?_ (Steps.cons ?_ (Steps.cons ?_ Steps.nil)))))))
    · intro x w' hR hd K Q' hK
      exact wp_load_mid 58 (Operand.tmp 2) rfl w.heap.size 0 rfl (bl l) _ (rangeAt_chg HA0.out hR) hu rfl hi1 (hK _ _ (Chg.refl _ _) rfl (fun d h1 h2 => by cases h1; simp at h2))
    · intro x w' hR hd K Q' hK
      exact wp_call_fn rfl enters_load [.agg (bs l)] (hd 0 (by kernel_rfl)) ((load_any l HL.out HB.out _).mono fun e w1 ⟨he, hC1⟩ => ⟨_, he, hK _ _ hC1 rfl (fun d h1 h2 => by cases h1; simp at h2)⟩)
    · intro x w' hR hd K Q' hK
      exact wp_call_fn rfl enters_fold [.agg (ds (words (val l)))] (hd 1 (by kernel_rfl)) ((fold_any (val l) HVL.out _).mono fun e w1 ⟨he, hC1⟩ => ⟨_, he, hK _ _ hC1 (by rw [HXF.out]; rfl) (fun d h1 h2 => by cases h1; simp at h2)⟩)
    · intro x w' hR hd K Q' hK
      exact wp_load_mid 58 (Operand.tmp 3) rfl (w.heap.size + 1) 0 rfl (bl m) _ (rangeAt_chg HB0.out hR) hu rfl hi2 (hK _ _ (Chg.refl _ _) rfl (fun d h1 h2 => by cases h1; simp at h2))
    · intro x w' hR hd K Q' hK
      exact wp_call_fn rfl enters_load [.agg (bs m)] (hd 3 (by kernel_rfl)) ((load_any m HM.out HC.out _).mono fun e w1 ⟨he, hC1⟩ => ⟨_, he, hK _ _ hC1 rfl (fun d h1 h2 => by cases h1; simp at h2)⟩)
    · intro x w' hR hd K Q' hK
      exact wp_call_fn rfl enters_fold [.agg (ds (words (val m)))] (hd 4 (by kernel_rfl)) ((fold_any (val m) HVM.out _).mono fun e w1 ⟨he, hC1⟩ => ⟨_, he, hK _ _ hC1 (by rw [HYF.out]; rfl) (fun d h1 h2 => by cases h1; simp at h2)⟩)
    · intro x w' hR hd K Q' hK
      exact wp_alloc_op rfl Tryd.zeroValue67 (hK _ _ ((Chg.refl _ _).alloc _) ⟨_, rfl, Nat.le_trans (Nat.le_of_eq HZ0.out.symm) hR.size, alloc_new _ _⟩ (fun _ _ _ => ⟨_, rfl, Nat.le_refl _, by simp⟩))
    · intro x w' hR hd K Q' hK
      exact wp_alloc_op rfl Tryd.zeroValue67 (hK _ _ ((Chg.refl _ _).alloc _) ⟨_, rfl, Nat.le_trans (Nat.le_of_eq HZ0.out.symm) hR.size, alloc_new _ _⟩ (fun _ _ _ => ⟨_, rfl, Nat.le_refl _, by simp⟩))
  · intro x w' hR hV hap
    have e20 : x 20 = .agg (ds (words X)) := List.head_eq_of_cons_eq (hV 2 (by decide))
    have e23 : x 23 = .agg (ds (words Y)) := List.head_eq_of_cons_eq (hV 5 (by decide))
    obtain ⟨b5, h5, B5, C5⟩ := hV 6 (by decide)
    obtain ⟨b6, h6, B6, C6⟩ := hV 7 (by decide)
    have e5 : x 5 = .pointer (some ⟨b5, 0, none⟩) := List.head_eq_of_cons_eq h5
    have e6 : x 6 = .pointer (some ⟨b6, 0, none⟩) := List.head_eq_of_cons_eq h6
    have hne : b5 ≠ b6 := by
      have := hap 5 6 (by decide) (by decide) (by decide)
      rw [e5, e6] at this
      intro q
      exact this (by rw [q])
    have HC5 := Lib.hid C5
    have HC6 := Lib.hid C6
    have hl5 := lt_blk C5
    have hl6 := lt_blk C6
    have HCW := Lib.hid (HC0.out.then_none hR)
    have HRW := Lib.hid (hR.same HR0.out)
    have hlR := lt_blk HRW.out
    clear hV hap h5 h6 C5 C6 hR
    set_option linter.unusedSimpArgs false in
    simp only [puts, putsL, List.contains_cons, List.contains_nil, Nat.reduceBEq, Bool.or_true, Bool.true_or, Bool.or_false, Bool.false_eq_true, if_true, if_false, Nat.reduceAdd, List.drop_succ_cons, List.drop_zero, e5, e6, e20, e23]
    generalize x 18 = x18
    generalize x 19 = x19
    generalize x 21 = x21
    generalize x 22 = x22
    clear e5 e6 e20 e23
    have HIL := infoW X
    have HIM := infoW Y
    have hz1 : (ds (words 0)).size = (ds (words X)).size := rfl
    have hz2 : (ds (words 0)).size = (ds (words Y)).size := rfl
    go_wp2_with (first | (refine wpList_store_row rfl 67 (Operand.tmp 5) (Operand.tmp 20) rfl b5 _ rfl rfl 67 _ HC5.out HIL hz1 (ds_one _) ?_) | (refine wpList_store_row rfl 67 (Operand.tmp 6) (Operand.tmp 23) rfl b6 _ rfl rfl 67 _ (row_other HC6.out (Ne.symm hne)) HIM hz2 (ds_one _) ?_))
    have HX0 := Lib.hid (show (((w'.setRow b5 (ds (words X))).setRow b6 (ds (words Y))).alloc (.cells (ds [0, 0, 0, 0, 0, 0]) 70)).heap[b5]? = some (.cells (ds (words X)) 67 (0, 0)) from alloc_old (row_other (row_blk HC5.out) hne))
    have HY0 := Lib.hid (show (((w'.setRow b5 (ds (words X))).setRow b6 (ds (words Y))).alloc (.cells (ds [0, 0, 0, 0, 0, 0]) 70)).heap[b6]? = some (.cells (ds (words Y)) 67 (0, 0)) from alloc_old (row_blk (row_other HC6.out (Ne.symm hne))))
    have HT0 := Lib.hid (show (((w'.setRow b5 (ds (words X))).setRow b6 (ds (words Y))).alloc (.cells (ds [0, 0, 0, 0, 0, 0]) 70)).heap[w'.heap.size]? = some (.cells (ds (itr (rowM X Y) 0 [0, 0, 0, 0, 0, 0])) 70 (0, 0)) by
      have := alloc_new ((w'.setRow b5 (ds (words X))).setRow b6 (ds (words Y))) (.cells (ds [0, 0, 0, 0, 0, 0]) 70)
      rwa [setRow_size, setRow_size] at this)
    have HR1 := Lib.hid (show (((w'.setRow b5 (ds (words X))).setRow b6 (ds (words Y))).alloc (.cells (ds [0, 0, 0, 0, 0, 0]) 70)).heap[w.heap.size + 1 + 1]? = some (.cells (bs (List.replicate 17 0)) 58 (0, 0)) from alloc_old (row_other (row_other HRW.out (by omega)) (by omega)))
    have HC1 := Lib.hid (((HCW.out.putRow (b := b5) (cs := ds (words X)) (.inr (by omega))).putRow (b := b6) (cs := ds (words Y)) (.inr (by omega))).alloc (.cells (ds [0, 0, 0, 0, 0, 0]) 70))
    go_loopw [24] (fun i wr => ∃ k : Nat, k ≤ 3 ∧ i = .int .i64 k ∧ wr.heap[b5]? = some (.cells (ds (words X)) 67 (0, 0)) ∧ wr.heap[b6]? = some (.cells (ds (words Y)) 67 (0, 0)) ∧ wr.heap[w'.heap.size]? = some (.cells (ds (itr (rowM X Y) k [0, 0, 0, 0, 0, 0])) 70 (0, 0)) ∧ wr.heap[w.heap.size + 1 + 1]? = some (.cells (bs (List.replicate 17 0)) 58 (0, 0)) ∧ Chg Nowhere w wr) (fun i _ => 3 - (intOf i).toNat)
    case atStart => exact ⟨0, by omega, rfl, HX0.out, HY0.out, HT0.out, HR1.out, HC1.out⟩
    case round =>
      obtain ⟨i, hi, rfl, hX, hY, hT, hR, hC⟩ := hrel
      have HX := Lib.hid hX
      have HY := Lib.hid hY
      have HT := Lib.hid hT
      have HR := Lib.hid hR
      have HCC := Lib.hid hC
      clear hX hY hT hR hC HX0 HY0 HT0 HR1 HC1
      obtain ⟨t0, ht0⟩ : ∃ t0, t0 = itr (rowM X Y) i [0, 0, 0, 0, 0, 0] := ⟨_, rfl⟩
      have HT0L := Lib.hid (show t0.length = 6 by rw [ht0]; exact rows_len X Y i)
      have HT0B := Lib.hid (show Low t0 by rw [ht0]; exact rows_low X Y i)
      rw [← ht0] at HT
      have HT0 := Lib.hid ht0
      clear ht0
      by_cases hi2 : i < 3
      · obtain ⟨p, hp⟩ : ∃ p, p = X / 18446744073709551616 ^ i % 18446744073709551616 := ⟨_, rfl⟩
        have hp2 : p < 18446744073709551616 := by rw [hp]; exact Nat.mod_lt _ (by decide)
        have HP := Lib.hid hp
        have HP2 := Lib.hid hp2
        clear hp hp2
        have hz0 : Hid (wr.heap[w'.heap.size]? = some (.cells (ds (itr (stepM X Y i) 0 (t0, 0)).1) 70 (0, 0))) := HT
        go_wp2_with fail
        go_loopw [9, 27] (fun c j wq => ∃ k : Nat, k ≤ 3 ∧ j = .int .i64 k ∧ (∃ ab : Nat, c = .int .u64 (ab : Int) ∧ Hid (ab = (itr (stepM X Y i) k (t0, 0)).2)) ∧ wq.heap[b5]? = some (.cells (ds (words X)) 67 (0, 0)) ∧ wq.heap[b6]? = some (.cells (ds (words Y)) 67 (0, 0)) ∧ wq.heap[w'.heap.size]? = some (.cells (ds (itr (stepM X Y i) k (t0, 0)).1) 70 (0, 0)) ∧ wq.heap[w.heap.size + 1 + 1]? = some (.cells (bs (List.replicate 17 0)) 58 (0, 0)) ∧ Chg Nowhere w wq) (fun _ j _ => 3 - (intOf j).toNat)
        case atStart => exact ⟨0, by omega, rfl, ⟨0, rfl, Lib.hid rfl⟩, HX.out, HY.out, hz0.out, HR.out, HCC.out⟩
        case round =>
          obtain ⟨k, hk, rfl, ⟨ab, rfl, HAB⟩, hX, hY, hT, hR, hC⟩ := hrel
          clear HX HY HT hz0 HR HCC
          have HX := Lib.hid hX
          have HY := Lib.hid hY
          have HT := Lib.hid hT
          have HR := Lib.hid hR
          have HCC := Lib.hid hC
          clear hX hY hT hR hC
          obtain ⟨t, ht⟩ : ∃ t, t = (itr (stepM X Y i) k (t0, 0)).1 := ⟨_, rfl⟩
          have HTL := Lib.hid (show t.length = 6 by rw [ht, itr_len]; exact HT0L.out)
          have hlow := itr_low (X := X) (Y := Y) (i := i) ⟨HT0B.out, (by decide : (0 : Nat) < 18446744073709551616)⟩ k
          rw [← ht, ← HAB.out] at hlow
          have HLow := Lib.hid hlow
          rw [← ht] at HT
          have HTT := Lib.hid ht
          clear ht hlow
          have ft : wr.frozen? ⟨w'.heap.size, i + 3, none⟩ = wr.frozen? ⟨w'.heap.size, i + 3, none⟩ := rfl
          clear ft
          by_cases hk2 : k < 3
          · obtain ⟨y, hy⟩ : ∃ y, y = Y / 18446744073709551616 ^ k % 18446744073709551616 := ⟨_, rfl⟩
            have hy2 : y < 18446744073709551616 := by rw [hy]; exact Nat.mod_lt _ (by decide)
            obtain ⟨z, hz⟩ : ∃ z, z = t.getD (i + k) 0 := ⟨_, rfl⟩
            have hz2 : z < 18446744073709551616 := by rw [hz]; exact HLow.out.1.get _
            have hzg : t[i + k]? = some z := by rw [hz, List.getD_eq_getElem?_getD, List.getElem?_eq_getElem (by rw [HTL.out]; omega)]; rfl
            have cX : wr.cell? ⟨b5, i, none⟩ = some (.int .u64 (p : Int)) := by rw [HP.out]; exact (cell_blk HX.out (o := i)).trans (ds_get (words_get _ _ hi2))
            have cY : wr.cell? ⟨b6, k, none⟩ = some (.int .u64 (y : Int)) := by rw [hy]; exact (cell_blk HY.out (o := k)).trans (ds_get (words_get _ _ hk2))
            have cT : wr.cell? ⟨w'.heap.size, i + k, none⟩ = some (.int .u64 (z : Int)) := (cell_blk HT.out (o := i + k)).trans (ds_get hzg)
            have fT : wr.frozen? ⟨w'.heap.size, i + k, none⟩ = false := frozen_blk HT.out
            obtain ⟨hh, hhi⟩ : ∃ hh, hh = p * y / 18446744073709551616 := ⟨_, rfl⟩
            obtain ⟨lo, hlo⟩ : ∃ lo, lo = p * y % 18446744073709551616 := ⟨_, rfl⟩
            have HM64 := Lib.hid (mul64_nm p y hh lo HP2.out hy2 hhi hlo)
            obtain ⟨s1, d1, hr1, hs1, hd1⟩ := add64_zero lo z
            obtain ⟨s2, d2, hr2, hs2, hd2⟩ := add64_zero s1 ab
            have hte := turn_eq HP2.out hy2 hz2 HLow.out.2 hhi hlo hs1 hd1 hs2 hd2
            have hb1 : hh + d1 ≤ 18446744073709551615 := by omega
            have hb2 : hh + d1 + d2 ≤ 18446744073709551615 := by omega
            have HNX := Lib.hid (show itr (stepM X Y i) (k + 1) (t0, 0) = (t.set (i + k) s2, hh + d1 + d2) from stepM_val HTT.out HAB.out HP.out hy hz hte.2.1 hte.2.2)
            clear hte hhi hlo hs1 hd1 hs2 hd2 hy hz hzg
            go_wp2_with fail
            go_quiet ((go_at_call 44; exact Calls.quiet_of_same (HM64.out _)))
            go_wp2_with fail
            go_roundw
            case rel => exact ⟨k + 1, by omega, by go_num, ⟨hh + d1 + d2, rfl, Lib.hid (by rw [HNX.out])⟩, (set_other _ (by simp <;> omega)).trans HX.out, (set_other _ (by simp <;> omega)).trans HY.out, (set_blk _ HT.out).trans (by rw [ds_set, HNX.out]), (set_other _ (by simp <;> omega)).trans HR.out, (HCC.out.drewN _).put (.inr (by omega))⟩
            case measure => simp [intOf]; omega
          · have HK := Lib.hid (show itr (rowM X Y) (i + 1) [0, 0, 0, 0, 0, 0] = t.set (i + 3) ab by
              show rowM X Y i (itr (rowM X Y) i [0, 0, 0, 0, 0, 0]) = _
              have hk3 : k = 3 := by omega
              subst hk3
              rw [← HT0.out, rowM, ← HTT.out, ← HAB.out])
            have hzg : ∃ z, t[i + 3]? = some z := ⟨_, List.getElem?_eq_getElem (by rw [HTL.out]; omega)⟩
            obtain ⟨z, hzg⟩ := hzg
            have cT : wr.cell? ⟨w'.heap.size, i + 3, none⟩ = some (.int .u64 (z : Int)) := (cell_blk HT.out (o := i + 3)).trans (ds_get hzg)
            have fT : wr.frozen? ⟨w'.heap.size, i + 3, none⟩ = false := frozen_blk HT.out
            clear hzg
            go_wp2_with fail
            go_roundw
            case rel => exact ⟨i + 1, by omega, by go_num, (set_other _ (by simp <;> omega)).trans HX.out, (set_other _ (by simp <;> omega)).trans HY.out, (set_blk _ HT.out).trans (by rw [ds_set, HK.out]), (set_other _ (by simp <;> omega)).trans HR.out, HCC.out.put (.inr (by omega))⟩
            case measure => simp [intOf]; omega
      · obtain ⟨Z, hZ⟩ : ∃ Z, Z = X * Y := ⟨_, rfl⟩
        have hZ2 : Z < 1852673427797059126777135760139006525652319754650249024631321344126610074238976 := by rw [hZ]; exact prod_lt HX2.out HY2.out
        have HT6 := Lib.hid (show t0 = words6 Z by
          have hi3 : i = 3 := by omega
          subst hi3
          rw [HT0.out, hZ]
          exact mulT_eq (by have := HX2.out; omega) (by have := HY2.out; omega))
        have HZ := Lib.hid hZ
        have HZ2 := Lib.hid hZ2
        have HUP := Lib.hid (up_eq hZ2)
        have HLO := Lib.hid (low_eq Z)
        clear hZ hZ2
        obtain ⟨z0, h0⟩ : ∃ z, z = Z % 18446744073709551616 := ⟨_, rfl⟩
        obtain ⟨z1, h1⟩ : ∃ z, z = Z / 18446744073709551616 % 18446744073709551616 := ⟨_, rfl⟩
        obtain ⟨z2, h2⟩ : ∃ z, z = Z / 340282366920938463463374607431768211456 % 18446744073709551616 := ⟨_, rfl⟩
        obtain ⟨z3, h3⟩ : ∃ z, z = Z / 6277101735386680763835789423207666416102355444464034512896 % 18446744073709551616 := ⟨_, rfl⟩
        obtain ⟨z4, h4⟩ : ∃ z, z = Z / 115792089237316195423570985008687907853269984665640564039457584007913129639936 % 18446744073709551616 := ⟨_, rfl⟩
        rw [← h2, ← h3, ← h4] at HUP
        rw [← h0, ← h1, ← h2] at HLO
        have l0 : z0 < 18446744073709551616 := by rw [h0]; exact Nat.mod_lt _ (by decide)
        have l1 : z1 < 18446744073709551616 := by rw [h1]; exact Nat.mod_lt _ (by decide)
        have l2 : z2 < 18446744073709551616 := by rw [h2]; exact Nat.mod_lt _ (by decide)
        have l3 : z3 < 18446744073709551616 := by rw [h3]; exact Nat.mod_lt _ (by decide)
        have l4 : z4 < 18446744073709551616 := by rw [h4]; exact Nat.mod_lt _ (by decide)
        have hg6 : ∀ (k v : Nat), (words6 Z)[k]? = some v → wr.cell? ⟨w'.heap.size, k, none⟩ = some (.int .u64 (v : Int)) := fun k v hv => (cell_blk HT.out (o := k)).trans (ds_get (by rw [HT6.out]; exact hv))
        have c0 := hg6 0 z0 (by rw [h0]; rfl)
        have c1 := hg6 1 z1 (by rw [h1]; rfl)
        have c2 := hg6 2 z2 (by rw [h2]; rfl)
        have c3 := hg6 3 z3 (by rw [h3]; rfl)
        have c4 := hg6 4 z4 (by rw [h4]; rfl)
        have u0 := up_word l2 l3
        have u1 := up_word l3 l4
        have a2 := and3 l2
        clear hg6 h0 h1 h2 h3 h4 l0 l1 l2 l3 l4
        obtain ⟨v0, e0⟩ : ∃ v, v = z2 / 4 + z3 % 4 * 4611686018427387904 := ⟨_, rfl⟩
        obtain ⟨v1, e1⟩ : ∃ v, v = z3 / 4 + z4 % 4 * 4611686018427387904 := ⟨_, rfl⟩
        obtain ⟨v2, e2⟩ : ∃ v, v = z4 / 4 := ⟨_, rfl⟩
        obtain ⟨m2, e3⟩ : ∃ v, v = z2 % 4 := ⟨_, rfl⟩
        have e2' : (z4 : Int) / 4 = (v2 : Int) := by omega
        rw [← e0] at u0
        rw [← e1] at u1
        rw [← e3] at a2
        rw [← e0, ← e1, ← e2] at HUP
        rw [← e3] at HLO
        clear e0 e1 e2 e3
        have hltT := lt_blk HT.out
        have hltR := lt_blk HR.out
        go_wp2_with fail
        obtain ⟨W5, rfl⟩ : ∃ W5, W5 = wr := ⟨_, rfl⟩
        obtain ⟨U, hU⟩ : ∃ U, U = Z / 1361129467683753853853498429727072845824 := ⟨_, rfl⟩
        obtain ⟨L, hL⟩ : ∃ L, L = Z % 1361129467683753853853498429727072845824 := ⟨_, rfl⟩
        have HUL := Lib.hid (show U < 1361129467683753853853498429727072845824 by rw [hU]; have := HZ2.out; omega)
        have HLL := Lib.hid (show L < 1361129467683753853853498429727072845824 by rw [hL]; exact Nat.mod_lt _ (by decide))
        have HF := Lib.hid (show (L + 5 * U) % q = val l * val m % q by rw [hU, hL, HE.out, ← HZ.out]; exact fold1_mod Z)
        rw [← hU] at HUP
        rw [← hL] at HLO
        clear hU hL
        have HU0 := Lib.hid (show ((W5.alloc (.cells (ds [v0, v1, v2]) 67)).alloc (.cells (ds [z0, z1, m2]) 67)).heap[W5.heap.size]? = some (.cells (ds (words U)) 67 (0, 0)) by rw [HUP.out]; exact alloc_old (alloc_new _ _))
        have HL0 := Lib.hid (show ((W5.alloc (.cells (ds [v0, v1, v2]) 67)).alloc (.cells (ds [z0, z1, m2]) 67)).heap[W5.heap.size + 1]? = some (.cells (ds (words (L + 0 * U))) 67 (0, 0)) by rw [show L + 0 * U = L by omega, HLO.out]; exact new_1 _ _ _)
        have HR2 := Lib.hid (show ((W5.alloc (.cells (ds [v0, v1, v2]) 67)).alloc (.cells (ds [z0, z1, m2]) 67)).heap[w.heap.size + 1 + 1]? = some (.cells (bs (List.replicate 17 0)) 58 (0, 0)) from alloc_old (alloc_old HR.out))
        have HC2 := Lib.hid ((HCC.out.alloc (.cells (ds [v0, v1, v2]) 67)).alloc (.cells (ds [z0, z1, m2]) 67))
        have hws := HCC.out.size
        clear HX HY HT HR HCC c0 c1 c2 c3 c4 u0 u1 a2 e2'
        go_loopw [100] (fun i wq => ∃ n : Nat, n ≤ 5 ∧ i = .int .i64 n ∧ wq.heap[W5.heap.size]? = some (.cells (ds (words U)) 67 (0, 0)) ∧ wq.heap[W5.heap.size + 1]? = some (.cells (ds (words (L + n * U))) 67 (0, 0)) ∧ wq.heap[w.heap.size + 1 + 1]? = some (.cells (bs (List.replicate 17 0)) 58 (0, 0)) ∧ Chg Nowhere w wq) (fun i _ => 5 - (intOf i).toNat)
        case atStart => exact ⟨0, by omega, rfl, HU0.out, HL0.out, HR2.out, HC2.out⟩
        case round =>
          obtain ⟨n, hn, rfl, hU, hL, hR, hC⟩ := hrel
          have HU := Lib.hid hU
          have HLn := Lib.hid hL
          have HR := Lib.hid hR
          have HCC := Lib.hid hC
          clear hU hL hR hC HU0 HL0 HR2 HC2
          obtain ⟨M, hM⟩ : ∃ M, M = L + n * U := ⟨_, rfl⟩
          rw [← hM] at HLn
          have HMM := Lib.hid hM
          clear hM
          by_cases hn2 : n < 5
          · obtain ⟨T, hT⟩ : ∃ T, T = [sumW M U 0, sumW M U 1, sumW M U 2] := ⟨_, rfl⟩
            have HT := Lib.hid hT
            have HTL := Lib.hid (show T.length = 3 by rw [hT]; rfl)
            have HTE := Lib.hid (show words (L + (n + 1) * U) = T by rw [hT, ← sumW_eq, HMM.out, Nat.succ_mul, Nat.add_assoc])
            clear hT
            have HX0 := Lib.hid (show wr.heap[W5.heap.size + 1]? = some (.cells (ds (T.take 0 ++ (words M).drop 0)) 67 (0, 0)) from HLn.out)
            go_wp2_with fail
            go_loopw [16, 102] (fun c i wq => ∃ k : Nat, k ≤ 3 ∧ i = .int .i64 k ∧ (∃ b : Nat, c = .int .u64 (b : Int) ∧ Hid (b = carW M U k)) ∧ wq.heap[W5.heap.size + 1]? = some (.cells (ds (T.take k ++ (words M).drop k)) 67 (0, 0)) ∧ wq.heap[W5.heap.size]? = some (.cells (ds (words U)) 67 (0, 0)) ∧ wq.heap[w.heap.size + 1 + 1]? = some (.cells (bs (List.replicate 17 0)) 58 (0, 0)) ∧ Chg Nowhere w wq) (fun _ i _ => 3 - (intOf i).toNat)
            case atStart => exact ⟨0, by omega, rfl, ⟨0, rfl, Lib.hid rfl⟩, HX0.out, HU.out, HR.out, HCC.out⟩
            case round =>
              obtain ⟨k, hk, rfl, ⟨b, rfl, HBr⟩, hX, hY, hR, hC⟩ := hrel
              have HX := Lib.hid hX
              have HY := Lib.hid hY
              have HRR := Lib.hid hR
              have HCX := Lib.hid hC
              have hbl : b ≤ 1 := by rw [HBr.out]; exact carW_le _ _ _
              clear hX hY hR hC HX0 HU HLn HR HCC
              by_cases hk2 : k < 3
              · obtain ⟨y, hy⟩ : ∃ y, y = M / 18446744073709551616 ^ k % 18446744073709551616 := ⟨_, rfl⟩
                obtain ⟨z, hz⟩ : ∃ z, z = U / 18446744073709551616 ^ k % 18446744073709551616 := ⟨_, rfl⟩
                have cy : wr.cell? ⟨W5.heap.size + 1, k, none⟩ = some (.int .u64 (y : Int)) := (cell_blk HX.out (o := k)).trans (ds_get (by rw [List.getElem?_append_right (by simp [HTL.out]; omega), List.getElem?_drop, List.length_take, HTL.out, Nat.min_eq_left (by omega), Nat.sub_self, Nat.add_zero, hy]; exact words_get _ _ hk2))
                have cz : wr.cell? ⟨W5.heap.size, k, none⟩ = some (.int .u64 (z : Int)) := by rw [hz]; exact (cell_blk HY.out (o := k)).trans (ds_get (words_get _ _ hk2))
                have ft : wr.frozen? ⟨W5.heap.size + 1, k, none⟩ = false := frozen_blk HX.out
                obtain ⟨s, d, hrun, hs, hd⟩ := add64_ex y z b hbl
                have HSD := Lib.hid (show s = sumW M U k ∧ d = carW M U (k + 1) by rw [hs, hd, HBr.out, hy, hz]; exact ⟨rfl, rfl⟩)
                have HTK := Lib.hid (three_get HT.out hk2)
                rw [← HSD.out.1] at HTK
                clear hs hd hy hz
                go_wp2_with fail
                go_region
                go_wp2_with fail
                go_roundw
                case rel => exact ⟨k + 1, by omega, by go_num, ⟨d, rfl, Lib.hid HSD.out.2⟩, (set_blk _ HX.out).trans (by rw [ds_set, two_set T (words M) (by rw [HTL.out]; omega) hk2 HTK.out]), (set_other _ (by simp <;> omega)).trans HY.out, (set_other _ (by simp <;> omega)).trans HRR.out, (HCX.out.put (.inr (by omega))).drew⟩
                case measure => simp [intOf]; omega
              · have HJ := Lib.hid (show words (L + (n + 1) * U) = T.take k ++ (words M).drop k by rw [List.take_of_length_le (by rw [HTL.out]; omega), List.drop_of_length_le (by show 3 ≤ k; omega), List.append_nil]; exact HTE.out)
                rw [← HJ.out] at HX
                go_wp2_with fail
                go_roundw
                case rel => exact ⟨n + 1, by omega, by go_num, HY.out, HX.out, HRR.out, HCX.out⟩
                case measure => simp [intOf]; omega
          · have HJ := Lib.hid (show M % q = val l * val m % q by rw [HMM.out, show n = 5 by omega]; exact HF.out)
            have HLT := Lib.hid (show M < 6277101735386680763835789423207666416102355444464034512896 by rw [HMM.out, show n = 5 by omega]; have := HUL.out; have := HLL.out; omega)
            have HIQ := infoW M
            have HIO := Lib.hid (show InfoArr 58 (bs (bytesOf 17 (M % q))).size by rw [bs_size, bytesOf_len]; exact info17)
            go_wp2_with (first | (refine wpList_load_row rfl 67 (Operand.tmp 15) rfl (W5.heap.size + 1) rfl 67 _ (0, 0) _ HLn.out Tryd.underlying67 rfl HIQ ?_) | (go_at_call 47; refine (canon_any M HLT.out _ (HG.out.chg HCC.out)).mono ?_; rintro e w2 ⟨rfl, hC2⟩; have R2 := Lib.hid (hC2.same HR.out); have HC2 := Lib.hid (HCC.out.then_none hC2); clear hC2) | (go_at_call 46; refine (store_any _ _).mono ?_; rintro e w3 ⟨rfl, hC3⟩; have R3 := Lib.hid (hC3.same R2.out); have HC3 := Lib.hid (HC2.out.then_none hC3); clear hC3) | (refine wpList_store_row rfl 58 (Operand.tmp 4) (Operand.tmp 122) rfl (w.heap.size + 1 + 1) _ rfl rfl 58 _ R3.out HIO.out (by rw [bs_size, bs_size, bytesOf_len]; rfl) (bs_one _) ?_))
            refine bodyPost_ret (results_cell_row rfl _ _ (w.heap.size + 1 + 1) _ _ (0, 0) _ rfl (row_blk R3.out) Tryd.underlying58 rfl HIO.out) rfl ⟨by rw [HJ.out], HC3.out.putRow (.inr (by omega))⟩
end Go.Proofs.YtebmbapaedlmiaaDoor
