/-
  Package clamp: Add (the walk).
  The product of two numbers of three words, word by word (plain).
-/
import Derived.Test.YtebmbapaedlmiaaDoorSAeH

namespace Go.Proofs.YtebmbapaedlmiaaDoor
open Go.RowKit Ae
set_option linter.unusedVariables false

/-- What is carried, and what stands, when two numbers are added word by word. -/
def carW (X Y : Nat) : Nat → Nat
  | 0 => 0
  | k + 1 => (X / 18446744073709551616 ^ k % 18446744073709551616 + Y / 18446744073709551616 ^ k % 18446744073709551616 + carW X Y k) / 18446744073709551616
def sumW (X Y k : Nat) : Nat := (X / 18446744073709551616 ^ k % 18446744073709551616 + Y / 18446744073709551616 ^ k % 18446744073709551616 + carW X Y k) % 18446744073709551616
theorem carW_le (X Y : Nat) : ∀ k, carW X Y k ≤ 1
  | 0 => by simp [carW]
  | k + 1 => by
    have := carW_le X Y k
    have h1 : X / 18446744073709551616 ^ k % 18446744073709551616 < 18446744073709551616 := Nat.mod_lt _ (by decide)
    have h2 : Y / 18446744073709551616 ^ k % 18446744073709551616 < 18446744073709551616 := Nat.mod_lt _ (by decide)
    show (_ + _ + _) / _ ≤ 1
    omega
theorem add_div_B (X Y c : Nat) : (X + Y + c) / 18446744073709551616 = X / 18446744073709551616 + Y / 18446744073709551616 + (X % 18446744073709551616 + Y % 18446744073709551616 + c) / 18446744073709551616 := by omega
theorem add_mod_B (X Y c : Nat) : (X + Y + c) % 18446744073709551616 = (X % 18446744073709551616 + Y % 18446744073709551616 + c) % 18446744073709551616 := by omega
theorem div_B2 (X : Nat) : X / 340282366920938463463374607431768211456 = X / 18446744073709551616 / 18446744073709551616 := by rw [Nat.div_div_eq_div_mul]
theorem sumW_eq (X Y : Nat) : words (X + Y) = [sumW X Y 0, sumW X Y 1, sumW X Y 2] := by
  have h0 := add_div_B X Y 0
  rw [Nat.add_zero, Nat.add_zero] at h0
  simp only [words, sumW, carW, Nat.reducePow, Nat.div_one, Nat.pow_zero, List.cons.injEq, and_true, Nat.add_zero, div_B2]
  refine ⟨?_, ?_, ?_⟩
  · omega
  · rw [h0, add_mod_B]
  · rw [h0, add_div_B, add_mod_B]
set_option maxHeartbeats 1600000 in
set_option maxRecDepth 100000 in
theorem add_any (l m : List Nat) (hl : l.length = 17) (hb : Byt l) (hm : m.length = 17) (hc : Byt m) (w : World) (hg : Glob w) :
    Calls Tryd.prog 33 #[.agg (bs l), .agg (bs m)] w (Gives w (.agg (bs (bytesOf 17 ((val l + val m) % q))))) := by
  have HL := Lib.hid hl
  have HB := Lib.hid hb
  have HM := Lib.hid hm
  have HC := Lib.hid hc
  have HG := Lib.hid hg
  clear hl hb hg hm hc
  have hu := Tryd.underlying58
  have hi1 : (Tryd.prog.info? 58).map (·.size) = some (bl l).length := by rw [bl_len, HL.out]; exact info17
  have hi2 : (Tryd.prog.info? 58).map (·.size) = some (bl m).length := by rw [bl_len, HM.out]; exact info17
  go_enter Tryd.func33, Tryd.ntmps33
  go_wp2_with fail
  have HA0 := Lib.hid (show (((w.alloc (.cells (bs l) 58)).alloc (.cells (bs m) 58)).alloc (.cells (bs (List.replicate 17 0)) 58)).rangeAt w.heap.size 0 (bl l) from rangeAt_blk (alloc_old (alloc_old (alloc_new _ _))))
  have HB0 := Lib.hid (show (((w.alloc (.cells (bs l) 58)).alloc (.cells (bs m) 58)).alloc (.cells (bs (List.replicate 17 0)) 58)).rangeAt (w.heap.size + 1) 0 (bl m) from rangeAt_blk (alloc_old (new_1 _ _ _)))
  have HR0 := Lib.hid (show (((w.alloc (.cells (bs l) 58)).alloc (.cells (bs m) 58)).alloc (.cells (bs (List.replicate 17 0)) 58)).heap[w.heap.size + 1 + 1]? = some (.cells (bs (List.replicate 17 0)) 58 (0, 0)) from new_2 _ _ _ _)
  have HC0 := Lib.hid ((((Chg.refl Nowhere w).alloc (.cells (bs l) 58)).alloc (.cells (bs m) 58)).alloc (.cells (bs (List.replicate 17 0)) 58))
  have HZ0 := Lib.hid (sz3 w (.cells (bs l) 58) (.cells (bs m) 58) (.cells (bs (List.replicate 17 0)) 58))
  refine wp_region_calm0 6 [9, 10, 11, 12, 5, 6] [5, 6] [⟨[9], fun v _ => v = [.agg (bs l)]⟩, ⟨[10], fun v _ => v = [.agg (ds (words (val l)))]⟩, ⟨[11], fun v _ => v = [.agg (bs m)]⟩, ⟨[12], fun v _ => v = [.agg (ds (words (val m)))]⟩,
    ⟨[5], IsNew (w.heap.size + 1 + 1 + 1) 67 (ds (words 0))⟩, ⟨[6], IsNew (w.heap.size + 1 + 1 + 1) 67 (ds (words 0))⟩] (Chg Nowhere) (by kernel_rfl) (by kernel_rfl) (by kernel_rfl) (Chg.refl _) Chg.trans' Chg.size (by decide) (Chg.refl Nowhere _).drew ?_ ?_ ?_
  · exact ⟨fun _ _ _ _ h => h, fun _ _ _ _ h => h, fun _ _ _ _ h => h, fun _ _ _ _ h => h, fun _ _ _ hR h => IsNew.chg h hR, fun _ _ _ hR h => IsNew.chg h hR, trivial⟩
  · simp only [List.take_succ_cons, List.take_zero]
    refine Steps.cons ?_ (Steps.cons ?_ (Steps.cons ?_ (Steps.cons ?_ (Steps.cons ?_ (Steps.cons ?_ Steps.nil)))))
    · intro x w' hR hd K Q' hK
      exact wp_load_mid 58 (Operand.tmp 2) rfl w.heap.size 0 rfl (bl l) _ (rangeAt_chg HA0.out hR) hu rfl hi1 (hK _ _ (Chg.refl _ _) rfl (fun d h1 h2 => by cases h1; simp at h2))
    · intro x w' hR hd K Q' hK
      exact wp_call_fn rfl enters_load [.agg (bs l)] (hd 0 (by kernel_rfl)) ((load_any l HL.out HB.out _).mono fun e w1 ⟨he, hC1⟩ => ⟨_, he, hK _ _ hC1 rfl (fun d h1 h2 => by cases h1; simp at h2)⟩)
    · intro x w' hR hd K Q' hK
      exact wp_load_mid 58 (Operand.tmp 3) rfl (w.heap.size + 1) 0 rfl (bl m) _ (rangeAt_chg HB0.out hR) hu rfl hi2 (hK _ _ (Chg.refl _ _) rfl (fun d h1 h2 => by cases h1; simp at h2))
    · intro x w' hR hd K Q' hK
      exact wp_call_fn rfl enters_load [.agg (bs m)] (hd 2 (by kernel_rfl)) ((load_any m HM.out HC.out _).mono fun e w1 ⟨he, hC1⟩ => ⟨_, he, hK _ _ hC1 rfl (fun d h1 h2 => by cases h1; simp at h2)⟩)
    · intro x w' hR hd K Q' hK
      exact wp_alloc_op rfl Tryd.zeroValue67 (hK _ _ ((Chg.refl _ _).alloc _) ⟨_, rfl, Nat.le_trans (Nat.le_of_eq HZ0.out.symm) hR.size, alloc_new _ _⟩ (fun _ _ _ => ⟨_, rfl, Nat.le_refl _, by simp⟩))
    · intro x w' hR hd K Q' hK
      exact wp_alloc_op rfl Tryd.zeroValue67 (hK _ _ ((Chg.refl _ _).alloc _) ⟨_, rfl, Nat.le_trans (Nat.le_of_eq HZ0.out.symm) hR.size, alloc_new _ _⟩ (fun _ _ _ => ⟨_, rfl, Nat.le_refl _, by simp⟩))
  · intro x w' hR hV hap
    have e10 : x 10 = .agg (ds (words (val l))) := List.head_eq_of_cons_eq (hV 1 (by decide))
    have e12 : x 12 = .agg (ds (words (val m))) := List.head_eq_of_cons_eq (hV 3 (by decide))
    obtain ⟨b5, h5, B5, C5⟩ := hV 4 (by decide)
    obtain ⟨b6, h6, B6, C6⟩ := hV 5 (by decide)
    have e5 : x 5 = .pointer (some ⟨b5, 0, none⟩) := List.head_eq_of_cons_eq h5
    have e6 : x 6 = .pointer (some ⟨b6, 0, none⟩) := List.head_eq_of_cons_eq h6
    have hne : b5 ≠ b6 := by
      have := hap 5 6 (by decide) (by decide) (by decide)
      rw [e5, e6] at this
      intro q
      exact this (by rw [q])
    have HC5 := Lib.hid C5
    have HC6 := Lib.hid C6
    have HCW := Lib.hid (HC0.out.then_none hR)
    have HRW := Lib.hid (hR.same HR0.out)
    clear hV hap h5 h6 C5 C6 hR
    set_option linter.unusedSimpArgs false in
    simp only [puts, putsL, List.contains_cons, List.contains_nil, Nat.reduceBEq, Bool.or_true, Bool.true_or, Bool.or_false, Bool.false_eq_true, if_true, if_false, Nat.reduceAdd, List.drop_succ_cons, List.drop_zero, e5, e6, e10, e12]
    generalize x 9 = x9
    generalize x 11 = x11
    clear e5 e6 e10 e12
    have HIL := infoW (val l)
    have HIM := infoW (val m)
    have hz1 : (ds (words 0)).size = (ds (words (val l))).size := rfl
    have hz2 : (ds (words 0)).size = (ds (words (val m))).size := rfl
    go_wp2_with (first | (refine wpList_store_row rfl 67 (Operand.tmp 5) (Operand.tmp 10) rfl b5 _ rfl rfl 67 _ HC5.out HIL hz1 (ds_one _) ?_) | (refine wpList_store_row rfl 67 (Operand.tmp 6) (Operand.tmp 12) rfl b6 _ rfl rfl 67 _ (row_other HC6.out (Ne.symm hne)) HIM hz2 (ds_one _) ?_))
    obtain ⟨T, hT⟩ : ∃ T, T = [sumW (val l) (val m) 0, sumW (val l) (val m) 1, sumW (val l) (val m) 2] := ⟨_, rfl⟩
    have HT := Lib.hid hT
    have HTL := Lib.hid (show T.length = 3 by rw [hT]; rfl)
    have HTE := Lib.hid (show words (val l + val m) = T by rw [hT]; exact sumW_eq _ _)
    clear hT
    have HX0 := Lib.hid (show ((w'.setRow b5 (ds (words (val l)))).setRow b6 (ds (words (val m)))).heap[b5]? = some (.cells (ds (T.take 0 ++ (words (val l)).drop 0)) 67 (0, 0)) from row_other (row_blk HC5.out) hne)
    have HY0 := Lib.hid (show ((w'.setRow b5 (ds (words (val l)))).setRow b6 (ds (words (val m)))).heap[b6]? = some (.cells (ds (words (val m))) 67 (0, 0)) from row_blk (row_other HC6.out (Ne.symm hne)))
    have HR1 := Lib.hid (show ((w'.setRow b5 (ds (words (val l)))).setRow b6 (ds (words (val m)))).heap[w.heap.size + 1 + 1]? = some (.cells (bs (List.replicate 17 0)) 58 (0, 0)) from row_other (row_other HRW.out (by omega)) (by omega))
    have HC1 := Lib.hid ((HCW.out.putRow (b := b5) (cs := ds (words (val l))) (.inr (by omega))).putRow (b := b6) (cs := ds (words (val m))) (.inr (by omega)))
    go_loopw [7, 13] (fun c i wr => ∃ k : Nat, k ≤ 3 ∧ i = .int .i64 k ∧ (∃ b : Nat, c = .int .u64 (b : Int) ∧ Hid (b = carW (val l) (val m) k)) ∧ wr.heap[b5]? = some (.cells (ds (T.take k ++ (words (val l)).drop k)) 67 (0, 0)) ∧ wr.heap[b6]? = some (.cells (ds (words (val m))) 67 (0, 0)) ∧ wr.heap[w.heap.size + 1 + 1]? = some (.cells (bs (List.replicate 17 0)) 58 (0, 0)) ∧ Chg Nowhere w wr) (fun _ i _ => 3 - (intOf i).toNat)
    case atStart => exact ⟨0, by omega, rfl, ⟨0, rfl, Lib.hid rfl⟩, HX0.out, HY0.out, HR1.out, HC1.out⟩
    case round =>
      obtain ⟨k, hk, rfl, ⟨b, rfl, HBr⟩, hX, hY, hR, hC⟩ := hrel
      have HX := Lib.hid hX
      have HY := Lib.hid hY
      have HR := Lib.hid hR
      have HCC := Lib.hid hC
      have hbl : b ≤ 1 := by rw [HBr.out]; exact carW_le _ _ _
      clear hX hY hR hC HX0 HY0 HR1 HC1
      by_cases hk2 : k < 3
      · obtain ⟨y, hy⟩ : ∃ y, y = val l / 18446744073709551616 ^ k % 18446744073709551616 := ⟨_, rfl⟩
        obtain ⟨z, hz⟩ : ∃ z, z = val m / 18446744073709551616 ^ k % 18446744073709551616 := ⟨_, rfl⟩
        have cy : wr.cell? ⟨b5, k, none⟩ = some (.int .u64 (y : Int)) := (cell_blk HX.out (o := k)).trans (ds_get (by rw [List.getElem?_append_right (by simp [HTL.out]; omega), List.getElem?_drop, List.length_take, HTL.out, Nat.min_eq_left (by omega), Nat.sub_self, Nat.add_zero, hy]; exact words_get _ _ hk2))
        have cz : wr.cell? ⟨b6, k, none⟩ = some (.int .u64 (z : Int)) := by rw [hz]; exact (cell_blk HY.out (o := k)).trans (ds_get (words_get _ _ hk2))
        have ft : wr.frozen? ⟨b5, k, none⟩ = false := frozen_blk HX.out
        obtain ⟨s, d, hrun, hs, hd⟩ := add64_ex y z b hbl
        have HSD := Lib.hid (show s = sumW (val l) (val m) k ∧ d = carW (val l) (val m) (k + 1) by rw [hs, hd, HBr.out, hy, hz]; exact ⟨rfl, rfl⟩)
        have HTK := Lib.hid (three_get HT.out hk2)
        rw [← HSD.out.1] at HTK
        clear hs hd hy hz
        go_wp2_with fail
        go_region
        go_wp2_with fail
        go_roundw
        case rel => exact ⟨k + 1, by omega, by go_num, ⟨d, rfl, Lib.hid HSD.out.2⟩, (set_blk _ HX.out).trans (by rw [ds_set, two_set T (words (val l)) (by rw [HTL.out]; omega) hk2 HTK.out]), (set_other _ (by simp <;> omega)).trans HY.out, (set_other _ (by simp <;> omega)).trans HR.out, (HCC.out.put (.inr (by omega))).drew⟩
        case measure => simp [intOf]; omega
      · have HJ := Lib.hid (show words (val l + val m) = T.take k ++ (words (val l)).drop k by rw [List.take_of_length_le (by rw [HTL.out]; omega), List.drop_of_length_le (by show 3 ≤ k; omega), List.append_nil]; exact HTE.out)
        rw [← HJ.out] at HX
        have HIQ := infoW (val l + val m)
        have HIO := Lib.hid (show InfoArr 58 (bs (bytesOf 17 ((val l + val m) % q))).size by rw [bs_size, bytesOf_len]; exact info17)
        have HLT := Lib.hid (show val l + val m < 6277101735386680763835789423207666416102355444464034512896 by have := val17_lt HB.out HL.out; have := val17_lt HC.out HM.out; omega)
        go_wp2_with (first | (refine wpList_load_row rfl 67 (Operand.tmp 5) rfl b5 rfl 67 _ (0, 0) _ HX.out Tryd.underlying67 rfl HIQ ?_) | (go_at_call 47; refine (canon_any (val l + val m) HLT.out _ (HG.out.chg HCC.out)).mono ?_; rintro e w2 ⟨rfl, hC2⟩; have R2 := Lib.hid (hC2.same HR.out); have HC2 := Lib.hid (HCC.out.then_none hC2); clear hC2) | (go_at_call 46; refine (store_any _ _).mono ?_; rintro e w3 ⟨rfl, hC3⟩; have R3 := Lib.hid (hC3.same R2.out); have HC3 := Lib.hid (HC2.out.then_none hC3); clear hC3) | (refine wpList_store_row rfl 58 (Operand.tmp 4) (Operand.tmp 32) rfl (w.heap.size + 1 + 1) _ rfl rfl 58 _ R3.out HIO.out (by rw [bs_size, bs_size, bytesOf_len]; rfl) (bs_one _) ?_))
        refine bodyPost_ret (results_cell_row rfl _ _ (w.heap.size + 1 + 1) _ _ (0, 0) _ rfl (row_blk R3.out) Tryd.underlying58 rfl HIO.out) rfl ⟨rfl, HC3.out.putRow (.inr (by omega))⟩
end Go.Proofs.YtebmbapaedlmiaaDoor

namespace Go.Proofs.YtebmbapaedlmiaaDoor
namespace Ae

/-- One turn of the inner loop: what stands in t, and what is carried. -/
def stepM (X Y i k : Nat) (s : List Nat × Nat) : List Nat × Nat :=
  (s.1.set (i + k) ((X / 18446744073709551616 ^ i % 18446744073709551616 * (Y / 18446744073709551616 ^ k % 18446744073709551616) + s.1.getD (i + k) 0 + s.2) % 18446744073709551616),
    (X / 18446744073709551616 ^ i % 18446744073709551616 * (Y / 18446744073709551616 ^ k % 18446744073709551616) + s.1.getD (i + k) 0 + s.2) / 18446744073709551616)
def rowM (X Y i : Nat) (t : List Nat) : List Nat := (itr (stepM X Y i) 3 (t, 0)).1.set (i + 3) (itr (stepM X Y i) 3 (t, 0)).2
def mulT (X Y : Nat) : List Nat := itr (rowM X Y) 3 [0, 0, 0, 0, 0, 0]

theorem mul_lt {x y : Nat} (hx : x < 18446744073709551616) (hy : y < 18446744073709551616) : x * y ≤ 340282366920938463426481119284349108225 :=
  Nat.mul_le_mul (show x ≤ 18446744073709551615 by omega) (show y ≤ 18446744073709551615 by omega)
theorem row3 {p0 p1 p2 a b c : Nat} (h0 : p0 ≤ 340282366920938463426481119284349108225) (h1 : p1 ≤ 340282366920938463426481119284349108225) (h2 : p2 ≤ 340282366920938463426481119284349108225)
    (ha : a < 18446744073709551616) (hb : b < 18446744073709551616) (hc : c < 18446744073709551616) :
    ∃ r0 r1 r2 r3, r0 = (p0 + a + 0) % 18446744073709551616 ∧ r1 = (p1 + b + (p0 + a + 0) / 18446744073709551616) % 18446744073709551616 ∧
      r2 = (p2 + c + (p1 + b + (p0 + a + 0) / 18446744073709551616) / 18446744073709551616) % 18446744073709551616 ∧ r3 = (p2 + c + (p1 + b + (p0 + a + 0) / 18446744073709551616) / 18446744073709551616) / 18446744073709551616 ∧
      r0 < 18446744073709551616 ∧ r1 < 18446744073709551616 ∧ r2 < 18446744073709551616 ∧ r3 < 18446744073709551616 ∧
      r0 + 18446744073709551616 * r1 + 340282366920938463463374607431768211456 * r2 + 6277101735386680763835789423207666416102355444464034512896 * r3 =
        a + 18446744073709551616 * b + 340282366920938463463374607431768211456 * c + (p0 + 18446744073709551616 * p1 + 340282366920938463463374607431768211456 * p2) := by
  refine ⟨_, _, _, _, rfl, rfl, rfl, rfl, Nat.mod_lt _ (by decide), Nat.mod_lt _ (by decide), Nat.mod_lt _ (by decide), ?_, ?_⟩
  · omega
  · omega
theorem three_of {X : Nat} (h : X < 6277101735386680763835789423207666416102355444464034512896) :
    X = X % 18446744073709551616 + 18446744073709551616 * (X / 18446744073709551616 % 18446744073709551616) + 340282366920938463463374607431768211456 * (X / 340282366920938463463374607431768211456 % 18446744073709551616) := by omega
theorem row_mul (x y0 y1 y2 : Nat) : x * (y0 + 18446744073709551616 * y1 + 340282366920938463463374607431768211456 * y2) = x * y0 + 18446744073709551616 * (x * y1) + 340282366920938463463374607431768211456 * (x * y2) := by
  rw [Nat.mul_add, Nat.mul_add, Nat.mul_left_comm x _ y1, Nat.mul_left_comm x _ y2]
theorem expand (x0 x1 x2 y0 y1 y2 : Nat) :
    (x0 + 18446744073709551616 * x1 + 340282366920938463463374607431768211456 * x2) * (y0 + 18446744073709551616 * y1 + 340282366920938463463374607431768211456 * y2) = (x0 * y0 + 18446744073709551616 * (x0 * y1) + 340282366920938463463374607431768211456 * (x0 * y2)) + 18446744073709551616 * (x1 * y0 + 18446744073709551616 * (x1 * y1) + 340282366920938463463374607431768211456 * (x1 * y2)) + 340282366920938463463374607431768211456 * (x2 * y0 + 18446744073709551616 * (x2 * y1) + 340282366920938463463374607431768211456 * (x2 * y2)) := by
  rw [Nat.add_mul, Nat.add_mul, Nat.mul_assoc, Nat.mul_assoc, row_mul x0, row_mul x1, row_mul x2]
/-- The six words of a number. -/
def words6 (Z : Nat) : List Nat := [Z % 18446744073709551616, Z / 18446744073709551616 % 18446744073709551616, Z / 340282366920938463463374607431768211456 % 18446744073709551616, Z / 6277101735386680763835789423207666416102355444464034512896 % 18446744073709551616, Z / 115792089237316195423570985008687907853269984665640564039457584007913129639936 % 18446744073709551616, Z / 2135987035920910082395021706169552114602704522356652769947041607822219725780640550022962086936576 % 18446744073709551616]
theorem chain_mod {a W : Nat} (h : a < 18446744073709551616) : (a + 18446744073709551616 * W) % 18446744073709551616 = a := by omega
theorem chain_div {a W : Nat} (h : a < 18446744073709551616) : (a + 18446744073709551616 * W) / 18446744073709551616 = W := by omega
theorem div_B2' (X : Nat) : X / 340282366920938463463374607431768211456 = X / 18446744073709551616 / 18446744073709551616 := by rw [Nat.div_div_eq_div_mul]
theorem div_B3 (X : Nat) : X / 6277101735386680763835789423207666416102355444464034512896 = X / 18446744073709551616 / 18446744073709551616 / 18446744073709551616 := by rw [Nat.div_div_eq_div_mul, Nat.div_div_eq_div_mul]
theorem div_B4 (X : Nat) : X / 115792089237316195423570985008687907853269984665640564039457584007913129639936 = X / 18446744073709551616 / 18446744073709551616 / 18446744073709551616 / 18446744073709551616 := by rw [Nat.div_div_eq_div_mul, Nat.div_div_eq_div_mul, Nat.div_div_eq_div_mul]
theorem div_B5 (X : Nat) : X / 2135987035920910082395021706169552114602704522356652769947041607822219725780640550022962086936576 = X / 18446744073709551616 / 18446744073709551616 / 18446744073709551616 / 18446744073709551616 / 18446744073709551616 := by rw [Nat.div_div_eq_div_mul, Nat.div_div_eq_div_mul, Nat.div_div_eq_div_mul, Nat.div_div_eq_div_mul]
theorem words6_eq {Z a b c d e f : Nat} (ha : a < 18446744073709551616) (hb : b < 18446744073709551616) (hc : c < 18446744073709551616) (hd : d < 18446744073709551616) (he : e < 18446744073709551616) (hf : f < 18446744073709551616)
    (h : Z = a + 18446744073709551616 * (b + 18446744073709551616 * (c + 18446744073709551616 * (d + 18446744073709551616 * (e + 18446744073709551616 * f))))) : words6 Z = [a, b, c, d, e, f] := by
  subst h
  simp only [words6, div_B5, div_B4, div_B3, div_B2', chain_div ha, chain_div hb, chain_div hc, chain_div hd, chain_div he, chain_mod ha, chain_mod hb, chain_mod hc, chain_mod hd, chain_mod he, Nat.mod_eq_of_lt hf]
theorem rows_sum {r0 r1 r2 r3 t1 t2 t3 t4 u2 u3 u4 u5 P0 P1 P2 : Nat}
    (s0 : r0 + 18446744073709551616 * r1 + 340282366920938463463374607431768211456 * r2 + 6277101735386680763835789423207666416102355444464034512896 * r3 = P0)
    (s1 : t1 + 18446744073709551616 * t2 + 340282366920938463463374607431768211456 * t3 + 6277101735386680763835789423207666416102355444464034512896 * t4 = r1 + 18446744073709551616 * r2 + 340282366920938463463374607431768211456 * r3 + P1)
    (s2 : u2 + 18446744073709551616 * u3 + 340282366920938463463374607431768211456 * u4 + 6277101735386680763835789423207666416102355444464034512896 * u5 = t2 + 18446744073709551616 * t3 + 340282366920938463463374607431768211456 * t4 + P2) :
    P0 + 18446744073709551616 * P1 + 340282366920938463463374607431768211456 * P2 = r0 + 18446744073709551616 * (t1 + 18446744073709551616 * (u2 + 18446744073709551616 * (u3 + 18446744073709551616 * (u4 + 18446744073709551616 * u5)))) := by
  omega
theorem mulT_key (X Y x0 x1 x2 y0 y1 y2 : Nat) (a0 : x0 < 18446744073709551616) (a1 : x1 < 18446744073709551616) (a2 : x2 < 18446744073709551616) (b0 : y0 < 18446744073709551616) (b1 : y1 < 18446744073709551616) (b2 : y2 < 18446744073709551616)
    (ex0 : X % 18446744073709551616 = x0) (ex1 : X / 18446744073709551616 % 18446744073709551616 = x1) (ex2 : X / 340282366920938463463374607431768211456 % 18446744073709551616 = x2)
    (ey0 : Y % 18446744073709551616 = y0) (ey1 : Y / 18446744073709551616 % 18446744073709551616 = y1) (ey2 : Y / 340282366920938463463374607431768211456 % 18446744073709551616 = y2)
    (hE : X * Y = (x0 * y0 + 18446744073709551616 * (x0 * y1) + 340282366920938463463374607431768211456 * (x0 * y2)) + 18446744073709551616 * (x1 * y0 + 18446744073709551616 * (x1 * y1) + 340282366920938463463374607431768211456 * (x1 * y2)) + 340282366920938463463374607431768211456 * (x2 * y0 + 18446744073709551616 * (x2 * y1) + 340282366920938463463374607431768211456 * (x2 * y2))) : mulT X Y = words6 (X * Y) := by
  have z : (0 : Nat) < 18446744073709551616 := by decide
  obtain ⟨r0, r1, r2, r3, e0, e1, e2, e3, l0, l1, l2, l3, s0⟩ := row3 (mul_lt a0 b0) (mul_lt a0 b1) (mul_lt a0 b2) z z z
  obtain ⟨t1, t2, t3, t4, f1, f2, f3, f4, m1, m2, m3, m4, s1⟩ := row3 (mul_lt a1 b0) (mul_lt a1 b1) (mul_lt a1 b2) l1 l2 l3
  obtain ⟨u2, u3, u4, u5, g2, g3, g4, g5, n2, n3, n4, n5, s2⟩ := row3 (mul_lt a2 b0) (mul_lt a2 b1) (mul_lt a2 b2) m2 m3 m4
  rw [words6_eq (Z := X * Y) l0 m1 n2 n3 n4 n5 (hE.trans (rows_sum (by rw [s0]; simp only [Nat.mul_zero, Nat.add_zero, Nat.zero_add]) s1 s2))]
  simp only [mulT, itr, rowM, stepM, List.set_cons_zero, List.set_cons_succ, List.getD_cons_zero, List.getD_cons_succ, Nat.reducePow, Nat.div_one, Nat.pow_zero, Nat.add_zero, Nat.zero_add, Nat.reduceAdd, ex0, ex1, ex2, ey0, ey1, ey2]
  simp only [Nat.add_zero] at e0 e1 e2 e3 f1 f2 f3 f4 g2 g3 g4 g5
  simp only [← e0, ← e1, ← e2, ← e3, ← f1, ← f2, ← f3, ← f4, ← g2, ← g3, ← g4, ← g5]
theorem mulT_eq {X Y : Nat} (hX : X < 6277101735386680763835789423207666416102355444464034512896) (hY : Y < 6277101735386680763835789423207666416102355444464034512896) : mulT X Y = words6 (X * Y) := by
  refine mulT_key X Y _ _ _ _ _ _ (Nat.mod_lt _ (by decide)) (Nat.mod_lt _ (by decide)) (Nat.mod_lt _ (by decide)) (Nat.mod_lt _ (by decide)) (Nat.mod_lt _ (by decide)) (Nat.mod_lt _ (by decide)) rfl rfl rfl rfl rfl rfl ?_
  rw [← expand, ← three_of hX, ← three_of hY]
end Ae
end Go.Proofs.YtebmbapaedlmiaaDoor
