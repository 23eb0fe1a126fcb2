/-
  Numbers of three words: canon of package clamp (the walk).
-/
import Derived.Test.YtebmbapaedlmiaaDoorAeF
namespace Go.Proofs.YtebmbapaedlmiaaDoor
open Go.RowKit Ae
set_option linter.unusedVariables false

theorem three_get {T : List Nat} {f : Nat → Nat} (h : T = [f 0, f 1, f 2]) {k : Nat} (hk : k < 3) : T[k]? = some (f k) := by
  subst h
  rcases (by omega : k = 0 ∨ k = 1 ∨ k = 2) with rfl | rfl | rfl <;> rfl
theorem fill_get {α : Type} (z : α) (T : List α) {k : Nat} (h : k < T.length) : (fillTo z T k)[k]? = some z := by
  unfold fillTo
  rw [List.getElem?_append_right (by simp; omega), List.length_take, Nat.min_eq_left (by omega), Nat.sub_self, List.getElem?_replicate, if_pos (by omega)]
theorem two_set {α : Type} (S D : List α) {k : Nat} {b : α} (hS : k < S.length) (hD : k < D.length) (h : S[k]? = some b) : (S.take k ++ D.drop k).set k b = S.take (k + 1) ++ D.drop (k + 1) := by
  rw [List.set_append, if_neg (by simp; omega), List.length_take, Nat.min_eq_left (by omega), Nat.sub_self, List.take_add_one, h]
  have e : D.drop k = D[k] :: D.drop (k + 1) := List.drop_eq_getElem_cons hD
  rw [e, List.set_cons_zero, List.append_assoc]
  rfl
theorem sub64_ex2 (x y b : Nat) (hb : b ≤ 1) : ∃ s d : Nat, (∀ w, (callFunc 52 #[.int .u64 (x : Int), .int .u64 (y : Int), .int .u64 (b : Int)]).run Tryd.prog w = .ok (.value (.tuple #[.int .u64 (s : Int), .int .u64 (d : Int)])) w) ∧
    s = (x + 18446744073709551616 - y - b) % 18446744073709551616 ∧ d = if x < y + b then 1 else 0 := ⟨_, _, fun w => sub64 x y b hb w, rfl, rfl⟩
set_option maxHeartbeats 1600000 in
set_option maxRecDepth 100000 in
theorem canon_any (x : Nat) (hx : x < 6277101735386680763835789423207666416102355444464034512896) (w : World) (hg : Glob w) :
    Calls Tryd.prog 47 #[.agg (ds (words x))] w (Gives w (.agg (ds (words (x % q))))) := by
  obtain ⟨X, hX⟩ : ∃ X, X = fold1 (fold1 x) := ⟨_, rfl⟩
  have HX2 := Lib.hid (show X < 1361129467683753853853498429727072845824 by rw [hX]; exact fold2_lt hx)
  have HE := Lib.hid (show x % q = X % q by rw [hX, fold1_mod, fold1_mod])
  have HX := Lib.hid hX
  have HG := Lib.hid hg
  have hs3 := hg.size
  have HXL := Lib.hid hx
  clear hX hg hx
  obtain ⟨D, hD⟩ : ∃ D, D = [dif X 0, dif X 1, dif X 2] := ⟨_, rfl⟩
  obtain ⟨S, hS⟩ : ∃ S, S = [sel X 0, sel X 1, sel X 2] := ⟨_, rfl⟩
  have HD := Lib.hid hD
  have HS := Lib.hid hS
  have HDL := Lib.hid (show D.length = 3 by rw [hD]; rfl)
  have HSL := Lib.hid (show S.length = 3 by rw [hS]; rfl)
  clear hD hS
  go_enter Tryd.func47, Tryd.ntmps47
  have HIW := infoW x
  have HIX := infoW X
  have hsz : (ds (words x)).size = (ds (words X)).size := rfl
  go_wp2_with (first | (refine wpList_load_row rfl 67 (Operand.tmp 1) rfl w.heap.size rfl 67 (ds (words x)) (0, 0) _ (alloc_old (alloc_new _ _)) Tryd.underlying67 rfl HIW ?_) | (go_at_call 42; refine (fold_any x HXL.out _).mono ?_; rw [← HX.out]; rintro e w1 ⟨rfl, hC1⟩; have B1 := Lib.hid (hC1.same (alloc_old (alloc_new w (.cells (ds (words x)) 67)))); have R1 := Lib.hid (hC1.same (new_1 w _ (.cells (ds (words 0)) 67))); have hw1 : w.heap.size + 1 + 1 ≤ w1.heap.size := (by have := hC1.size; simpa using this); have HC1 := Lib.hid (Chg.none_then (((Chg.refl Nowhere w).alloc _).alloc _) hC1); clear hC1) | (refine wpList_store_row rfl 67 (Operand.tmp 1) (Operand.tmp 8) rfl w.heap.size _ rfl rfl 67 _ B1.out HIX hsz (ds_one _) ?_))
  have HA0 := Lib.hid (show ((w1.setRow w.heap.size (ds (words X))).alloc (.cells (ds (words 0)) 67)).heap[w.heap.size]? = some (.cells (ds (words X)) 67 (0, 0)) from alloc_old (row_blk B1.out))
  have HT0 := Lib.hid (show ((w1.setRow w.heap.size (ds (words X))).alloc (.cells (ds (words 0)) 67)).heap[w1.heap.size]? = some (.cells (ds (fillTo 0 D 0)) 67 (0, 0)) by rw [fill_zero, HDL.out]; have := alloc_new (w1.setRow w.heap.size (ds (words X))) (.cells (ds (words 0)) 67); rwa [setRow_size] at this)
  have HR0 := Lib.hid (show ((w1.setRow w.heap.size (ds (words X))).alloc (.cells (ds (words 0)) 67)).heap[w.heap.size + 1]? = some (.cells (ds (words 0)) 67 (0, 0)) from alloc_old (row_other R1.out (by omega)))
  have HC0 := Lib.hid ((HC1.out.putRow (b := w.heap.size) (cs := ds (words X)) (.inr (Nat.le_refl _))).alloc (.cells (ds (words 0)) 67))
  go_loopw [4, 9] (fun c i wr => ∃ k : Nat, k ≤ 3 ∧ i = .int .i64 k ∧ (∃ b : Nat, c = .int .u64 (b : Int) ∧ Hid (b = bor X k)) ∧ wr.heap[w.heap.size]? = some (.cells (ds (words X)) 67 (0, 0)) ∧ wr.heap[w1.heap.size]? = some (.cells (ds (fillTo 0 D k)) 67 (0, 0)) ∧ wr.heap[w.heap.size + 1]? = some (.cells (ds (words 0)) 67 (0, 0)) ∧ Chg Nowhere w wr) (fun _ i _ => 3 - (intOf i).toNat)
  case atStart => exact ⟨0, by omega, rfl, ⟨0, rfl, Lib.hid rfl⟩, HA0.out, HT0.out, HR0.out, HC0.out⟩
  case round =>
    obtain ⟨k, hk, rfl, ⟨b, rfl, HBr⟩, hA, hT, hR, hC⟩ := hrel
    have HA := Lib.hid hA
    have HT := Lib.hid hT
    have HR := Lib.hid hR
    have HC := Lib.hid hC
    have hbl : b ≤ 1 := by rw [HBr.out]; exact bor_le _ _
    clear hA hT hR hC HA0 HT0 HR0 HC0
    by_cases hk2 : k < 3
    · obtain ⟨y, hy⟩ : ∃ y, y = X / 18446744073709551616 ^ k % 18446744073709551616 := ⟨_, rfl⟩
      obtain ⟨p, hp⟩ : ∃ p, p = q / 18446744073709551616 ^ k % 18446744073709551616 := ⟨_, rfl⟩
      have cy : wr.cell? ⟨w.heap.size, k, none⟩ = some (.int .u64 (y : Int)) := by rw [hy]; exact (cell_blk HA.out (o := k)).trans (ds_get (words_get _ _ hk2))
      have cp : wr.cell? ⟨2, k, none⟩ = some (.int .u64 (p : Int)) := by rw [hp]; exact (HG.out.chg HC.out).word hk2
      have ct : wr.cell? ⟨w1.heap.size, k, none⟩ = some (.int .u64 ((0 : Nat) : Int)) := (cell_blk HT.out (o := k)).trans (ds_get (fill_get 0 D (by rw [HDL.out]; exact hk2)))
      have ft : wr.frozen? ⟨w1.heap.size, k, none⟩ = false := frozen_blk HT.out
      obtain ⟨s, d, hrun, hs, hd⟩ := sub64_ex2 y p b hbl
      have HSD := Lib.hid (show s = dif X k ∧ d = bor X (k + 1) by rw [hs, hd, HBr.out, hy, hp]; exact ⟨rfl, rfl⟩)
      have HDK := Lib.hid (three_get HD.out hk2)
      rw [← HSD.out.1] at HDK
      clear hs hd hy hp
      go_wp2_with fail
      go_region
      go_wp2_with fail
      go_roundw
      case rel => exact ⟨k + 1, by omega, by go_num, ⟨d, rfl, Lib.hid HSD.out.2⟩, (set_other _ (by simp <;> omega)).trans HA.out, (set_blk _ HT.out).trans (by rw [ds_set, fill_set 0 D HDK.out]), (set_other _ (by simp <;> omega)).trans HR.out, (HC.out.put (.inr (by omega))).drew⟩
      case measure => simp [intOf]; omega
    · have HK := Lib.hid (show k = 3 by omega)
      have HB3 := Lib.hid (show b = bor X 3 by rw [← HK.out]; exact HBr.out)
      have HT3 := Lib.hid (show wr.heap[w1.heap.size]? = some (.cells (ds (D.take 0 ++ D)) 67 (0, 0)) by rw [HT.out, fill_all 0 D (by rw [HDL.out]; omega)]; rfl)
      go_wp2_with fail
      go_loopw [26] (fun i wr => ∃ k : Nat, k ≤ 3 ∧ i = .int .i64 k ∧ wr.heap[w.heap.size]? = some (.cells (ds (words X)) 67 (0, 0)) ∧ wr.heap[w1.heap.size]? = some (.cells (ds (S.take k ++ D.drop k)) 67 (0, 0)) ∧ wr.heap[w.heap.size + 1]? = some (.cells (ds (words 0)) 67 (0, 0)) ∧ Chg Nowhere w wr) (fun i _ => 3 - (intOf i).toNat)
      case atStart => exact ⟨0, by omega, rfl, HA.out, HT3.out, HR.out, HC.out⟩
      case round =>
        obtain ⟨j, hj, rfl, hA, hT, hR, hC⟩ := hrel
        clear HA HT HR HC HT3
        have HA := Lib.hid hA
        have HT := Lib.hid hT
        have HR := Lib.hid hR
        have HC := Lib.hid hC
        clear hA hT hR hC
        by_cases hj2 : j < 3
        · obtain ⟨y, hy⟩ : ∃ y, y = X / 18446744073709551616 ^ j % 18446744073709551616 := ⟨_, rfl⟩
          obtain ⟨t, ht⟩ : ∃ t, t = dif X j := ⟨_, rfl⟩
          have HY := Lib.hid hy
          have HTT := Lib.hid ht
          have cy : wr.cell? ⟨w.heap.size, j, none⟩ = some (.int .u64 (y : Int)) := by rw [hy]; exact (cell_blk HA.out (o := j)).trans (ds_get (words_get _ _ hj2))
          have ct : wr.cell? ⟨w1.heap.size, j, none⟩ = some (.int .u64 (t : Int)) := (cell_blk HT.out (o := j)).trans (ds_get (by rw [List.getElem?_append_right (by simp [HSL.out]; omega), List.getElem?_drop, List.length_take, HSL.out, Nat.min_eq_left (by omega), Nat.sub_self, Nat.add_zero, ht]; exact three_get HD.out hj2))
          have ft : wr.frozen? ⟨w1.heap.size, j, none⟩ = false := frozen_blk HT.out
          have HM := Lib.hid (mask_sel (t := t) (x := y) (c := b) (by rw [ht]; exact dif_lt _ _) (by rw [hy]; exact Nat.mod_lt _ (by decide)) hbl)
          clear hy ht
          go_wp2_with fail
          go_region
          rw [HM.out]
          have HN := Lib.hid (show (if b = 1 then y else t) = sel X j by rw [HB3.out, HY.out, HTT.out]; rfl)
          rw [HN.out]
          go_wp2_with fail
          go_roundw
          case rel => exact ⟨j + 1, by omega, by go_num, (set_other _ (by simp <;> omega)).trans HA.out, (set_blk _ HT.out).trans (by rw [ds_set, two_set S D (by rw [HSL.out]; omega) (by rw [HDL.out]; omega) (three_get HS.out hj2)]), (set_other _ (by simp <;> omega)).trans HR.out, (HC.out.put (.inr (by omega))).drew⟩
          case measure => simp [intOf]; omega
        · have HJ := Lib.hid (show words (X % q) = S.take j ++ D.drop j by rw [List.take_of_length_le (by rw [HSL.out]; omega), List.drop_of_length_le (by rw [HDL.out]; omega), List.append_nil, HS.out]; exact sel_eq HX2.out)
          rw [← HJ.out] at HT
          have HIQ := infoW (X % q)
          go_wp2_with (first | (refine wpList_load_row rfl 67 (Operand.tmp 3) rfl w1.heap.size rfl 67 _ (0, 0) _ HT.out Tryd.underlying67 rfl HIQ ?_) | (refine wpList_store_row rfl 67 (Operand.tmp 2) (Operand.tmp 45) rfl (w.heap.size + 1) _ rfl rfl 67 _ HR.out HIQ rfl (ds_one _) ?_))
          refine bodyPost_ret (results_cell_row rfl _ _ (w.heap.size + 1) _ _ (0, 0) _ rfl (row_blk HR.out) Tryd.underlying67 rfl (infoW _)) rfl ⟨?_, HC.out.putRow (.inr (by omega))⟩
          rw [HE.out]
end Go.Proofs.YtebmbapaedlmiaaDoor
