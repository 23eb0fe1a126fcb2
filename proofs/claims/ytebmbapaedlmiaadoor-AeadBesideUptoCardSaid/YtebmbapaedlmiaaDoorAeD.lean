/-
  Numbers of three words: store of package clamp (the walk).
-/
import Derived.Test.YtebmbapaedlmiaaDoorAeC
namespace Go.Proofs.YtebmbapaedlmiaaDoor
open Go.RowKit Ae
set_option linter.unusedVariables false

/-- A row of n cells whose first k are filled with what T tells, the others with z. -/
def fillTo {α : Type} (z : α) (T : List α) (k : Nat) : List α := T.take k ++ List.replicate (T.length - k) z
theorem fill_len {α : Type} (z : α) (T : List α) (k : Nat) : (fillTo z T k).length = T.length := by simp [fillTo]; omega
theorem fill_zero {α : Type} (z : α) (T : List α) : fillTo z T 0 = List.replicate T.length z := by simp [fillTo]
theorem fill_all {α : Type} (z : α) (T : List α) {k : Nat} (h : T.length ≤ k) : fillTo z T k = T := by simp [fillTo, List.take_of_length_le h, Nat.sub_eq_zero_of_le h]
theorem fill_set {α : Type} (z : α) (T : List α) {k : Nat} {b : α} (h : T[k]? = some b) : (fillTo z T k).set k b = fillTo z T (k + 1) := by
  have hk := (List.getElem?_eq_some_iff.1 h).1
  unfold fillTo
  rw [List.set_append, if_neg (by simp; omega), List.length_take, Nat.min_eq_left (by omega), Nat.sub_self, List.take_add_one, h, show T.length - k = (T.length - (k + 1)) + 1 by omega, List.replicate_succ]
  simp
theorem store_byte (x k : Nat) (hk : k < 17) : ((x / 18446744073709551616 ^ (k / 8) % 18446744073709551616 : Nat) : Int) / 2 ^ (8 * (k % 8)) % 256 = ((x / 256 ^ k % 256 : Nat) : Int) := by
  rcases (by omega : k = 0 ∨ k = 1 ∨ k = 2 ∨ k = 3 ∨ k = 4 ∨ k = 5 ∨ k = 6 ∨ k = 7 ∨ k = 8 ∨ k = 9 ∨ k = 10 ∨ k = 11 ∨ k = 12 ∨ k = 13 ∨ k = 14 ∨ k = 15 ∨ k = 16) with rfl | rfl | rfl | rfl | rfl | rfl | rfl | rfl | rfl | rfl | rfl | rfl | rfl | rfl | rfl | rfl | rfl <;>
  · simp only [Nat.reduceMod, Nat.reduceMul, Nat.reducePow, Nat.reduceDiv, Int.reducePow]
    omega

set_option maxHeartbeats 800000 in
set_option maxRecDepth 100000 in
theorem store_any (x : Nat) (w : World) :
    Calls Tryd.prog 46 #[.agg (ds (words x))] w (Gives w (.agg (bs (bytesOf 17 x)))) := by
  obtain ⟨T, hT⟩ : ∃ T, T = bytesOf 17 x := ⟨_, rfl⟩
  have hTl : T.length = 17 := by rw [hT, bytesOf_len]
  rw [← hT]
  have HT := Lib.hid hT
  have HTL := Lib.hid hTl
  clear hT hTl
  go_enter Tryd.func46, Tryd.ntmps46
  go_wp2_with fail
  have HA0 := Lib.hid (show (((w.alloc (.cells (ds (words x)) 67)).alloc (.cells (bs (List.replicate 17 0)) 58)).alloc (.cells (bs (List.replicate 17 0)) 58)).heap[w.heap.size]? = some (.cells (ds (words x)) 67 (0, 0)) from alloc_old (alloc_old (alloc_new _ _)))
  have HB0 := Lib.hid (show (((w.alloc (.cells (ds (words x)) 67)).alloc (.cells (bs (List.replicate 17 0)) 58)).alloc (.cells (bs (List.replicate 17 0)) 58)).heap[w.heap.size + 1 + 1]? = some (.cells (bs (fillTo 0 T 0)) 58 (0, 0)) by rw [fill_zero, HTL.out]; exact new_2 _ _ _ _)
  have HR0 := Lib.hid (show (((w.alloc (.cells (ds (words x)) 67)).alloc (.cells (bs (List.replicate 17 0)) 58)).alloc (.cells (bs (List.replicate 17 0)) 58)).heap[w.heap.size + 1]? = some (.cells (bs (List.replicate 17 0)) 58 (0, 0)) from alloc_old (new_1 _ _ _))
  have HC0 := Lib.hid ((((Chg.refl Nowhere w).alloc (.cells (ds (words x)) 67)).alloc (.cells (bs (List.replicate 17 0)) 58)).alloc (.cells (bs (List.replicate 17 0)) 58))
  go_loopw [5] (fun i wr => ∃ k : Nat, k ≤ 17 ∧ i = .int .i64 k ∧ wr.heap[w.heap.size]? = some (.cells (ds (words x)) 67 (0, 0)) ∧ wr.heap[w.heap.size + 1 + 1]? = some (.cells (bs (fillTo 0 T k)) 58 (0, 0)) ∧ wr.heap[w.heap.size + 1]? = some (.cells (bs (List.replicate 17 0)) 58 (0, 0)) ∧ Chg Nowhere w wr) (fun i _ => 17 - (intOf i).toNat)
  case atStart => exact ⟨0, by omega, rfl, HA0.out, HB0.out, HR0.out, HC0.out⟩
  case round =>
    obtain ⟨k, hk, rfl, hA, hB, hR, hC⟩ := hrel
    have HA := Lib.hid hA
    have HB := Lib.hid hB
    have HR := Lib.hid hR
    have HC := Lib.hid hC
    clear hA hB hR hC HA0 HB0 HR0 HC0
    by_cases hk2 : k < 17
    · have hd : k / 8 < 3 := by omega
      have HS := Lib.hid (store_byte x k hk2)
      obtain ⟨y, hy⟩ : ∃ y, y = x / 18446744073709551616 ^ (k / 8) % 18446744073709551616 := ⟨_, rfl⟩
      have c : wr.cell? ⟨w.heap.size, k / 8, none⟩ = some (.int .u64 (y : Int)) := by rw [hy]; exact (cell_blk HA.out (o := k / 8)).trans (ds_get (words_get _ _ hd))
      have f : wr.frozen? ⟨w.heap.size + 1 + 1, k, none⟩ = false := frozen_blk HB.out
      obtain ⟨v, hv⟩ : ∃ v, wr.cell? ⟨w.heap.size + 1 + 1, k, none⟩ = some v := ⟨_, (cell_blk HB.out (o := k)).trans (Array.getElem?_eq_getElem (by rw [bs_size, fill_len, HTL.out]; exact hk2))⟩
      rw [← hy] at HS
      have HG := Lib.hid (show T[k]? = some (x / 256 ^ k % 256) by rw [HT.out]; exact bytesOf_get _ _ _ hk2)
      clear hy
      go_wp2_with fail
      rw [HS.out]
      go_roundw
      case rel => exact ⟨k + 1, by omega, by go_num, (set_other _ (by simp <;> omega)).trans HA.out, (set_blk _ HB.out).trans (by rw [bs_set, fill_set 0 T HG.out]), (set_other _ (by simp <;> omega)).trans HR.out, HC.out.put (.inr (by omega))⟩
      case measure => simp [intOf]; omega
    · have HK := Lib.hid (fill_all 0 T (k := k) (by rw [HTL.out]; omega))
      have HIW := Lib.hid (show InfoArr 58 (bs (fillTo 0 T k)).size by rw [bs_size, fill_len, HTL.out]; exact info17)
      have HSZ := Lib.hid (show (bs (List.replicate 17 0)).size = (bs (fillTo 0 T k)).size by rw [bs_size, bs_size, fill_len, HTL.out]; rfl)
      go_wp2_with (first | (refine wpList_load_row rfl 58 (Operand.tmp 3) rfl (w.heap.size + 1 + 1) rfl 58 _ (0, 0) _ HB.out Tryd.underlying58 rfl HIW.out ?_) | (refine wpList_store_row rfl 58 (Operand.tmp 2) (Operand.tmp 20) rfl (w.heap.size + 1) _ rfl rfl 58 _ HR.out HIW.out HSZ.out (bs_one _) ?_))
      refine bodyPost_ret (results_cell_row rfl _ _ (w.heap.size + 1) _ _ (0, 0) _ rfl (row_blk HR.out) Tryd.underlying58 rfl HIW.out) rfl ⟨?_, HC.out.putRow (.inr (by omega))⟩
      rw [HK.out]
end Go.Proofs.YtebmbapaedlmiaaDoor
