/-
  Numbers of three words: load of package clamp (the walk).
-/
import Derived.Test.YtebmbapaedlmiaaDoorAeB
namespace Go.Proofs.YtebmbapaedlmiaaDoor
open Go.RowKit Ae
set_option linter.unusedVariables false

set_option maxHeartbeats 800000 in
set_option maxRecDepth 100000 in
theorem load_any (l : List Nat) (hl : l.length = 17) (hb : Byt l) (w : World) :
    Calls Tryd.prog 43 #[.agg (bs l)] w (Gives w (.agg (ds (words (val l))))) := by
  have HI := Lib.hid (show InfoArr 58 (bs l).size by rw [bs_size, hl]; exact info17)
  have HL := Lib.hid hl
  clear hl
  go_enter Tryd.func43, Tryd.ntmps43
  go_wp2_with (refine wpList_load_row rfl 58 (Operand.tmp 1) rfl w.heap.size rfl 58 (bs l) (0, 0) _ (alloc_old (alloc_old (alloc_new _ _))) Tryd.underlying58 rfl HI.out ?_)
  have hw0 : words 0 = [0, 0, 0] := rfl
  have HW0 := Lib.hid (show (((w.alloc (.cells (bs l) 58)).alloc (.cells #[.int .u64 0, .int .u64 0, .int .u64 0] 67)).alloc (.cells #[.int .u64 0, .int .u64 0, .int .u64 0] 67)).heap[w.heap.size + 1 + 1]? = some (.cells (ds (words 0)) 67 (0, 0)) from new_2 _ _ _ _)
  have HC0 := Lib.hid ((((Chg.refl Nowhere w).alloc (.cells (bs l) 58)).alloc (.cells #[.int .u64 0, .int .u64 0, .int .u64 0] 67)).alloc (.cells #[.int .u64 0, .int .u64 0, .int .u64 0] 67))
  have HR0 := Lib.hid (show (((w.alloc (.cells (bs l) 58)).alloc (.cells #[.int .u64 0, .int .u64 0, .int .u64 0] 67)).alloc (.cells #[.int .u64 0, .int .u64 0, .int .u64 0] 67)).heap[w.heap.size + 1]? = some (.cells #[.int .u64 0, .int .u64 0, .int .u64 0] 67 (0, 0)) from alloc_old (new_1 _ _ _))
  clear hw0
  generalize ((w.alloc (.cells (bs l) 58)).alloc (.cells #[.int .u64 0, .int .u64 0, .int .u64 0] 67)).alloc (.cells #[.int .u64 0, .int .u64 0, .int .u64 0] 67) = w0 at *
  go_loopw [7] (fun i wr => ∃ k : Nat, k ≤ 17 ∧ i = .int .i64 k ∧ wr.heap[w.heap.size + 1 + 1]? = some (.cells (ds (words (val (l.take k)))) 67 (0, 0)) ∧ Chg Nowhere w wr ∧ wr.heap[w.heap.size + 1]? = some (.cells #[.int .u64 0, .int .u64 0, .int .u64 0] 67 (0, 0))) (fun i _ => 17 - (intOf i).toNat)
  case atStart => exact ⟨0, by omega, rfl, HW0.out, HC0.out, HR0.out⟩
  case round =>
    obtain ⟨k, hk, rfl, hB, hC, hR⟩ := hrel
    have HB := Lib.hid hB
    have HC := Lib.hid hC
    have HR := Lib.hid hR
    clear hB hC hR
    by_cases hk2 : k < 17
    · obtain ⟨b, hbk⟩ : ∃ b, l[k]? = some b := ⟨_, List.getElem?_eq_getElem (by rw [HL.out]; exact hk2)⟩
      have hb8 := hb.get hbk
      have hix := idx_big hbk hk2
      have hd : k / 8 < 3 := by omega
      obtain ⟨y, hy⟩ : ∃ y, y = val (l.take k) / 18446744073709551616 ^ (k / 8) % 18446744073709551616 := ⟨_, rfl⟩
      have c : wr.cell? ⟨w.heap.size + 1 + 1, k / 8, none⟩ = some (.int .u64 (y : Int)) := by rw [hy]; exact (cell_blk HB.out (o := k / 8)).trans (ds_get (words_get _ _ hd))
      have f : wr.frozen? ⟨w.heap.size + 1 + 1, k / 8, none⟩ = false := frozen_blk HB.out
      have hy2 : y < 18446744073709551616 := by rw [hy]; exact Nat.mod_lt _ (by decide)
      have HO := Lib.hid (load_or (val (l.take k)) k b (by have := val_lt (hb.take k); rwa [List.length_take, HL.out, Nat.min_eq_left hk] at this) hk2 hb8)
      rw [← val_take_succ hbk, ← hy] at HO
      have HS := Lib.hid (shl_or hy2 hb8 (k := k % 8) (by omega))
      clear hy hy2 hbk
      go_wp2_with fail
      go_region
      rw [HS.out]
      go_wp2_with fail
      go_roundw
      case rel => exact ⟨k + 1, by omega, by go_num, (set_blk _ HB.out).trans (by rw [ds_set, HO.out]), (HC.out.put (.inr (by omega))).drew, (set_other _ (by simp)).trans HR.out⟩
      case measure => simp [intOf]; omega
    · have HK : Hid (k = 17) := Lib.hid (by omega)
      have HIW := infoW (val (l.take k))
      go_wp2_with (first | (refine wpList_load_row rfl 67 (Operand.tmp 3) rfl (w.heap.size + 1 + 1) rfl 67 _ (0, 0) _ HB.out Tryd.underlying67 rfl HIW ?_) | (refine wpList_store_row rfl 67 (Operand.tmp 2) (Operand.tmp 24) rfl (w.heap.size + 1) _ rfl rfl 67 _ HR.out HIW rfl (ds_one _) ?_))
      refine bodyPost_ret (results_cell_row rfl _ _ (w.heap.size + 1) _ _ (0, 0) _ rfl (row_blk HR.out) Tryd.underlying67 rfl (infoW _)) rfl ⟨?_, HC.out.putRow (.inr (by omega))⟩
      rw [HK.out, ← HL.out, List.take_length]
end Go.Proofs.YtebmbapaedlmiaaDoor
