/-
  Numbers of three words: load of package clamp (the walk).
  Numbers of three words: store of package clamp (the walk).
  Numbers of three words: fold of package clamp.
  Numbers of three words: canon of package clamp. What the package variables hold.
-/
import Derived.Test.YtebmbapaedlmiaaDoorSAeB

namespace Go.Proofs.YtebmbapaedlmiaaDoor
open Go.RowKit Ae
set_option linter.unusedVariables false

set_option maxHeartbeats 800000 in
set_option maxRecDepth 100000 in
theorem load_any (l : List Nat) (hl : l.length = 17) (hb : Byt l) (w : World) :
    Calls Tryd.prog 43 #[.agg (bs l)] w (Gives w (.agg (ds (words (val l))))) := by
  have HI := Lib.hid (show InfoArr 58 (bs l).size by rw [bs_size, hl]; exact info17)
  have HL := Lib.hid hl
  clear hl
  go_enter Tryd.func43, Tryd.ntmps43
  go_wp2_with (refine wpList_load_row rfl 58 (Operand.tmp 1) rfl w.heap.size rfl 58 (bs l) (0, 0) _ (alloc_old (alloc_old (alloc_new _ _))) Tryd.underlying58 rfl HI.out ?_)
  have hw0 : words 0 = [0, 0, 0] := rfl
  have HW0 := Lib.hid (show (((w.alloc (.cells (bs l) 58)).alloc (.cells #[.int .u64 0, .int .u64 0, .int .u64 0] 67)).alloc (.cells #[.int .u64 0, .int .u64 0, .int .u64 0] 67)).heap[w.heap.size + 1 + 1]? = some (.cells (ds (words 0)) 67 (0, 0)) from new_2 _ _ _ _)
  have HC0 := Lib.hid ((((Chg.refl Nowhere w).alloc (.cells (bs l) 58)).alloc (.cells #[.int .u64 0, .int .u64 0, .int .u64 0] 67)).alloc (.cells #[.int .u64 0, .int .u64 0, .int .u64 0] 67))
  have HR0 := Lib.hid (show (((w.alloc (.cells (bs l) 58)).alloc (.cells #[.int .u64 0, .int .u64 0, .int .u64 0] 67)).alloc (.cells #[.int .u64 0, .int .u64 0, .int .u64 0] 67)).heap[w.heap.size + 1]? = some (.cells #[.int .u64 0, .int .u64 0, .int .u64 0] 67 (0, 0)) from alloc_old (new_1 _ _ _))
  clear hw0
  generalize ((w.alloc (.cells (bs l) 58)).alloc (.cells #[.int .u64 0, .int .u64 0, .int .u64 0] 67)).alloc (.cells #[.int .u64 0, .int .u64 0, .int .u64 0] 67) = w0 at *
  go_loopw [7] (fun i wr => ∃ k : Nat, k ≤ 17 ∧ i = .int .i64 k ∧ wr.heap[w.heap.size + 1 + 1]? = some (.cells (ds (words (val (l.take k)))) 67 (0, 0)) ∧ Chg Nowhere w wr ∧ wr.heap[w.heap.size + 1]? = some (.cells #[.int .u64 0, .int .u64 0, .int .u64 0] 67 (0, 0))) (fun i _ => 17 - (intOf i).toNat)
  case atStart => exact ⟨0, by omega, rfl, HW0.out, HC0.out, HR0.out⟩
  case round =>
    obtain ⟨k, hk, rfl, hB, hC, hR⟩ := hrel
    have HB := Lib.hid hB
    have HC := Lib.hid hC
    have HR := Lib.hid hR
    clear hB hC hR
    by_cases hk2 : k < 17
    · obtain ⟨b, hbk⟩ : ∃ b, l[k]? = some b := ⟨_, List.getElem?_eq_getElem (by rw [HL.out]; exact hk2)⟩
      have hb8 := hb.get hbk
      have hix := idx_big hbk hk2
      have hd : k / 8 < 3 := by omega
      obtain ⟨y, hy⟩ : ∃ y, y = val (l.take k) / 18446744073709551616 ^ (k / 8) % 18446744073709551616 := ⟨_, rfl⟩
      have c : wr.cell? ⟨w.heap.size + 1 + 1, k / 8, none⟩ = some (.int .u64 (y : Int)) := by rw [hy]; exact (cell_blk HB.out (o := k / 8)).trans (ds_get (words_get _ _ hd))
      have f : wr.frozen? ⟨w.heap.size + 1 + 1, k / 8, none⟩ = false := frozen_blk HB.out
      have hy2 : y < 18446744073709551616 := by rw [hy]; exact Nat.mod_lt _ (by decide)
      have HO := Lib.hid (load_or (val (l.take k)) k b (by have := val_lt (hb.take k); rwa [List.length_take, HL.out, Nat.min_eq_left hk] at this) hk2 hb8)
      rw [← val_take_succ hbk, ← hy] at HO
      have HS := Lib.hid (shl_or hy2 hb8 (k := k % 8) (by omega))
      clear hy hy2 hbk
      go_wp2_with fail
      go_region
      rw [HS.out]
      go_wp2_with fail
      go_roundw
      case rel => exact ⟨k + 1, by omega, by go_num, (set_blk _ HB.out).trans (by rw [ds_set, HO.out]), (HC.out.put (.inr (by omega))).drew, (set_other _ (by simp)).trans HR.out⟩
      case measure => simp [intOf]; omega
    · have HK : Hid (k = 17) := Lib.hid (by omega)
      have HIW := infoW (val (l.take k))
      go_wp2_with (first | (refine wpList_load_row rfl 67 (Operand.tmp 3) rfl (w.heap.size + 1 + 1) rfl 67 _ (0, 0) _ HB.out Tryd.underlying67 rfl HIW ?_) | (refine wpList_store_row rfl 67 (Operand.tmp 2) (Operand.tmp 24) rfl (w.heap.size + 1) _ rfl rfl 67 _ HR.out HIW rfl (ds_one _) ?_))
      refine bodyPost_ret (results_cell_row rfl _ _ (w.heap.size + 1) _ _ (0, 0) _ rfl (row_blk HR.out) Tryd.underlying67 rfl (infoW _)) rfl ⟨?_, HC.out.putRow (.inr (by omega))⟩
      rw [HK.out, ← HL.out, List.take_length]
end Go.Proofs.YtebmbapaedlmiaaDoor

namespace Go.Proofs.YtebmbapaedlmiaaDoor
open Go.RowKit Ae
set_option linter.unusedVariables false

/-- A row of n cells whose first k are filled with what T tells, the others with z. -/
def fillTo {α : Type} (z : α) (T : List α) (k : Nat) : List α := T.take k ++ List.replicate (T.length - k) z
theorem fill_len {α : Type} (z : α) (T : List α) (k : Nat) : (fillTo z T k).length = T.length := by simp [fillTo]; omega
theorem fill_zero {α : Type} (z : α) (T : List α) : fillTo z T 0 = List.replicate T.length z := by simp [fillTo]
theorem fill_all {α : Type} (z : α) (T : List α) {k : Nat} (h : T.length ≤ k) : fillTo z T k = T := by simp [fillTo, List.take_of_length_le h, Nat.sub_eq_zero_of_le h]
theorem fill_set {α : Type} (z : α) (T : List α) {k : Nat} {b : α} (h : T[k]? = some b) : (fillTo z T k).set k b = fillTo z T (k + 1) := by
  have hk := (List.getElem?_eq_some_iff.1 h).1
  unfold fillTo
  rw [List.set_append, if_neg (by simp; omega), List.length_take, Nat.min_eq_left (by omega), Nat.sub_self, List.take_add_one, h, show T.length - k = (T.length - (k + 1)) + 1 by omega, List.replicate_succ]
  simp
theorem store_byte (x k : Nat) (hk : k < 17) : ((x / 18446744073709551616 ^ (k / 8) % 18446744073709551616 : Nat) : Int) / 2 ^ (8 * (k % 8)) % 256 = ((x / 256 ^ k % 256 : Nat) : Int) := by
  rcases (by omega : k = 0 ∨ k = 1 ∨ k = 2 ∨ k = 3 ∨ k = 4 ∨ k = 5 ∨ k = 6 ∨ k = 7 ∨ k = 8 ∨ k = 9 ∨ k = 10 ∨ k = 11 ∨ k = 12 ∨ k = 13 ∨ k = 14 ∨ k = 15 ∨ k = 16) with rfl | rfl | rfl | rfl | rfl | rfl | rfl | rfl | rfl | rfl | rfl | rfl | rfl | rfl | rfl | rfl | rfl <;>
  · simp only [Nat.reduceMod, Nat.reduceMul, Nat.reducePow, Nat.reduceDiv, Int.reducePow]
    omega

set_option maxHeartbeats 800000 in
set_option maxRecDepth 100000 in
theorem store_any (x : Nat) (w : World) :
    Calls Tryd.prog 46 #[.agg (ds (words x))] w (Gives w (.agg (bs (bytesOf 17 x)))) := by
  obtain ⟨T, hT⟩ : ∃ T, T = bytesOf 17 x := ⟨_, rfl⟩
  have hTl : T.length = 17 := by rw [hT, bytesOf_len]
  rw [← hT]
  have HT := Lib.hid hT
  have HTL := Lib.hid hTl
  clear hT hTl
  go_enter Tryd.func46, Tryd.ntmps46
  go_wp2_with fail
  have HA0 := Lib.hid (show (((w.alloc (.cells (ds (words x)) 67)).alloc (.cells (bs (List.replicate 17 0)) 58)).alloc (.cells (bs (List.replicate 17 0)) 58)).heap[w.heap.size]? = some (.cells (ds (words x)) 67 (0, 0)) from alloc_old (alloc_old (alloc_new _ _)))
  have HB0 := Lib.hid (show (((w.alloc (.cells (ds (words x)) 67)).alloc (.cells (bs (List.replicate 17 0)) 58)).alloc (.cells (bs (List.replicate 17 0)) 58)).heap[w.heap.size + 1 + 1]? = some (.cells (bs (fillTo 0 T 0)) 58 (0, 0)) by rw [fill_zero, HTL.out]; exact new_2 _ _ _ _)
  have HR0 := Lib.hid (show (((w.alloc (.cells (ds (words x)) 67)).alloc (.cells (bs (List.replicate 17 0)) 58)).alloc (.cells (bs (List.replicate 17 0)) 58)).heap[w.heap.size + 1]? = some (.cells (bs (List.replicate 17 0)) 58 (0, 0)) from alloc_old (new_1 _ _ _))
  have HC0 := Lib.hid ((((Chg.refl Nowhere w).alloc (.cells (ds (words x)) 67)).alloc (.cells (bs (List.replicate 17 0)) 58)).alloc (.cells (bs (List.replicate 17 0)) 58))
  go_loopw [5] (fun i wr => ∃ k : Nat, k ≤ 17 ∧ i = .int .i64 k ∧ wr.heap[w.heap.size]? = some (.cells (ds (words x)) 67 (0, 0)) ∧ wr.heap[w.heap.size + 1 + 1]? = some (.cells (bs (fillTo 0 T k)) 58 (0, 0)) ∧ wr.heap[w.heap.size + 1]? = some (.cells (bs (List.replicate 17 0)) 58 (0, 0)) ∧ Chg Nowhere w wr) (fun i _ => 17 - (intOf i).toNat)
  case atStart => exact ⟨0, by omega, rfl, HA0.out, HB0.out, HR0.out, HC0.out⟩
  case round =>
    obtain ⟨k, hk, rfl, hA, hB, hR, hC⟩ := hrel
    have HA := Lib.hid hA
    have HB := Lib.hid hB
    have HR := Lib.hid hR
    have HC := Lib.hid hC
    clear hA hB hR hC HA0 HB0 HR0 HC0
    by_cases hk2 : k < 17
    · have hd : k / 8 < 3 := by omega
      have HS := Lib.hid (store_byte x k hk2)
      obtain ⟨y, hy⟩ : ∃ y, y = x / 18446744073709551616 ^ (k / 8) % 18446744073709551616 := ⟨_, rfl⟩
      have c : wr.cell? ⟨w.heap.size, k / 8, none⟩ = some (.int .u64 (y : Int)) := by rw [hy]; exact (cell_blk HA.out (o := k / 8)).trans (ds_get (words_get _ _ hd))
      have f : wr.frozen? ⟨w.heap.size + 1 + 1, k, none⟩ = false := frozen_blk HB.out
      obtain ⟨v, hv⟩ : ∃ v, wr.cell? ⟨w.heap.size + 1 + 1, k, none⟩ = some v := ⟨_, (cell_blk HB.out (o := k)).trans (Array.getElem?_eq_getElem (by rw [bs_size, fill_len, HTL.out]; exact hk2))⟩
      rw [← hy] at HS
      have HG := Lib.hid (show T[k]? = some (x / 256 ^ k % 256) by rw [HT.out]; exact bytesOf_get _ _ _ hk2)
      clear hy
      go_wp2_with fail
      rw [HS.out]
      go_roundw
      case rel => exact ⟨k + 1, by omega, by go_num, (set_other _ (by simp <;> omega)).trans HA.out, (set_blk _ HB.out).trans (by rw [bs_set, fill_set 0 T HG.out]), (set_other _ (by simp <;> omega)).trans HR.out, HC.out.put (.inr (by omega))⟩
      case measure => simp [intOf]; omega
    · have HK := Lib.hid (fill_all 0 T (k := k) (by rw [HTL.out]; omega))
      have HIW := Lib.hid (show InfoArr 58 (bs (fillTo 0 T k)).size by rw [bs_size, fill_len, HTL.out]; exact info17)
      have HSZ := Lib.hid (show (bs (List.replicate 17 0)).size = (bs (fillTo 0 T k)).size by rw [bs_size, bs_size, fill_len, HTL.out]; rfl)
      go_wp2_with (first | (refine wpList_load_row rfl 58 (Operand.tmp 3) rfl (w.heap.size + 1 + 1) rfl 58 _ (0, 0) _ HB.out Tryd.underlying58 rfl HIW.out ?_) | (refine wpList_store_row rfl 58 (Operand.tmp 2) (Operand.tmp 20) rfl (w.heap.size + 1) _ rfl rfl 58 _ HR.out HIW.out HSZ.out (bs_one _) ?_))
      refine bodyPost_ret (results_cell_row rfl _ _ (w.heap.size + 1) _ _ (0, 0) _ rfl (row_blk HR.out) Tryd.underlying58 rfl HIW.out) rfl ⟨?_, HC.out.putRow (.inr (by omega))⟩
      rw [HK.out]
end Go.Proofs.YtebmbapaedlmiaaDoor

namespace Go.Proofs.YtebmbapaedlmiaaDoor
open Go.RowKit Ae
set_option linter.unusedVariables false

def MulTo (w : World) (x y : Nat) (e : Ending) (w' : World) : Prop :=
  ∃ hi lo : Nat, e = .returned (.tuple #[.int .u64 (hi : Int), .int .u64 (lo : Int)]) ∧ w = w' ∧ hi = x * y / 18446744073709551616 ∧ lo = x * y % 18446744073709551616
theorem mul64_any (x y : Nat) (hx : x < 18446744073709551616) (hy : y < 18446744073709551616) (w : World) :
    Calls Tryd.prog 44 #[.int .u64 (x : Int), .int .u64 (y : Int)] w (MulTo w x y) :=
  (mul64 x y hx hy w).mono fun _ _ ⟨he, hw⟩ => ⟨_, _, he, hw, rfl, rfl⟩
theorem mul64_5 (x : Nat) (hx : x < 18446744073709551616) (w : World) :
    Calls Tryd.prog 44 #[.int .u64 (x : Int), .int .u64 5] w (MulTo w x 5) := mul64_any x 5 hx (by decide) w
theorem add64_ex (x y c : Nat) (hc : c ≤ 1) : ∃ s d : Nat, (∀ w, (callFunc 45 #[.int .u64 (x : Int), .int .u64 (y : Int), .int .u64 (c : Int)]).run Tryd.prog w = .ok (.value (.tuple #[.int .u64 (s : Int), .int .u64 (d : Int)])) w) ∧
    s = (x + y + c) % 18446744073709551616 ∧ d = (x + y + c) / 18446744073709551616 := ⟨_, _, add64 x y c hc, rfl, rfl⟩
theorem add64_zero (x y : Nat) : ∃ s d : Nat, (∀ w, (callFunc 45 #[.int .u64 (x : Int), .int .u64 (y : Int), .int .u64 0]).run Tryd.prog w = .ok (.value (.tuple #[.int .u64 (s : Int), .int .u64 (d : Int)])) w) ∧
    s = (x + y) % 18446744073709551616 ∧ d = (x + y) / 18446744073709551616 := add64_ex x y 0 (by decide)
theorem and3 {x : Nat} (h : x < 18446744073709551616) : bits .and .u64 (x : Int) 3 = ((x % 4 : Nat) : Int) := by
  have := bits_and h (b := 3) (by decide)
  rw [nat_mask2] at this
  exact this
theorem words_eq {x a b c : Nat} (ha : a < 18446744073709551616) (hb : b < 18446744073709551616) (hc : c < 18446744073709551616) (h : x = a + 18446744073709551616 * b + 340282366920938463463374607431768211456 * c) : words x = [a, b, c] := by
  subst h
  simp only [words, List.cons.injEq, and_true]
  refine ⟨?_, ?_, ?_⟩ <;> omega
theorem fold_step {X a b c hi lo s0 d0 s1 d1 : Nat} (ha : a < 18446744073709551616) (hb : b < 18446744073709551616) (hc : c < 18446744073709551616) (hX : X = a + 18446744073709551616 * b + 340282366920938463463374607431768211456 * c)
    (h1 : hi = c / 4 * 5 / 18446744073709551616) (h2 : lo = c / 4 * 5 % 18446744073709551616) (h3 : s0 = (a + lo) % 18446744073709551616) (h4 : d0 = (a + lo) / 18446744073709551616)
    (h5 : s1 = (b + hi + d0) % 18446744073709551616) (h6 : d1 = (b + hi + d0) / 18446744073709551616) :
    c % 4 + d1 < 18446744073709551616 ∧ d0 ≤ 1 ∧ words (fold1 X) = [s0, s1, c % 4 + d1] := by
  refine ⟨by omega, by omega, words_eq (by omega) (by omega) (by omega) ?_⟩
  unfold fold1
  omega

set_option maxHeartbeats 800000 in
set_option maxRecDepth 100000 in
theorem fold_any (x : Nat) (hx : x < 6277101735386680763835789423207666416102355444464034512896) (w : World) :
    Calls Tryd.prog 42 #[.agg (ds (words x))] w (Gives w (.agg (ds (words (fold1 (fold1 x)))))) := by
  go_enter Tryd.func42, Tryd.ntmps42
  go_wp2_with fail
  have HB0 := Lib.hid (show ((w.alloc (.cells (ds (words x)) 67)).alloc (.cells #[.int .u64 0, .int .u64 0, .int .u64 0] 67)).heap[w.heap.size]? = some (.cells (ds (words x)) 67 (0, 0)) from alloc_old (alloc_new _ _))
  have HR0 := Lib.hid (show ((w.alloc (.cells (ds (words x)) 67)).alloc (.cells #[.int .u64 0, .int .u64 0, .int .u64 0] 67)).heap[w.heap.size + 1]? = some (.cells #[.int .u64 0, .int .u64 0, .int .u64 0] 67 (0, 0)) from (new_1 _ _ _))
  have HC0 := Lib.hid (((Chg.refl Nowhere w).alloc (.cells (ds (words x)) 67)).alloc (.cells #[.int .u64 0, .int .u64 0, .int .u64 0] 67))
  go_loopw [7] (fun i wr => ∃ k : Nat, k ≤ 2 ∧ i = .int .i64 k ∧ (∃ X, X < 6277101735386680763835789423207666416102355444464034512896 ∧ Hid (X = itr (fun _ => fold1) k x) ∧ wr.heap[w.heap.size]? = some (.cells (ds (words X)) 67 (0, 0))) ∧ wr.heap[w.heap.size + 1]? = some (.cells #[.int .u64 0, .int .u64 0, .int .u64 0] 67 (0, 0)) ∧ Chg Nowhere w wr) (fun i _ => 2 - (intOf i).toNat)
  case atStart => exact ⟨0, by omega, rfl, ⟨x, hx, Lib.hid rfl, HB0.out⟩, HR0.out, HC0.out⟩
  case round =>
    obtain ⟨k, hk, rfl, ⟨X, hX, HX, hB⟩, hR, hC⟩ := hrel
    have HB := Lib.hid hB
    have HR := Lib.hid hR
    have HC := Lib.hid hC
    clear hB hR hC HB0 HR0 HC0
    by_cases hk2 : k < 2
    · obtain ⟨a, ha⟩ : ∃ a, a = X % 18446744073709551616 := ⟨_, rfl⟩
      obtain ⟨b, hb⟩ : ∃ b, b = X / 18446744073709551616 % 18446744073709551616 := ⟨_, rfl⟩
      obtain ⟨c, hc⟩ : ∃ c, c = X / 340282366920938463463374607431768211456 % 18446744073709551616 := ⟨_, rfl⟩
      have HW := Lib.hid (show words X = [a, b, c] by rw [ha, hb, hc]; rfl)
      have HXE := Lib.hid (show X = a + 18446744073709551616 * b + 340282366920938463463374607431768211456 * c by omega)
      have ha2 : a < 18446744073709551616 := by omega
      have hb2 : b < 18446744073709551616 := by omega
      have hc2 : c < 18446744073709551616 := by omega
      have HA2 := Lib.hid ha2
      have HB2 := Lib.hid hb2
      have HC2 := Lib.hid hc2
      have HXL := Lib.hid hX
      have h3 := and3 hc2
      obtain ⟨m, hm⟩ : ∃ m, m = c % 4 := ⟨_, rfl⟩
      rw [← hm] at h3
      have hm4 : m ≤ 3 := by omega
      have HM := Lib.hid hm
      obtain ⟨ab, hab⟩ : ∃ ab, ab = c / 4 := ⟨_, rfl⟩
      have hab2 : ab < 18446744073709551616 := by omega
      have hsh : (c : Int) / 4 = (ab : Int) := by omega
      have HAB := Lib.hid hab
      have HAB2 := Lib.hid hab2
      have HBB := Lib.hid (show wr.heap[w.heap.size]? = some (.cells (ds [a, b, c]) 67 (0, 0)) by rw [← HW.out]; exact HB.out)
      have c0 : wr.cell? ⟨w.heap.size, 0, none⟩ = some (.int .u64 (a : Int)) := (cell_blk HBB.out (o := 0)).trans rfl
      have c1 : wr.cell? ⟨w.heap.size, 1, none⟩ = some (.int .u64 (b : Int)) := (cell_blk HBB.out (o := 1)).trans rfl
      have cc : wr.cell? ⟨w.heap.size, 2, none⟩ = some (.int .u64 (c : Int)) := (cell_blk HBB.out (o := 2)).trans rfl
      have f0 : wr.frozen? ⟨w.heap.size, 0, none⟩ = false := frozen_blk HBB.out
      have f1 : wr.frozen? ⟨w.heap.size, 1, none⟩ = false := frozen_blk HBB.out
      have f2 : wr.frozen? ⟨w.heap.size, 2, none⟩ = false := frozen_blk HBB.out
      clear ha hb hc hm hab hX ha2 hb2 hc2 hab2
      go_wp2_with (go_at_call 44; refine (mul64_5 ab HAB2.out _).mono ?_; rintro e w' ⟨hi, lo, rfl, rfl, hhi, hlo⟩; obtain ⟨s0, d0, ha0, hs0, hd0⟩ := add64_zero a lo; have hd0' : d0 ≤ 1 := (by rw [hd0, hlo]; have := HA2.out; omega); obtain ⟨s1, d1, ha1, hs1, hd1⟩ := add64_ex b hi d0 hd0'; have hd1' : d1 ≤ 1 := (by rw [hd1, hhi]; have := HB2.out; have := HAB2.out; omega); have HF := Lib.hid (fold_step HA2.out HB2.out HC2.out HXE.out (by rw [← HAB.out]; exact hhi) (by rw [← HAB.out]; exact hlo) hs0 hd0 hs1 hd1); clear hhi hlo hs0 hd0 hs1 hd1)
      go_roundw
      case rel =>
        refine ⟨k + 1, by omega, by go_num, ⟨fold1 X, ?_, Lib.hid (by rw [HX.out]; rfl), ((set_blk _ (set_blk _ (set_blk _ (set_blk _ HBB.out)))).trans ?_)⟩, (set_other _ (by simp)).trans ((set_other _ (by simp)).trans ((set_other _ (by simp)).trans ((set_other _ (by simp)).trans HR.out))), ((((HC.out.put (.inr (by omega))).put (.inr (by omega))).put (.inr (by omega))).put (.inr (by omega)))⟩
        · have := HXL.out; unfold fold1; omega
        · rw [HF.out.2.2, ← HM.out]; rfl
      case measure => simp [intOf]; omega
    · have HK := Lib.hid (show k = 2 by omega)
      have HIW := infoW X
      go_wp2_with (first | (refine wpList_load_row rfl 67 (Operand.tmp 1) rfl w.heap.size rfl 67 _ (0, 0) _ HB.out Tryd.underlying67 rfl HIW ?_) | (refine wpList_store_row rfl 67 (Operand.tmp 2) (Operand.tmp 44) rfl (w.heap.size + 1) _ rfl rfl 67 _ HR.out HIW rfl (ds_one _) ?_))
      refine bodyPost_ret (results_cell_row rfl _ _ (w.heap.size + 1) _ _ (0, 0) _ rfl (row_blk HR.out) Tryd.underlying67 rfl (infoW _)) rfl ⟨?_, HC.out.putRow (.inr (by omega))⟩
      rw [HX.out, HK.out]; rfl
end Go.Proofs.YtebmbapaedlmiaaDoor

namespace Go.Proofs.YtebmbapaedlmiaaDoor
open Go.RowKit Ae
set_option linter.unusedVariables false

/-- What the package variables hold. -/
structure Glob (w : World) : Prop where
  size : 3 ≤ w.heap.size
  head : ∀ (j : Nat) v, (ws headW).toList[j]? = some v → w.cell? ⟨0, j, none⟩ = some v
  round : ∀ (j : Nat) v, (roundP.flatten.map fun (n : Nat) => Value.int .i64 (n : Int))[j]? = some v → w.cell? ⟨1, j, none⟩ = some v
  prime : ∀ (j : Nat) v, (ds (words q)).toList[j]? = some v → w.cell? ⟨2, j, none⟩ = some v
theorem Glob.chg {w w' : World} (h : Glob w) (hc : Chg Nowhere w w') : Glob w' :=
  have hs := h.size
  ⟨Nat.le_trans h.size hc.size, fun j v hj => (hc.cell (p := ⟨_, j, none⟩) (Nat.lt_of_lt_of_le (show 0 < 3 by decide) hs) (not_nowhere _)).trans (h.head j v hj),
    fun j v hj => (hc.cell (p := ⟨_, j, none⟩) (Nat.lt_of_lt_of_le (show 1 < 3 by decide) hs) (not_nowhere _)).trans (h.round j v hj),
    fun j v hj => (hc.cell (p := ⟨_, j, none⟩) (Nat.lt_of_lt_of_le (show 2 < 3 by decide) hs) (not_nowhere _)).trans (h.prime j v hj)⟩
theorem Glob.word {w : World} (h : Glob w) {k : Nat} (hk : k < 3) : w.cell? ⟨2, k, none⟩ = some (.int .u64 ((q / 18446744073709551616 ^ k % 18446744073709551616 : Nat) : Int)) :=
  h.prime k _ (by simpa using ds_get (words_get q k hk))

/-- What is borrowed, and what is left, when q is taken from a number, word by word. -/
def bor (X : Nat) : Nat → Nat
  | 0 => 0
  | k + 1 => if X / 18446744073709551616 ^ k % 18446744073709551616 < q / 18446744073709551616 ^ k % 18446744073709551616 + bor X k then 1 else 0
def dif (X k : Nat) : Nat := (X / 18446744073709551616 ^ k % 18446744073709551616 + 18446744073709551616 - q / 18446744073709551616 ^ k % 18446744073709551616 - bor X k) % 18446744073709551616
theorem bor_le (X : Nat) : ∀ k, bor X k ≤ 1
  | 0 => by simp [bor]
  | k + 1 => by unfold bor; split <;> omega
theorem bor_eq (X k : Nat) : X / 18446744073709551616 ^ k % 18446744073709551616 + 18446744073709551616 * bor X (k + 1) = dif X k + q / 18446744073709551616 ^ k % 18446744073709551616 + bor X k := by
  have h := bor_le X k
  have h1 : X / 18446744073709551616 ^ k % 18446744073709551616 < 18446744073709551616 := Nat.mod_lt _ (by decide)
  have h2 : q / 18446744073709551616 ^ k % 18446744073709551616 < 18446744073709551616 := Nat.mod_lt _ (by decide)
  rw [show bor X (k + 1) = if X / 18446744073709551616 ^ k % 18446744073709551616 < q / 18446744073709551616 ^ k % 18446744073709551616 + bor X k then 1 else 0 from rfl]
  unfold dif
  generalize bor X k = B at *
  generalize X / 18446744073709551616 ^ k % 18446744073709551616 = x at *
  generalize q / 18446744073709551616 ^ k % 18446744073709551616 = y at *
  split <;> omega
theorem dif_lt (X k : Nat) : dif X k < 18446744073709551616 := Nat.mod_lt _ (by decide)
/-- What is chosen. -/
def sel (X k : Nat) : Nat := if bor X 3 = 1 then X / 18446744073709551616 ^ k % 18446744073709551616 else dif X k
theorem sel_eq {X : Nat} (h : X < 1361129467683753853853498429727072845824) : words (X % q) = [sel X 0, sel X 1, sel X 2] := by
  have e0 := bor_eq X 0
  have e1 := bor_eq X 1
  have e2 := bor_eq X 2
  have d0 := dif_lt X 0
  have d1 := dif_lt X 1
  have d2 := dif_lt X 2
  have b0 : bor X 0 = 0 := rfl
  have b1 := bor_le X 1
  have b2 := bor_le X 2
  have b3 := bor_le X 3
  rw [b0] at e0
  have q0 : q / 18446744073709551616 ^ 0 % 18446744073709551616 = 18446744073709551611 := by decide +kernel
  have q1 : q / 18446744073709551616 ^ 1 % 18446744073709551616 = 18446744073709551615 := by decide +kernel
  have q2 : q / 18446744073709551616 ^ 2 % 18446744073709551616 = 3 := by decide +kernel
  rw [q0] at e0
  rw [q1] at e1
  rw [q2] at e2
  have x0 : X / 18446744073709551616 ^ 0 = X := by simp
  have x1 : X / 18446744073709551616 ^ 1 = X / 18446744073709551616 := by simp
  have x2 : X / 18446744073709551616 ^ 2 = X / 340282366920938463463374607431768211456 := by simp
  have hX : X = X % 18446744073709551616 + 18446744073709551616 * (X / 18446744073709551616 % 18446744073709551616) + 340282366920938463463374607431768211456 * (X / 340282366920938463463374607431768211456 % 18446744073709551616) := by omega
  have a0 : X % 18446744073709551616 < 18446744073709551616 := Nat.mod_lt _ (by decide)
  have a1 : X / 18446744073709551616 % 18446744073709551616 < 18446744073709551616 := Nat.mod_lt _ (by decide)
  have a2 : X / 340282366920938463463374607431768211456 % 18446744073709551616 < 18446744073709551616 := Nat.mod_lt _ (by decide)
  rw [canon_eq h]
  unfold sel
  rw [x0] at e0 ⊢
  rw [x1] at e1 ⊢
  rw [x2] at e2 ⊢
  unfold q
  generalize X % 18446744073709551616 = A at *
  generalize X / 18446744073709551616 % 18446744073709551616 = B at *
  generalize X / 340282366920938463463374607431768211456 % 18446744073709551616 = C at *
  generalize dif X 0 = D0 at *
  generalize dif X 1 = D1 at *
  generalize dif X 2 = D2 at *
  have e0' : A + 18446744073709551616 * bor X 1 = D0 + 18446744073709551611 + 0 := e0
  have e1' : B + 18446744073709551616 * bor X 2 = D1 + 18446744073709551615 + bor X 1 := e1
  have e2' : C + 18446744073709551616 * bor X 3 = D2 + 3 + bor X 2 := e2
  clear e0 e1 e2
  generalize bor X 1 = B1 at *
  generalize bor X 2 = B2 at *
  generalize bor X 3 = B3 at *
  by_cases hb : B3 = 1
  · rw [if_pos hb, if_pos hb, if_pos hb, if_pos (by omega)]
    exact words_eq a0 a1 a2 hX
  · rw [if_neg hb, if_neg hb, if_neg hb, if_neg (by omega)]
    exact words_eq d0 d1 d2 (by omega)
theorem sub64_ex (x y b : Nat) (hb : b ≤ 1) : ∀ w, (callFunc 52 #[.int .u64 (x : Int), .int .u64 (y : Int), .int .u64 (b : Int)]).run Tryd.prog w =
    .ok (.value (.tuple #[.int .u64 (((x + 18446744073709551616 - y - b) % 18446744073709551616 : Nat) : Int), .int .u64 ((if x < y + b then 1 else 0 : Nat) : Int)])) w := fun w => sub64 x y b hb w
theorem mask_sel {t x c : Nat} (ht : t < 18446744073709551616) (hx : x < 18446744073709551616) (hc : c ≤ 1) :
    bits .or .u64 (bits .and .u64 (t : Int) (IntKind.u64.wrap ((c : Int) - 1))) (bits .and .u64 (x : Int) (IntKind.u64.wrap (-(c : Int)))) = ((if c = 1 then x else t : Nat) : Int) := by
  have z : ∀ a : Nat, a < 18446744073709551616 → bits .and .u64 (a : Int) 0 = 0 := fun a ha => by
    have := bits_and ha (b := 0) (by decide)
    rw [Nat.and_zero] at this; exact this
  have o : ∀ a : Nat, a < 18446744073709551616 → bits .and .u64 (a : Int) 18446744073709551615 = (a : Int) := fun a ha => by
    have := bits_and ha (b := 18446744073709551615) (by decide)
    rw [show (18446744073709551615 : Nat) = 2 ^ 64 - 1 from rfl, Nat.and_two_pow_sub_one_eq_mod, Nat.mod_eq_of_lt (by omega)] at this
    exact this
  rcases (by omega : c = 0 ∨ c = 1) with rfl | rfl
  · rw [show IntKind.u64.wrap (((0 : Nat) : Int) - 1) = 18446744073709551615 by decide, show IntKind.u64.wrap (-((0 : Nat) : Int)) = 0 by decide, o t ht, z x hx, if_neg (by decide)]
    have := bits_or ht (b := 0) (by decide)
    rw [Nat.or_zero] at this; exact this
  · rw [show IntKind.u64.wrap (((1 : Nat) : Int) - 1) = 0 by decide, show IntKind.u64.wrap (-((1 : Nat) : Int)) = 18446744073709551615 by decide, o x hx, z t ht, if_pos rfl]
    have := bits_or (a := 0) (by decide) hx
    rw [Nat.zero_or] at this; exact this
end Go.Proofs.YtebmbapaedlmiaaDoor
