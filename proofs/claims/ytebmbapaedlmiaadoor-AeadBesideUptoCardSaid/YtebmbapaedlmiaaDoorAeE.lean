/-
  Numbers of three words: fold of package clamp.
-/
import Derived.Test.YtebmbapaedlmiaaDoorAeD
namespace Go.Proofs.YtebmbapaedlmiaaDoor
open Go.RowKit Ae
set_option linter.unusedVariables false

def MulTo (w : World) (x y : Nat) (e : Ending) (w' : World) : Prop :=
  ∃ hi lo : Nat, e = .returned (.tuple #[.int .u64 (hi : Int), .int .u64 (lo : Int)]) ∧ w = w' ∧ hi = x * y / 18446744073709551616 ∧ lo = x * y % 18446744073709551616
theorem mul64_any (x y : Nat) (hx : x < 18446744073709551616) (hy : y < 18446744073709551616) (w : World) :
    Calls Tryd.prog 44 #[.int .u64 (x : Int), .int .u64 (y : Int)] w (MulTo w x y) :=
  (mul64 x y hx hy w).mono fun _ _ ⟨he, hw⟩ => ⟨_, _, he, hw, rfl, rfl⟩
theorem mul64_5 (x : Nat) (hx : x < 18446744073709551616) (w : World) :
    Calls Tryd.prog 44 #[.int .u64 (x : Int), .int .u64 5] w (MulTo w x 5) := mul64_any x 5 hx (by decide) w
theorem add64_ex (x y c : Nat) (hc : c ≤ 1) : ∃ s d : Nat, (∀ w, (callFunc 45 #[.int .u64 (x : Int), .int .u64 (y : Int), .int .u64 (c : Int)]).run Tryd.prog w = .ok (.value (.tuple #[.int .u64 (s : Int), .int .u64 (d : Int)])) w) ∧
    s = (x + y + c) % 18446744073709551616 ∧ d = (x + y + c) / 18446744073709551616 := ⟨_, _, add64 x y c hc, rfl, rfl⟩
theorem add64_zero (x y : Nat) : ∃ s d : Nat, (∀ w, (callFunc 45 #[.int .u64 (x : Int), .int .u64 (y : Int), .int .u64 0]).run Tryd.prog w = .ok (.value (.tuple #[.int .u64 (s : Int), .int .u64 (d : Int)])) w) ∧
    s = (x + y) % 18446744073709551616 ∧ d = (x + y) / 18446744073709551616 := add64_ex x y 0 (by decide)
theorem and3 {x : Nat} (h : x < 18446744073709551616) : bits .and .u64 (x : Int) 3 = ((x % 4 : Nat) : Int) := by
  have := bits_and h (b := 3) (by decide)
  rw [nat_mask2] at this
  exact this
theorem words_eq {x a b c : Nat} (ha : a < 18446744073709551616) (hb : b < 18446744073709551616) (hc : c < 18446744073709551616) (h : x = a + 18446744073709551616 * b + 340282366920938463463374607431768211456 * c) : words x = [a, b, c] := by
  subst h
  simp only [words, List.cons.injEq, and_true]
  refine ⟨?_, ?_, ?_⟩ <;> omega
theorem fold_step {X a b c hi lo s0 d0 s1 d1 : Nat} (ha : a < 18446744073709551616) (hb : b < 18446744073709551616) (hc : c < 18446744073709551616) (hX : X = a + 18446744073709551616 * b + 340282366920938463463374607431768211456 * c)
    (h1 : hi = c / 4 * 5 / 18446744073709551616) (h2 : lo = c / 4 * 5 % 18446744073709551616) (h3 : s0 = (a + lo) % 18446744073709551616) (h4 : d0 = (a + lo) / 18446744073709551616)
    (h5 : s1 = (b + hi + d0) % 18446744073709551616) (h6 : d1 = (b + hi + d0) / 18446744073709551616) :
    c % 4 + d1 < 18446744073709551616 ∧ d0 ≤ 1 ∧ words (fold1 X) = [s0, s1, c % 4 + d1] := by
  refine ⟨by omega, by omega, words_eq (by omega) (by omega) (by omega) ?_⟩
  unfold fold1
  omega

set_option maxHeartbeats 800000 in
set_option maxRecDepth 100000 in
theorem fold_any (x : Nat) (hx : x < 6277101735386680763835789423207666416102355444464034512896) (w : World) :
    Calls Tryd.prog 42 #[.agg (ds (words x))] w (Gives w (.agg (ds (words (fold1 (fold1 x)))))) := by
  go_enter Tryd.func42, Tryd.ntmps42
  go_wp2_with fail
  have HB0 := Lib.hid (show ((w.alloc (.cells (ds (words x)) 67)).alloc (.cells #[.int .u64 0, .int .u64 0, .int .u64 0] 67)).heap[w.heap.size]? = some (.cells (ds (words x)) 67 (0, 0)) from alloc_old (alloc_new _ _))
  have HR0 := Lib.hid (show ((w.alloc (.cells (ds (words x)) 67)).alloc (.cells #[.int .u64 0, .int .u64 0, .int .u64 0] 67)).heap[w.heap.size + 1]? = some (.cells #[.int .u64 0, .int .u64 0, .int .u64 0] 67 (0, 0)) from (new_1 _ _ _))
  have HC0 := Lib.hid (((Chg.refl Nowhere w).alloc (.cells (ds (words x)) 67)).alloc (.cells #[.int .u64 0, .int .u64 0, .int .u64 0] 67))
  go_loopw [7] (fun i wr => ∃ k : Nat, k ≤ 2 ∧ i = .int .i64 k ∧ (∃ X, X < 6277101735386680763835789423207666416102355444464034512896 ∧ Hid (X = itr (fun _ => fold1) k x) ∧ wr.heap[w.heap.size]? = some (.cells (ds (words X)) 67 (0, 0))) ∧ wr.heap[w.heap.size + 1]? = some (.cells #[.int .u64 0, .int .u64 0, .int .u64 0] 67 (0, 0)) ∧ Chg Nowhere w wr) (fun i _ => 2 - (intOf i).toNat)
  case atStart => exact ⟨0, by omega, rfl, ⟨x, hx, Lib.hid rfl, HB0.out⟩, HR0.out, HC0.out⟩
  case round =>
    obtain ⟨k, hk, rfl, ⟨X, hX, HX, hB⟩, hR, hC⟩ := hrel
    have HB := Lib.hid hB
    have HR := Lib.hid hR
    have HC := Lib.hid hC
    clear hB hR hC HB0 HR0 HC0
    by_cases hk2 : k < 2
    · obtain ⟨a, ha⟩ : ∃ a, a = X % 18446744073709551616 := ⟨_, rfl⟩
      obtain ⟨b, hb⟩ : ∃ b, b = X / 18446744073709551616 % 18446744073709551616 := ⟨_, rfl⟩
      obtain ⟨c, hc⟩ : ∃ c, c = X / 340282366920938463463374607431768211456 % 18446744073709551616 := ⟨_, rfl⟩
      have HW := Lib.hid (show words X = [a, b, c] by rw [ha, hb, hc]; rfl)
      have HXE := Lib.hid (show X = a + 18446744073709551616 * b + 340282366920938463463374607431768211456 * c by omega)
      have ha2 : a < 18446744073709551616 := by omega
      have hb2 : b < 18446744073709551616 := by omega
      have hc2 : c < 18446744073709551616 := by omega
      have HA2 := Lib.hid ha2
      have HB2 := Lib.hid hb2
      have HC2 := Lib.hid hc2
      have HXL := Lib.hid hX
      have h3 := and3 hc2
      obtain ⟨m, hm⟩ : ∃ m, m = c % 4 := ⟨_, rfl⟩
      rw [← hm] at h3
      have hm4 : m ≤ 3 := by omega
      have HM := Lib.hid hm
      obtain ⟨ab, hab⟩ : ∃ ab, ab = c / 4 := ⟨_, rfl⟩
      have hab2 : ab < 18446744073709551616 := by omega
      have hsh : (c : Int) / 4 = (ab : Int) := by omega
      have HAB := Lib.hid hab
      have HAB2 := Lib.hid hab2
      have HBB := Lib.hid (show wr.heap[w.heap.size]? = some (.cells (ds [a, b, c]) 67 (0, 0)) by rw [← HW.out]; exact HB.out)
      have c0 : wr.cell? ⟨w.heap.size, 0, none⟩ = some (.int .u64 (a : Int)) := (cell_blk HBB.out (o := 0)).trans rfl
      have c1 : wr.cell? ⟨w.heap.size, 1, none⟩ = some (.int .u64 (b : Int)) := (cell_blk HBB.out (o := 1)).trans rfl
      have cc : wr.cell? ⟨w.heap.size, 2, none⟩ = some (.int .u64 (c : Int)) := (cell_blk HBB.out (o := 2)).trans rfl
      have f0 : wr.frozen? ⟨w.heap.size, 0, none⟩ = false := frozen_blk HBB.out
      have f1 : wr.frozen? ⟨w.heap.size, 1, none⟩ = false := frozen_blk HBB.out
      have f2 : wr.frozen? ⟨w.heap.size, 2, none⟩ = false := frozen_blk HBB.out
      clear ha hb hc hm hab hX ha2 hb2 hc2 hab2
      go_wp2_with (go_at_call 44; refine (mul64_5 ab HAB2.out _).mono ?_; rintro e w' ⟨hi, lo, rfl, rfl, hhi, hlo⟩; obtain ⟨s0, d0, ha0, hs0, hd0⟩ := add64_zero a lo; have hd0' : d0 ≤ 1 := (by rw [hd0, hlo]; have := HA2.out; omega); obtain ⟨s1, d1, ha1, hs1, hd1⟩ := add64_ex b hi d0 hd0'; have hd1' : d1 ≤ 1 := (by rw [hd1, hhi]; have := HB2.out; have := HAB2.out; omega); have HF := Lib.hid (fold_step HA2.out HB2.out HC2.out HXE.out (by rw [← HAB.out]; exact hhi) (by rw [← HAB.out]; exact hlo) hs0 hd0 hs1 hd1); clear hhi hlo hs0 hd0 hs1 hd1)
      go_roundw
      case rel =>
        refine ⟨k + 1, by omega, by go_num, ⟨fold1 X, ?_, Lib.hid (by rw [HX.out]; rfl), ((set_blk _ (set_blk _ (set_blk _ (set_blk _ HBB.out)))).trans ?_)⟩, (set_other _ (by simp)).trans ((set_other _ (by simp)).trans ((set_other _ (by simp)).trans ((set_other _ (by simp)).trans HR.out))), ((((HC.out.put (.inr (by omega))).put (.inr (by omega))).put (.inr (by omega))).put (.inr (by omega)))⟩
        · have := HXL.out; unfold fold1; omega
        · rw [HF.out.2.2, ← HM.out]; rfl
      case measure => simp [intOf]; omega
    · have HK := Lib.hid (show k = 2 by omega)
      have HIW := infoW X
      go_wp2_with (first | (refine wpList_load_row rfl 67 (Operand.tmp 1) rfl w.heap.size rfl 67 _ (0, 0) _ HB.out Tryd.underlying67 rfl HIW ?_) | (refine wpList_store_row rfl 67 (Operand.tmp 2) (Operand.tmp 44) rfl (w.heap.size + 1) _ rfl rfl 67 _ HR.out HIW rfl (ds_one _) ?_))
      refine bodyPost_ret (results_cell_row rfl _ _ (w.heap.size + 1) _ _ (0, 0) _ rfl (row_blk HR.out) Tryd.underlying67 rfl (infoW _)) rfl ⟨?_, HC.out.putRow (.inr (by omega))⟩
      rw [HX.out, HK.out]; rfl
end Go.Proofs.YtebmbapaedlmiaaDoor
