/-
  Package clamp: Low (the walk).
-/
import Derived.Test.YtebmbapaedlmiaaDoorSAeI
namespace Go.Proofs.YtebmbapaedlmiaaDoor
open Go.RowKit Ae
set_option linter.unusedVariables false

/-- What is carried when two numbers are added byte by byte. -/
def carB (X S i : Nat) : Nat := (X % 256 ^ i + S % 256 ^ i) / 256 ^ i
theorem carB_zero (X S : Nat) : carB X S 0 = 0 := by simp [carB, Nat.mod_one]
theorem pow_pos' (i : Nat) : 0 < 256 ^ i := Nat.pow_pos (by decide)
theorem carB_le (X S i : Nat) : carB X S i ≤ 1 := by
  unfold carB
  have h := pow_pos' i
  have h1 := Nat.mod_lt X h
  have h2 := Nat.mod_lt S h
  exact Nat.le_of_lt_succ (Nat.div_lt_of_lt_mul (by omega))
theorem carB_succ (X S i : Nat) : carB X S (i + 1) = (carB X S i + (X / 256 ^ i % 256 + S / 256 ^ i % 256)) / 256 := by
  have h := pow_pos' i
  unfold carB
  rw [Nat.pow_succ, Nat.mod_mul, Nat.mod_mul, ← Nat.div_div_eq_div_mul,
    show X % 256 ^ i + 256 ^ i * (X / 256 ^ i % 256) + (S % 256 ^ i + 256 ^ i * (S / 256 ^ i % 256)) = (X % 256 ^ i + S % 256 ^ i) + 256 ^ i * (X / 256 ^ i % 256 + S / 256 ^ i % 256) by rw [Nat.mul_add]; omega,
    Nat.add_mul_div_left _ _ h]
theorem sum_byte (X S i : Nat) : (X + S) / 256 ^ i % 256 = (carB X S i + (X / 256 ^ i % 256 + S / 256 ^ i % 256)) % 256 := by
  have h := pow_pos' i
  have e : X + S = (X % 256 ^ i + S % 256 ^ i) + 256 ^ i * (X / 256 ^ i + S / 256 ^ i) := by
    have h1 := Nat.mod_add_div X (256 ^ i)
    have h2 := Nat.mod_add_div S (256 ^ i)
    rw [Nat.mul_add]; omega
  rw [e, Nat.add_mul_div_left _ _ h]
  unfold carB
  generalize (X % 256 ^ i + S % 256 ^ i) / 256 ^ i = c
  generalize X / 256 ^ i = x
  generalize S / 256 ^ i = y
  omega
theorem info16 : InfoArr 36 16 := by unfold InfoArr; kernel_rfl
theorem val_byte {l : List Nat} (h : Byt l) {i b : Nat} (hi : l[i]? = some b) : b = val l / 256 ^ i % 256 := by
  have h1 := bytesOf_get l.length (val l) i (List.getElem?_eq_some_iff.1 hi).1
  rw [bytesOf_val h, hi] at h1
  exact Option.some.inj h1

set_option maxHeartbeats 1600000 in
set_option maxRecDepth 100000 in
theorem low_any (l s : List Nat) (hl : l.length = 17) (hb : Byt l) (hs : s.length = 16) (hc : Byt s) (w : World) (hg : Glob w) :
    Calls Tryd.prog 34 #[.agg (bs l), .agg (bs s)] w (Gives w (.agg (bs (bytesOf 16 (val l % q + val s))))) := by
  have HI := Lib.hid (show InfoArr 58 (bs l).size by rw [bs_size, hl]; exact info17)
  obtain ⟨X, hX⟩ : ∃ X, X = val l % q := ⟨_, rfl⟩
  obtain ⟨S, hS⟩ : ∃ S, S = val s := ⟨_, rfl⟩
  rw [← hX, ← hS]
  have HX := Lib.hid hX
  have HS := Lib.hid hS
  have HIO := Lib.hid (show InfoArr 58 (bs (bytesOf 17 X)).size by rw [bs_size, bytesOf_len]; exact info17)
  have HL := Lib.hid hl
  have HB := Lib.hid hb
  have HSL := Lib.hid hs
  have HSB := Lib.hid hc
  have HG := Lib.hid hg
  obtain ⟨T, hT⟩ : ∃ T, T = bytesOf 16 (X + S) := ⟨_, rfl⟩
  rw [← hT]
  have HTL := Lib.hid (show T.length = 16 by rw [hT, bytesOf_len])
  have HT := Lib.hid hT
  clear hl hb hg hs hc hX hS hT
  go_enter Tryd.func34, Tryd.ntmps34
  go_wp2_with (first | (refine wpList_load_row rfl 58 (Operand.tmp 2) rfl w.heap.size rfl 58 (bs l) (0, 0) _ (alloc_old (alloc_old (alloc_new _ _))) Tryd.underlying58 rfl HI.out ?_) | (go_at_call 48; refine (canonB_any l HL.out HB.out _ (HG.out.chg ((((Chg.refl Nowhere w).alloc _).alloc _).alloc _))).mono ?_; rw [← HX.out]; rintro e w1 ⟨rfl, hC1⟩; have S1 := Lib.hid (hC1.same (alloc_old (new_1 w (.cells (bs l) 58) (.cells (bs s) 36)))); have R1 := Lib.hid (hC1.same (new_2 w _ _ (.cells (bs (List.replicate 16 0)) 36))); have hw1 : w.heap.size + 1 + 1 + 1 ≤ w1.heap.size := (by have := hC1.size; simpa using this); have HC1 := Lib.hid (Chg.none_then ((((Chg.refl Nowhere w).alloc _).alloc _).alloc _) hC1); clear hC1) | (refine wpList_store_row rfl 58 (Operand.tmp 5) (Operand.tmp 9) rfl w1.heap.size _ rfl rfl 58 (bs (List.replicate 17 0)) (alloc_new _ _) HIO.out (by rw [bs_size, bs_size, bytesOf_len]; rfl) (bs_one _) ?_))
  have HX0 := Lib.hid (show ((w1.alloc (.cells (bs (List.replicate 17 0)) 58)).setRow w1.heap.size (bs (bytesOf 17 X))).heap[w1.heap.size]? = some (.cells (bs (bytesOf 17 X)) 58 (0, 0)) from row_blk (alloc_new _ _))
  have HS0 := Lib.hid (show ((w1.alloc (.cells (bs (List.replicate 17 0)) 58)).setRow w1.heap.size (bs (bytesOf 17 X))).heap[w.heap.size + 1]? = some (.cells (bs (T.take 0 ++ s.drop 0)) 36 (0, 0)) from row_other (alloc_old S1.out) (by omega))
  have HR0 := Lib.hid (show ((w1.alloc (.cells (bs (List.replicate 17 0)) 58)).setRow w1.heap.size (bs (bytesOf 17 X))).heap[w.heap.size + 1 + 1]? = some (.cells (bs (List.replicate 16 0)) 36 (0, 0)) from row_other (alloc_old R1.out) (by omega))
  have HC0 := Lib.hid ((HC1.out.alloc (.cells (bs (List.replicate 17 0)) 58)).putRow (b := w1.heap.size) (cs := bs (bytesOf 17 X)) (.inr (by omega)))
  go_loopw [6, 10] (fun c i wr => ∃ k : Nat, k ≤ 16 ∧ i = .int .i64 k ∧ (∃ r : Nat, c = .int .u64 (r : Int) ∧ r ≤ 1 ∧ Hid (r = carB X S k)) ∧ wr.heap[w1.heap.size]? = some (.cells (bs (bytesOf 17 X)) 58 (0, 0)) ∧ wr.heap[w.heap.size + 1]? = some (.cells (bs (T.take k ++ s.drop k)) 36 (0, 0)) ∧ wr.heap[w.heap.size + 1 + 1]? = some (.cells (bs (List.replicate 16 0)) 36 (0, 0)) ∧ Chg Nowhere w wr) (fun _ i _ => 16 - (intOf i).toNat)
  case atStart => exact ⟨0, by omega, rfl, ⟨0, rfl, by omega, Lib.hid (carB_zero X S).symm⟩, HX0.out, HS0.out, HR0.out, HC0.out⟩
  case round =>
    obtain ⟨k, hk, rfl, ⟨r, rfl, hr, HRC⟩, hX, hS, hR, hC⟩ := hrel
    clear HX0 HS0 HR0 HC0
    have HXX := Lib.hid hX
    have HSS := Lib.hid hS
    have HR := Lib.hid hR
    have HC := Lib.hid hC
    clear hX hS hR hC
    by_cases hk2 : k < 16
    · obtain ⟨a, ha⟩ : ∃ a, a = X / 256 ^ k % 256 := ⟨_, rfl⟩
      obtain ⟨b, hbk⟩ : ∃ b, s[k]? = some b := ⟨_, List.getElem?_eq_getElem (by rw [HSL.out]; exact hk2)⟩
      have hb8 := HSB.out.get hbk
      have ha8 : a < 256 := by rw [ha]; exact Nat.mod_lt _ (by decide)
      have hbv : b = S / 256 ^ k % 256 := by rw [HS.out]; exact val_byte HSB.out hbk
      have cx : wr.cell? ⟨w1.heap.size, k, none⟩ = some (.int .u8 (a : Int)) := by rw [ha]; exact (cell_blk HXX.out (o := k)).trans (bs_get (bytesOf_get _ _ _ (by omega)))
      have cs : wr.cell? ⟨w.heap.size + 1, k, none⟩ = some (.int .u8 (b : Int)) := (cell_blk HSS.out (o := k)).trans (bs_get (by rw [List.getElem?_append_right (by simp [HTL.out]; omega), List.getElem?_drop, List.length_take, HTL.out, Nat.min_eq_left (by omega), Nat.sub_self, Nat.add_zero, hbk]))
      have fs : wr.frozen? ⟨w.heap.size + 1, k, none⟩ = false := frozen_blk HSS.out
      obtain ⟨u, hu⟩ : ∃ u, u = (r + (a + b)) % 256 := ⟨_, rfl⟩
      obtain ⟨r2, hr2⟩ : ∃ r2, r2 = (r + (a + b)) / 256 := ⟨_, rfl⟩
      have HTK := Lib.hid (show T[k]? = some u by rw [HT.out, bytesOf_get _ _ _ hk2, hu, HRC.out, ha, hbv, sum_byte])
      have HRN := Lib.hid (show r2 = carB X S (k + 1) by rw [carB_succ, hr2, HRC.out, ha, hbv])
      have E1 := Lib.hid (show ((r : Int) + ((a : Int) + (b : Int))) % 256 = (u : Int) by rw [hu]; simp)
      have E2 := Lib.hid (show ((r : Int) + ((a : Int) + (b : Int))) / 256 = (r2 : Int) by rw [hr2]; simp)
      have hr2' : r2 ≤ 1 := by rw [hr2]; omega
      clear hu hr2 hbv ha hbk
      go_wp2_with fail
      go_region
      go_wp2_with fail
      rw [E1.out, E2.out]
      go_roundw
      case rel => exact ⟨k + 1, by omega, by go_num, ⟨r2, rfl, hr2', HRN⟩, (set_other _ (by simp <;> omega)).trans HXX.out, (set_blk _ HSS.out).trans (by rw [bs_set, two_set T s (by rw [HTL.out]; omega) (by rw [HSL.out]; omega) HTK.out]), (set_other _ (by simp <;> omega)).trans HR.out, (HC.out.drew).put (.inr (by omega))⟩
      case measure => simp [intOf]; omega
    · have HJ := Lib.hid (show T.take k ++ s.drop k = T by rw [List.take_of_length_le (by rw [HTL.out]; omega), List.drop_of_length_le (by rw [HSL.out]; omega), List.append_nil])
      rw [HJ.out] at HSS
      have HIT := Lib.hid (show InfoArr 36 (bs T).size by rw [bs_size, HTL.out]; exact info16)
      go_wp2_with (first | (refine wpList_load_row rfl 36 (Operand.tmp 3) rfl (w.heap.size + 1) rfl 36 _ (0, 0) _ HSS.out Tryd.underlying36 rfl HIT.out ?_) | (refine wpList_store_row rfl 36 (Operand.tmp 4) (Operand.tmp 31) rfl (w.heap.size + 1 + 1) _ rfl rfl 36 _ HR.out HIT.out (by rw [bs_size, bs_size, HTL.out]; rfl) (bs_one _) ?_))
      refine bodyPost_ret (results_cell_row rfl _ _ (w.heap.size + 1 + 1) _ _ (0, 0) _ rfl (row_blk HR.out) Tryd.underlying36 rfl HIT.out) rfl ⟨rfl, HC.out.putRow (.inr (by omega))⟩
end Go.Proofs.YtebmbapaedlmiaaDoor
