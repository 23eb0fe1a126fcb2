/-
  Package chacha: Xor (the walk).
-/
import Derived.Test.YtebmbapaedlmiaaDoorSAeR
namespace Go.Proofs.YtebmbapaedlmiaaDoor
open Go.RowKit Ae
set_option linter.unusedVariables false
set_option maxHeartbeats 2000000 in
set_option maxRecDepth 100000 in
theorem xor_any (key nonce : List Nat) (ctr : Nat) (hk : key.length = 32) (hkb : Byt key) (hn : nonce.length = 12) (hnb : Byt nonce) (v : Value) (l : List Nat) (w : World) (h : RdB w v l) (hb : Byt l) (hlen : l.length ≤ 281474976710656) (hg : Glob w) (hc : ctr < 4294967296) :
    Calls Tryd.prog 14 #[.agg (bs key), .int .u32 (ctr : Int), .agg (bs nonce), v] w (GivesB w (xors key ctr nonce l)) := by
  obtain ⟨BL, hBL⟩ : ∃ f : Nat → List Nat, f = fun c => block key c nonce := ⟨_, rfl⟩
  have HCB := Lib.hid (show ∀ c : Nat, c < 4294967296 → ∀ w : World, Glob w → Calls Tryd.prog 19 #[.agg (bs key), .int .u32 (c : Int), .agg (bs nonce)] w (Gives w (.agg (bs (BL c)))) from fun c h w hg => by rw [hBL]; exact chablock_any key nonce c hk hkb hn hnb h w hg)
  have HBLL := Lib.hid (show ∀ c : Nat, (BL c).length = 64 from fun c => by rw [hBL]; exact block_len _ _ _)
  have HBLB := Lib.hid (show ∀ c : Nat, Byt (BL c) from fun c => by rw [hBL]; exact block_byt _ _ _)
  obtain ⟨OUT, hOUT⟩ : ∃ O, O = xors key ctr nonce l := ⟨_, rfl⟩
  have HOL := Lib.hid (show OUT.length = l.length by rw [hOUT, xors_len])
  have HOG := Lib.hid (show ∀ k, k < l.length → OUT[k]? = some (l.getD k 0 ^^^ (BL (m32 (ctr + k / 64))).getD (k % 64) 0) from fun k hk => by rw [hOUT, hBL]; exact xors_get _ _ _ _ hk)
  rw [← hOUT]
  have HIK := Lib.hid (show InfoArr 23 (bs key).size by rw [bs_size, hk]; exact info32)
  have HIN := Lib.hid (show InfoArr 25 (bs nonce).size by rw [bs_size, hn]; exact info12)
  have HB := Lib.hid hb
  have HG := Lib.hid hg
  have HH := Lib.hid h
  obtain ⟨-, A, c, rfl, hnc, -⟩ := h
  clear hBL hOUT hk hkb hn hnb hb hg
  have hmk := make_b l.length hlen
  go_enter Tryd.func14, Tryd.ntmps14
  go_wp2_with fail
  have HW0 := Lib.hid (xorW0 w key nonce l.length)
  have HM0 := Lib.hid (show ctr = m32 (ctr + (0 + 63) / 64) by unfold m32; omega)
  have HS0 := Lib.hid (show (List.replicate 64 0).length = 64 ∧ Byt (List.replicate 64 0) ∧ (0 % 64 ≠ 0 → List.replicate 64 0 = BL (m32 (ctr + 0 / 64))) from ⟨by simp, Byt.replicate _ (by decide), fun h => absurd rfl h⟩)
  go_loopw [1, 18] (fun c i wr => ∃ k : Nat, k ≤ l.length ∧ i = .int .i64 k ∧ (∃ m : Nat, c = .int .u32 (m : Int) ∧ Hid (m = m32 (ctr + (k + 63) / 64))) ∧ (∃ S : List Nat, XorW w wr key nonce (fillTo 0 OUT k) S ∧ Hid (S.length = 64 ∧ Byt S ∧ (k % 64 ≠ 0 → S = BL (m32 (ctr + k / 64)))))) (fun _ i _ => l.length - (intOf i).toNat)
  case atStart => exact ⟨0, by omega, rfl, ⟨ctr, rfl, HM0⟩, List.replicate 64 0, (by rw [fill_zero, HOL.out]; exact HW0.out), HS0⟩
  case round =>
    obtain ⟨k, hk, rfl, ⟨m, rfl, HM⟩, S, hW, HS⟩ := hrel
    have HW := Lib.hid hW
    clear hW HW0
    by_cases hk2 : k < l.length
    · have hR := HH.out.same HW.out.c
      obtain ⟨-, A', c', hv, -, hA⟩ := hR
      cases hv
      obtain ⟨g, o, rfl, hgs, hcell⟩ := hA (by omega)
      obtain ⟨x, hx⟩ : ∃ x, x = l.getD k 0 := ⟨_, rfl⟩
      have hx8 : x < 256 := by rw [hx]; exact HB.out.at k
      have cx : wr.cell? ⟨g, o + k, none⟩ = some (.int .u8 (x : Int)) := by rw [hcell k (by rw [bl_len]; exact hk2), hx]; exact bl_get (some_getD hk2)
      clear hcell hA
      have HX := Lib.hid hx
      clear hx
      have HO := Lib.hid (HOG.out k hk2)
      rw [← HX.out] at HO
      obtain ⟨v0, hv0⟩ := fill_getD OUT (k := k) (by rw [HOL.out]; exact hk2)
      obtain ⟨j, hj⟩ : ∃ j, j = k % 64 := ⟨_, rfl⟩
      have hkm : ((k : Int) % 64) = (j : Int) := by omega
      have hjl : j < 64 := by omega
      have HJ := Lib.hid hj
      clear hj
      by_cases hj0 : j = 0
      · subst hj0
        have hmlt : m < 4294967296 := by rw [HM.out]; exact m32_lt _
        have HMk := Lib.hid (show m = m32 (ctr + k / 64) by rw [HM.out]; congr 2; have := HJ.out; omega)
        have hMw : ((m : Int) + 1) % 4294967296 = ((m32 (m + 1) : Nat) : Int) := by unfold m32; omega
        obtain ⟨m1, hm1⟩ : ∃ m1, m1 = m32 (m + 1) := ⟨_, rfl⟩
        rw [← hm1] at hMw
        have hMN := Lib.hid (show m1 = m32 (ctr + (k + 1 + 63) / 64) by rw [hm1, HMk.out]; unfold m32; have := HJ.out; omega)
        obtain ⟨y, hy⟩ : ∃ y, y = (BL m).getD 0 0 := ⟨_, rfl⟩
        have hy8 : y < 256 := by rw [hy]; exact (HBLB.out _).at _
        have HBY := Lib.hid (show (BL m)[0]? = some y by rw [hy]; exact some_getD (by rw [HBLL.out]; omega))
        rw [← HMk.out, ← HJ.out, ← hy] at HO
        have E1 := u8_xor_nat x y hx8 hy8
        obtain ⟨z, hz⟩ : ∃ z, z = x ^^^ y := ⟨_, rfl⟩
        rw [← hz] at E1 HO
        have HSN := Lib.hid (show (BL m).length = 64 ∧ Byt (BL m) ∧ ((k + 1) % 64 ≠ 0 → BL m = BL (m32 (ctr + (k + 1) / 64))) from ⟨HBLL.out m, HBLB.out m, fun h => by rw [show (k + 1) / 64 = k / 64 by have := HJ.out; omega, ← HMk.out]⟩)
        have HCM := Lib.hid (HCB.out m hmlt wr (HG.out.chg HW.out.c))
        have HSZ := Lib.hid (show (bs S).size = (bs (BL m)).size by rw [bs_size, bs_size, HBLL.out, HS.out.1])
        have HI64 := Lib.hid (show InfoArr 43 (bs (BL m)).size by rw [bs_size, HBLL.out]; exact info64)
        have hgl : g < wr.heap.size := by exact hgs
        clear hy hz hm1
        go_wp2_with (first | (refine wpList_load_row rfl 23 (Operand.tmp 4) rfl w.heap.size rfl 23 _ (0, 0) _ HW.out.k Tryd.underlying23 rfl HIK.out ?_) | (refine wpList_load_row rfl 25 (Operand.tmp 6) rfl (w.heap.size + 1) rfl 25 _ (0, 0) _ HW.out.n Tryd.underlying25 rfl HIN.out ?_) | (go_at_call 19; refine HCM.out.mono ?_; rintro e w2 ⟨rfl, hC2⟩; have HW2 := Lib.hid (HW.out.chg hC2); clear hC2) | (refine wpList_store_row rfl 43 (Operand.tmp 10) (Operand.tmp 29) rfl (w.heap.size + 1 + 1 + 1) _ rfl rfl 43 _ HW2.out.s HI64.out HSZ.out (bs_one _) ?_; have HW3 := Lib.hid (HW2.out.row (BL m)); have cs := (cell_blk HW3.out.s (o := 0)).trans (bs_get HBY.out); have co := (cell_blk HW3.out.o (o := k)).trans (bs_get hv0); have fo : (w2.setRow (w.heap.size + 1 + 1 + 1) (bs (BL m))).frozen? ⟨w.heap.size + 1 + 1, k, none⟩ = false := frozen_blk HW3.out.o))
        go_roundw
        case rel => exact ⟨k + 1, by omega, by go_num, ⟨m1, (by rw [hMw]), hMN⟩, BL m, (by have := HW3.out.put k z; rwa [fill_set 0 OUT HO.out] at this), HSN⟩
        case measure => simp [intOf]; omega
      · obtain ⟨y, hy⟩ : ∃ y, y = (BL (m32 (ctr + k / 64))).getD j 0 := ⟨_, rfl⟩
        have hy8 : y < 256 := by rw [hy]; exact (HBLB.out _).at _
        have cs := (cell_blk HW.out.s (o := j)).trans (bs_get (b := y) (by rw [HS.out.2.2 (by rw [← HJ.out]; exact hj0), hy]; exact some_getD (by rw [HBLL.out]; omega)))
        rw [← HJ.out, ← hy] at HO
        have E1 := u8_xor_nat x y hx8 hy8
        obtain ⟨z, hz⟩ : ∃ z, z = x ^^^ y := ⟨_, rfl⟩
        rw [← hz] at E1 HO
        have co := (cell_blk HW.out.o (o := k)).trans (bs_get hv0)
        have fo : wr.frozen? ⟨w.heap.size + 1 + 1, k, none⟩ = false := frozen_blk HW.out.o
        have hMN := Lib.hid (show m = m32 (ctr + (k + 1 + 63) / 64) by rw [HM.out]; congr 2; have := HJ.out; omega)
        have HSN := Lib.hid (show S.length = 64 ∧ Byt S ∧ ((k + 1) % 64 ≠ 0 → S = BL (m32 (ctr + (k + 1) / 64))) from ⟨HS.out.1, HS.out.2.1, fun h => by rw [show (k + 1) / 64 = k / 64 by have := HJ.out; omega]; exact HS.out.2.2 (by rw [← HJ.out]; exact hj0)⟩)
        clear hy hz hv0
        go_wp2_with fail
        go_roundw
        case rel => exact ⟨k + 1, by omega, by go_num, ⟨m, rfl, hMN⟩, S, (by have := HW.out.put k z; rwa [fill_set 0 OUT HO.out] at this), HSN⟩
        case measure => simp [intOf]; omega
    · have HF := Lib.hid (show fillTo 0 OUT k = OUT by rw [fill_all 0 OUT (by rw [HOL.out]; omega)])
      rw [HF.out] at HW
      go_wp2_with fail
      go_ret
      exact ⟨_, rfl, ⟨w.heap.size + 1 + 1, by omega, by rw [HOL.out]; rfl, HW.out.o⟩, HW.out.c⟩
end Go.Proofs.YtebmbapaedlmiaaDoor
