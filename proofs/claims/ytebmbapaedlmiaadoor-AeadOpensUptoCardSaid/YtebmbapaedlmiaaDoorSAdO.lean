/-
  The document's sum (the walk).
-/
import Derived.Test.YtebmbapaedlmiaaDoorSAdL
import Derived.Test.YtebmbapaedlmiaaDoorSAdN
import Derived.Test.YtebmbapaedlmiaaDoorSAeN
import Derived.Deep.DeepCutAuto
namespace Go.Proofs.YtebmbapaedlmiaaDoor
open Go.RowKit Ae
set_option linter.unusedVariables false

theorem enters_radd : Enters Tryd.prog 38 := enters_of Tryd.func38 (by kernel_rfl) rfl
theorem enters_rmul : Enters Tryd.prog 37 := enters_of Tryd.func37 (by kernel_rfl) rfl
theorem sum_low (K2 : List Nat) (hl : K2.length = 16) (hb : Byt K2) (a : Nat) (ha : a < q) (w : World) : Calls Tryd.prog 39 #[.agg (bs (bytesOf 17 a)), .agg (bs K2)] w (Gives w (.agg (bs (bytesOf 16 (a % q + val K2))))) := by
  have e := val_bytesOf_lt (Nat.lt_trans ha q_lt)
  have := rlow_any (bytesOf 17 a) K2 (bytesOf_len _ _) (bytesOf_byt _ _) hl hb w
  rw [e] at this
  exact this
theorem sum_add (P : List Nat) (hl : P.length = 17) (hb : Byt P) (a : Nat) (ha : a < q) (w : World) : Calls Tryd.prog 38 #[.agg (bs (bytesOf 17 a)), .agg (bs P)] w (Gives w (.agg (bs (bytesOf 17 ((a + val P) % q))))) := by
  have e := val_bytesOf_lt (Nat.lt_trans ha q_lt)
  have := radd_any (bytesOf 17 a) P (bytesOf_len _ _) (bytesOf_byt _ _) hl hb w
  rw [e] at this
  exact this
theorem sum_mul (B : List Nat) (hl : B.length = 17) (hb : Byt B) (z : Nat) (w : World) : Calls Tryd.prog 37 #[.agg (bs (bytesOf 17 (z % q))), .agg (bs B)] w (Gives w (.agg (bs (bytesOf 17 (z * val B % q))))) := by
  have e := val_bytesOf_lt (mod_q_lt z)
  have := rmul_any (bytesOf 17 (z % q)) B (bytesOf_len _ _) (bytesOf_byt _ _) hl hb w
  rw [e] at this
  rw [← Nat.mod_mul_mod]
  exact this
theorem sum_is (key l : List Nat) : sumL key l = bytesOf 16 (polyA (val (trimL (key.take 16))) l ((l.length + 15) / 16) % q + val (key.drop 16)) := by unfold sumL polyN; rfl
set_option maxHeartbeats 8000000 in
set_option maxRecDepth 100000 in
theorem rsum_any (key : List Nat) (hk : key.length = 32) (hkb : Byt key) (x : Value) (l : List Nat) (w : World) (h : RdB w x l) (hb : Byt l) (hlen : l.length ≤ 100000000) :
    Calls Tryd.prog 25 #[.agg (bs key), x] w (Gives w (.agg (bs (sumL key l)))) := by
  obtain ⟨K1, hK1⟩ : ∃ K, K = key.take 16 := ⟨_, rfl⟩
  obtain ⟨K2, hK2⟩ : ∃ K, K = key.drop 16 := ⟨_, rfl⟩
  have hK1l : K1.length = 16 := by rw [hK1, List.length_take, hk]; rfl
  have hK2l : K2.length = 16 := by rw [hK2, List.length_drop, hk]
  have hK1b : Byt K1 := by rw [hK1]; exact hkb.take 16
  have hK2b : Byt K2 := by rw [hK2]; exact hkb.drop 16
  have HKG1 := Lib.hid (show ∀ k, k < 16 → key[k]? = some (K1.getD k 0) ∧ K1[k]? = some (K1.getD k 0) from fun k hk16 => ⟨by
    rw [hK1, List.getD_eq_getElem?_getD, List.getElem?_take_of_lt hk16, List.getElem?_eq_getElem (show k < key.length by omega)]; rfl, some_getD (by omega)⟩)
  have HKG2 := Lib.hid (show ∀ k, k < 16 → key[16 + k]? = some (K2.getD k 0) ∧ K2[k]? = some (K2.getD k 0) from fun k hk16 => ⟨by
    rw [hK2, List.getD_eq_getElem?_getD, List.getElem?_drop, List.getElem?_eq_getElem (show 16 + k < key.length by omega)]; rfl, some_getD (by omega)⟩)
  obtain ⟨r, hr⟩ : ∃ r, r = val (trimL K1) := ⟨_, rfl⟩
  obtain ⟨BY, hBY⟩ : ∃ B, B = trimL K1 ++ [0] := ⟨_, rfl⟩
  have hTl : (trimL K1).length = 16 := by rw [trimL_len, hK1l]
  have hTb : Byt (trimL K1) := trimL_byt hK1b
  have hBYl : BY.length = 17 := by rw [hBY, List.length_append, hTl]; rfl
  have hBYb : Byt BY := by rw [hBY]; exact hTb.append (fun b hb => by simp at hb; omega)
  have hBYv : val BY = r := by rw [hBY, val_zero_end, hr]
  have HBYG := Lib.hid (show ∀ k, k < 16 → BY[k]? = some ((trimL K1).getD k 0) from fun k hk16 => by rw [hBY, List.getElem?_append_left (by omega)]; exact some_getD (by omega))
  have hT16 : List.take 16 (trimL K1 ++ [0]) = trimL K1 := by
    have := List.take_left (l₁ := trimL K1) (l₂ := [0])
    rw [hTl] at this
    exact this
  have HBY16 := Lib.hid (show fillTo 0 BY 16 = BY by
    show BY.take 16 ++ List.replicate (BY.length - 16) 0 = BY
    rw [hBYl, hBY, hT16]
    rfl)
  have HTL := Lib.hid hTl
  have HBYL := Lib.hid hBYl
  have HTRIM := Lib.hid (fun w => rtrim_any K1 hK1l hK1b w)
  obtain ⟨TR, hTR⟩ : ∃ T, T = trimL K1 := ⟨_, rfl⟩
  rw [← hTR] at HTL HTRIM HBYG
  obtain ⟨n, hnn⟩ : ∃ n, n = l.length := ⟨_, rfl⟩
  obtain ⟨OUT, hOUT⟩ : ∃ O, O = sumL key l := ⟨_, rfl⟩
  have hSUM : OUT = bytesOf 16 (polyA r l ((n + 15) / 16) % q + val K2) := by rw [hOUT, hr, hK1, hK2, hnn]; exact sum_is key l
  have HLOW := Lib.hid (show ∀ (k : Nat) (w : World), k = (n + 15) / 16 → Calls Tryd.prog 39 #[.agg (bs (bytesOf 17 (polyA r l k))), .agg (bs K2)] w (Gives w (.agg (bs OUT))) from fun k w hkk => by
    rw [hSUM]
    subst hkk
    exact sum_low K2 hK2l hK2b _ (polyA_lt r l _) w)
  have HADD := Lib.hid (show ∀ (k : Nat) (P : List Nat) (w : World), P.length = 17 → Byt P → Calls Tryd.prog 38 #[.agg (bs (bytesOf 17 (polyA r l k))), .agg (bs P)] w (Gives w (.agg (bs (bytesOf 17 ((polyA r l k + val P) % q))))) from fun k P w h1 h2 => sum_add P h1 h2 _ (polyA_lt r l k) w)
  have HMUL := Lib.hid (show ∀ (z : Nat) (w : World), Calls Tryd.prog 37 #[.agg (bs (bytesOf 17 (z % q))), .agg (bs BY)] w (Gives w (.agg (bs (bytesOf 17 (z * r % q))))) from fun z w => by
    have := sum_mul BY hBYl hBYb z w
    rw [hBYv] at this
    exact this)
  have HPIECE := Lib.hid (show ∀ k v w, RdB w v ((l.drop (16 * k)).take 16) → Calls Tryd.prog 36 #[v] w (Gives w (.tuple #[.agg (bs (pieceL ((l.drop (16 * k)).take 16))), .int .i64 0])) from fun k v w hv => rpiece_any v _ w hv (by rw [List.length_take]; omega) ((hb.drop _).take _))
  have HPL := Lib.hid (show ∀ k, (pieceL ((l.drop (16 * k)).take 16)).length = 17 ∧ Byt (pieceL ((l.drop (16 * k)).take 16)) from fun k => ⟨pieceL_len (by rw [List.length_take]; omega), pieceL_byt ((hb.drop _).take _)⟩)
  have HNN := Lib.hid hnn
  have HH := Lib.hid h
  have HK1L := Lib.hid hK1l
  have HK2L := Lib.hid hK2l
  have HKL := Lib.hid hk
  have hnl : n ≤ 100000000 := by omega
  have HI16 := Lib.hid (show InfoArr 36 (bs (List.replicate 16 0)).size by rw [bs_size]; exact info16)
  have HI17 := Lib.hid (info17b (List.replicate 17 0) (by simp))
  have HIK1 := Lib.hid (show InfoArr 36 (bs K1).size by rw [bs_size, hK1l]; exact info16)
  have HIK2 := Lib.hid (show InfoArr 36 (bs K2).size by rw [bs_size, hK2l]; exact info16)
  have HITR := Lib.hid (show InfoArr 36 (bs TR).size by rw [bs_size, HTL.out]; exact info16)
  have HIOUT := Lib.hid (show InfoArr 36 (bs OUT).size by rw [bs_size, hOUT, show (sumL key l).length = 16 from bytesOf_len _ _]; exact info16)
  have HIBY := Lib.hid (info17b BY hBYl)
  obtain ⟨-, A, c, rfl, hnc, -⟩ := h
  rw [← hnn] at HH hnc ⊢
  clear hT16 hK1 hK2 hK1l hK2l hK1b hK2b hr hBY hTl hTb hBYl hBYb hBYv hTR hnn hb hk hkb hSUM hlen
  rw [← hOUT]
  have HOUTL := Lib.hid (show OUT.length = 16 by rw [hOUT]; exact bytesOf_len _ _)
  clear hOUT
  have W2r := Lib.hid (new_1 w (.cells (bs key) 23) (.cells (bs (List.replicate 16 0)) 36))
  have W2k := Lib.hid (alloc_old (o := .cells (bs (List.replicate 16 0)) 36) (alloc_new w (.cells (bs key) 23)))
  have W2c := Lib.hid (((Chg.refl Nowhere w).alloc (.cells (bs key) 23)).alloc (.cells (bs (List.replicate 16 0)) 36))
  go_enter Tryd.func25, Tryd.ntmps25
  go_upto_region 1 with fail
  show Code.wp _ _ _ _ ((w.alloc (.cells (bs key) 23)).alloc (.cells (bs (List.replicate 16 0)) 36))
  have hsz2 := sz2 w (.cells (bs key) 23) (.cells (bs (List.replicate 16 0)) 36)
  generalize (w.alloc (.cells (bs key) 23)).alloc (.cells (bs (List.replicate 16 0)) 36) = w2 at W2r W2k W2c hsz2 ⊢
  have HCC := Lib.hid (show Chg Nowhere w2 ((w2.alloc (.cells (bs (List.replicate 16 0)) 36)).setRow w2.heap.size (bs (List.replicate 16 0))) from ((Chg.refl Nowhere w2).alloc _).putRow (.inr (Nat.le_refl _)))
  have W3r := Lib.hid (HCC.out.same W2r.out)
  have W3k := Lib.hid (HCC.out.same W2k.out)
  have W3c := Lib.hid (W2c.out.then_none HCC.out)
  have W3a5 := Lib.hid (show ((w2.alloc (.cells (bs (List.replicate 16 0)) 36)).setRow w2.heap.size (bs (List.replicate 16 0))).heap[w2.heap.size]? = some (.cells (bs (List.replicate 16 0)) 36 (0, 0)) from row_blk (alloc_new _ _))
  have HG5 := Lib.hid (show w2.heap.size = w.heap.size + 1 + 1 from hsz2)
  clear HCC W2r W2k W2c hsz2
  go_upto_region 2 with (refine wpList_store_row rfl 36 (Operand.tmp 5) (Operand.tmp 14) rfl w2.heap.size (bs (List.replicate 16 0)) rfl rfl 36 (bs (List.replicate 16 0)) (alloc_new _ _) HI16.out rfl (bs_one _) ?_)
  try simp only [Act.put]
  show Code.wp _ _ _ _ ((w2.alloc (.cells (bs (List.replicate 16 0)) 36)).setRow w2.heap.size (bs (List.replicate 16 0)))
  generalize (w2.alloc (.cells (bs (List.replicate 16 0)) 36)).setRow w2.heap.size (bs (List.replicate 16 0)) = w3 at W3r W3k W3c W3a5 ⊢
  generalize w2.heap.size = g5 at W3a5 HG5 ⊢
  have HCC := Lib.hid (show Chg Nowhere w3 ((w3.alloc (.cells (bs (List.replicate 16 0)) 36)).setRow w3.heap.size (bs (List.replicate 16 0))) from ((Chg.refl Nowhere w3).alloc _).putRow (.inr (Nat.le_refl _)))
  have W4r := Lib.hid (HCC.out.same W3r.out)
  have W4k := Lib.hid (HCC.out.same W3k.out)
  have W4a5 := Lib.hid (HCC.out.same W3a5.out)
  have W4c := Lib.hid (W3c.out.then_none HCC.out)
  have W4a6 := Lib.hid (show ((w3.alloc (.cells (bs (List.replicate 16 0)) 36)).setRow w3.heap.size (bs (List.replicate 16 0))).heap[w3.heap.size]? = some (.cells (bs (List.replicate 16 0)) 36 (0, 0)) from row_blk (alloc_new _ _))
  have HG56 := Lib.hid (show w.heap.size + 1 < g5 ∧ g5 < w3.heap.size from ⟨by have := HG5.out; omega, lt_blk W3a5.out⟩)
  clear HCC W3r W3k W3a5 W3c
  go_upto_region 3 with (refine wpList_store_row rfl 36 (Operand.tmp 6) (Operand.tmp 15) rfl w3.heap.size (bs (List.replicate 16 0)) rfl rfl 36 (bs (List.replicate 16 0)) (alloc_new _ _) HI16.out rfl (bs_one _) ?_)
  try simp only [Act.put]
  show Code.wp _ _ _ _ ((w3.alloc (.cells (bs (List.replicate 16 0)) 36)).setRow w3.heap.size (bs (List.replicate 16 0)))
  generalize (w3.alloc (.cells (bs (List.replicate 16 0)) 36)).setRow w3.heap.size (bs (List.replicate 16 0)) = w4 at W4r W4k W4a5 W4c W4a6 ⊢
  generalize w3.heap.size = g6 at W4a6 HG56 ⊢
  go_wp2_with fail
  go_loopw [7] (fun i wr => ∃ k : Nat, k ≤ 16 ∧ i = .int .i64 (k : Int) ∧ wr.heap[w.heap.size]? = some (.cells (bs key) 23 (0, 0)) ∧ wr.heap[w.heap.size + 1]? = some (.cells (bs (List.replicate 16 0)) 36 (0, 0)) ∧ wr.heap[g5]? = some (.cells (bs (fillTo 0 K1 k)) 36 (0, 0)) ∧ wr.heap[g6]? = some (.cells (bs (fillTo 0 K2 k)) 36 (0, 0)) ∧ Chg Nowhere w wr) (fun i _ => 16 - (intOf i).toNat)
  case atStart => exact ⟨0, by omega, rfl, W4k.out, W4r.out, (by rw [fill_zero, HK1L.out]; exact W4a5.out), (by rw [fill_zero, HK2L.out]; exact W4a6.out), W4c.out⟩
  case round =>
    obtain ⟨k, hk, rfl, hK, hR, h5, h6, hC⟩ := hrel
    clear W4k W4r W4a5 W4a6 W4c
    have Wk := Lib.hid hK
    have Wr := Lib.hid hR
    have W5 := Lib.hid h5
    have W6 := Lib.hid h6
    have WC := Lib.hid hC
    clear hK hR h5 h6 hC
    by_cases hk2 : k < 16
    · have hdk : decide ((k : Int) < 16) = true := decide_eq_true (by omega)
      obtain ⟨a, ha⟩ : ∃ a, a = K1.getD k 0 := ⟨_, rfl⟩
      obtain ⟨b, hb⟩ : ∃ a, a = K2.getD k 0 := ⟨_, rfl⟩
      have HA := Lib.hid (HKG1.out k hk2)
      have HB := Lib.hid (HKG2.out k hk2)
      rw [← ha] at HA
      rw [← hb] at HB
      have ck1 : wr.cell? ⟨w.heap.size, k, none⟩ = some (.int .u8 (a : Int)) := (cell_blk Wk.out (o := k)).trans (bs_get HA.out.1)
      obtain ⟨z5, hz5⟩ := fill_getD K1 (k := k) (by rw [HK1L.out]; exact hk2)
      have c5 := (cell_blk W5.out (o := k)).trans (bs_get hz5)
      have f5 : wr.frozen? ⟨g5, k, none⟩ = false := frozen_blk W5.out
      have V5 := Lib.hid (show (wr.setCell ⟨g5, k, none⟩ (.int .u8 (a : Int))).heap[g5]? = some (.cells (bs (fillTo 0 K1 (k + 1))) 36 (0, 0)) from (set_blk _ W5.out).trans (by rw [bs_set, fill_set 0 K1 HA.out.2]))
      have Vk := Lib.hid (show (wr.setCell ⟨g5, k, none⟩ (.int .u8 (a : Int))).heap[w.heap.size]? = some (.cells (bs key) 23 (0, 0)) from (set_other _ (by have := HG56.out; show w.heap.size ≠ g5; omega)).trans Wk.out)
      have Vr := Lib.hid (show (wr.setCell ⟨g5, k, none⟩ (.int .u8 (a : Int))).heap[w.heap.size + 1]? = some (.cells (bs (List.replicate 16 0)) 36 (0, 0)) from (set_other _ (by have := HG56.out; show w.heap.size + 1 ≠ g5; omega)).trans Wr.out)
      have V6 := Lib.hid (show (wr.setCell ⟨g5, k, none⟩ (.int .u8 (a : Int))).heap[g6]? = some (.cells (bs (fillTo 0 K2 k)) 36 (0, 0)) from (set_other _ (by have := HG56.out; show g6 ≠ g5; omega)).trans W6.out)
      have VC := Lib.hid (show Chg Nowhere w (wr.setCell ⟨g5, k, none⟩ (.int .u8 (a : Int))) from WC.out.put (.inr (by have := HG56.out; omega)))
      clear ha hb hz5
      go_upto_region 7 with fail
      show Code.wp _ _ _ _ (wr.setCell ⟨g5, k, none⟩ (.int .u8 (a : Int)))
      generalize wr.setCell ⟨g5, k, none⟩ (.int .u8 (a : Int)) = wv at V5 Vk Vr V6 VC ⊢
      clear ck1 c5 f5 W5 W6 Wk Wr WC
      have ck2 : wv.cell? ⟨w.heap.size, 16 + k, none⟩ = some (.int .u8 (b : Int)) := (cell_blk Vk.out (o := 16 + k)).trans (bs_get HB.out.1)
      obtain ⟨z6, hz6⟩ := fill_getD K2 (k := k) (by rw [HK2L.out]; exact hk2)
      have c6 := (cell_blk V6.out (o := k)).trans (bs_get hz6)
      have f6 : wv.frozen? ⟨g6, k, none⟩ = false := frozen_blk V6.out
      obtain ⟨k16, hk16⟩ : ∃ z, z = 16 + k := ⟨_, rfl⟩
      rw [← hk16] at ck2
      have hk16i : 16 + (k : Int) = (k16 : Int) := by omega
      have hk16l : k16 < 32 := by omega
      clear hz6 hk16
      go_wp2_with fail
      go_roundw
      case rel => exact ⟨k + 1, by omega, by go_num, (set_other _ (by have := HG56.out; show w.heap.size ≠ g6; omega)).trans Vk.out, (set_other _ (by have := HG56.out; show w.heap.size + 1 ≠ g6; omega)).trans Vr.out, (set_other _ (by have := HG56.out; show g5 ≠ g6; omega)).trans V5.out, (set_blk _ V6.out).trans (by rw [bs_set, fill_set 0 K2 HB.out.2]), VC.out.put (.inr (by have := HG56.out; omega))⟩
      case measure => simp [intOf]; omega
    · have F5 := Lib.hid (show fillTo 0 K1 k = K1 from fill_all 0 K1 (by rw [HK1L.out]; omega))
      have F6 := Lib.hid (show fillTo 0 K2 k = K2 from fill_all 0 K2 (by rw [HK2L.out]; omega))
      rw [F5.out] at W5
      rw [F6.out] at W6
      go_upto_region 9 with (first
        | (refine wpList_load_row rfl 36 (Operand.tmp 5) rfl g5 rfl 36 _ (0, 0) _ W5.out Tryd.underlying36 rfl HIK1.out ?_)
        | (go_at_call 35; refine (HTRIM.out _).mono ?_; rintro e w7 ⟨rfl, hC7⟩; have Xr := Lib.hid (hC7.same Wr.out); have X5 := Lib.hid (hC7.same W5.out); have X6 := Lib.hid (hC7.same W6.out); have XC := Lib.hid (WC.out.then_none hC7); clear hC7)
        | (refine wpList_store_row rfl 36 (Operand.tmp 5) (Operand.tmp 32) rfl g5 _ rfl rfl 36 _ X5.out HITR.out (by rw [bs_size, bs_size, HK1L.out, HTL.out]) (bs_one _) ?_))
      try simp only [Act.put]
      have Y5 := Lib.hid (row_blk (cs := bs TR) X5.out)
      have Yr := Lib.hid (row_other (b := g5) (cs := bs TR) Xr.out (by have := HG56.out; omega))
      have Y6 := Lib.hid (row_other (b := g5) (cs := bs TR) X6.out (by have := HG56.out; omega))
      have YC := Lib.hid (XC.out.putRow (b := g5) (cs := bs TR) (.inr (by have := HG56.out; omega)))
      generalize w7.setRow g5 (bs TR) = w8 at Y5 Yr Y6 YC ⊢
      clear Xr X5 X6 XC W5 W6 Wk Wr WC F5 F6 HTRIM
      have HCC := Lib.hid (show Chg Nowhere w8 ((w8.alloc (.cells (bs (List.replicate 17 0)) 58)).setRow w8.heap.size (bs (List.replicate 17 0))) from ((Chg.refl Nowhere w8).alloc _).putRow (.inr (Nat.le_refl _)))
      have Zr := Lib.hid (HCC.out.same Yr.out)
      have Z5 := Lib.hid (HCC.out.same Y5.out)
      have Z6 := Lib.hid (HCC.out.same Y6.out)
      have ZC := Lib.hid (YC.out.then_none HCC.out)
      have Z8 := Lib.hid (show ((w8.alloc (.cells (bs (List.replicate 17 0)) 58)).setRow w8.heap.size (bs (List.replicate 17 0))).heap[w8.heap.size]? = some (.cells (bs (List.replicate 17 0)) 58 (0, 0)) from row_blk (alloc_new _ _))
      have HG8 := Lib.hid (show w.heap.size + 1 < g6 ∧ g5 < w8.heap.size ∧ g6 < w8.heap.size from ⟨by have := HG56.out; omega, lt_blk Y5.out, lt_blk Y6.out⟩)
      clear HCC Yr Y5 Y6 YC
      go_upto_region 10 with (refine wpList_store_row rfl 58 (Operand.tmp 8) (Operand.tmp 33) rfl w8.heap.size (bs (List.replicate 17 0)) rfl rfl 58 (bs (List.replicate 17 0)) (alloc_new _ _) HI17.out rfl (bs_one _) ?_)
      try simp only [Act.put]
      show Code.wp _ _ _ _ ((w8.alloc (.cells (bs (List.replicate 17 0)) 58)).setRow w8.heap.size (bs (List.replicate 17 0)))
      generalize (w8.alloc (.cells (bs (List.replicate 17 0)) 58)).setRow w8.heap.size (bs (List.replicate 17 0)) = w9 at Zr Z5 Z6 ZC Z8 ⊢
      generalize w8.heap.size = g8 at Z8 HG8 ⊢
      go_wp2_with fail
      go_loopw [9] (fun i wr => ∃ k : Nat, k ≤ 16 ∧ i = .int .i64 (k : Int) ∧ wr.heap[w.heap.size + 1]? = some (.cells (bs (List.replicate 16 0)) 36 (0, 0)) ∧ wr.heap[g5]? = some (.cells (bs TR) 36 (0, 0)) ∧ wr.heap[g6]? = some (.cells (bs K2) 36 (0, 0)) ∧ wr.heap[g8]? = some (.cells (bs (fillTo 0 BY k)) 58 (0, 0)) ∧ Chg Nowhere w wr) (fun i _ => 16 - (intOf i).toNat)
      case atStart => exact ⟨0, by omega, rfl, Zr.out, Z5.out, Z6.out, (by rw [fill_zero, HBYL.out]; exact Z8.out), ZC.out⟩
      case round =>
        obtain ⟨k, hk, rfl, hR, h5, h6, h8, hC⟩ := hrel
        clear Zr Z5 Z6 Z8 ZC
        have Wr := Lib.hid hR
        have W5 := Lib.hid h5
        have W6 := Lib.hid h6
        have W8 := Lib.hid h8
        have WC := Lib.hid hC
        clear hR h5 h6 h8 hC
        by_cases hk2 : k < 16
        · have hdk : decide ((k : Int) < 16) = true := decide_eq_true (by omega)
          obtain ⟨a, ha⟩ : ∃ a, a = TR.getD k 0 := ⟨_, rfl⟩
          have HA := Lib.hid (HBYG.out k hk2)
          rw [← ha] at HA
          have c5 : wr.cell? ⟨g5, k, none⟩ = some (.int .u8 (a : Int)) := (cell_blk W5.out (o := k)).trans (bs_get (by rw [ha]; exact some_getD (by rw [HTL.out]; exact hk2)))
          obtain ⟨z8, hz8⟩ := fill_getD BY (k := k) (by rw [HBYL.out]; omega)
          have c8 := (cell_blk W8.out (o := k)).trans (bs_get hz8)
          have f8 : wr.frozen? ⟨g8, k, none⟩ = false := frozen_blk W8.out
          clear ha hz8
          go_wp2_with fail
          go_roundw
          case rel => exact ⟨k + 1, by omega, by go_num, (set_other _ (by have := HG8.out; show w.heap.size + 1 ≠ g8; omega)).trans Wr.out, (set_other _ (by have := HG8.out; show g5 ≠ g8; omega)).trans W5.out, (set_other _ (by have := HG8.out; show g6 ≠ g8; omega)).trans W6.out, (set_blk _ W8.out).trans (by rw [bs_set, fill_set 0 BY HA.out]), WC.out.put (.inr (by have := HG8.out; omega))⟩
          case measure => simp [intOf]; omega
        · have F8 := Lib.hid (show fillTo 0 BY k = BY by rw [show k = 16 by omega]; exact HBY16.out)
          rw [F8.out] at W8
          clear W5
          have HCC := Lib.hid (show Chg Nowhere wr ((wr.alloc (.cells (bs (List.replicate 17 0)) 58)).setRow wr.heap.size (bs (List.replicate 17 0))) from ((Chg.refl Nowhere wr).alloc _).putRow (.inr (Nat.le_refl _)))
          have Zr := Lib.hid (HCC.out.same Wr.out)
          have Z6 := Lib.hid (HCC.out.same W6.out)
          have Z8 := Lib.hid (HCC.out.same W8.out)
          have ZC := Lib.hid (WC.out.then_none HCC.out)
          have Z10 := Lib.hid (show ((wr.alloc (.cells (bs (List.replicate 17 0)) 58)).setRow wr.heap.size (bs (List.replicate 17 0))).heap[wr.heap.size]? = some (.cells (bs (List.replicate 17 0)) 58 (0, 0)) from row_blk (alloc_new _ _))
          have HG10 := Lib.hid (show w.heap.size + 1 < wr.heap.size ∧ g6 < wr.heap.size ∧ g8 < wr.heap.size from ⟨lt_blk Wr.out, lt_blk W6.out, lt_blk W8.out⟩)
          clear HCC Wr W6 W8 WC
          go_upto_region 15 with (refine wpList_store_row rfl 58 (Operand.tmp 10) (Operand.tmp 43) rfl wr.heap.size (bs (List.replicate 17 0)) rfl rfl 58 (bs (List.replicate 17 0)) (alloc_new _ _) HI17.out rfl (bs_one _) ?_)
          try simp only [Act.put]
          show Code.wp _ _ _ _ ((wr.alloc (.cells (bs (List.replicate 17 0)) 58)).setRow wr.heap.size (bs (List.replicate 17 0)))
          generalize (wr.alloc (.cells (bs (List.replicate 17 0)) 58)).setRow wr.heap.size (bs (List.replicate 17 0)) = w10 at Zr Z6 Z8 ZC Z10 ⊢
          generalize wr.heap.size = g10 at Z10 HG10 ⊢
          go_wp2_with fail
          go_loopw [11] (fun i wr => ∃ k : Nat, 16 * k ≤ n + 15 ∧ i = .int .i64 ((16 * k : Nat) : Int) ∧ wr.heap[w.heap.size + 1]? = some (.cells (bs (List.replicate 16 0)) 36 (0, 0)) ∧ wr.heap[g6]? = some (.cells (bs K2) 36 (0, 0)) ∧ wr.heap[g8]? = some (.cells (bs BY) 58 (0, 0)) ∧ wr.heap[g10]? = some (.cells (bs (bytesOf 17 (polyA r l k))) 58 (0, 0)) ∧ Chg Nowhere w wr) (fun i _ => n + 16 - (intOf i).toNat)
          case atStart => exact ⟨0, by omega, rfl, Zr.out, Z6.out, Z8.out, (by rw [polyA_zero]; exact Z10.out), ZC.out⟩
          case round =>
            obtain ⟨k, hk, rfl, hR, h6, h8, h10, hC⟩ := hrel
            clear Zr Z6 Z8 Z10 ZC
            have Wr := Lib.hid hR
            have W6 := Lib.hid h6
            have W8 := Lib.hid h8
            have W10 := Lib.hid h10
            have WC := Lib.hid hC
            clear hR h6 h8 h10 hC
            obtain ⟨i0, hi0⟩ : ∃ i, i = 16 * k := ⟨_, rfl⟩
            rw [← hi0] at hk ⊢
            by_cases hi2 : i0 < n
            · have hdi : decide ((i0 : Int) < (n : Int)) = true := decide_eq_true (by omega)
              have HPP := Lib.hid (HPIECE.out k)
              obtain ⟨PC, hPC⟩ : ∃ P, P = pieceL ((l.drop (16 * k)).take 16) := ⟨_, rfl⟩
              have HPCL := Lib.hid (HPL.out k)
              have HPOL := Lib.hid (show (polyA r l k + val PC) * r % q = polyA r l (k + 1) by rw [hPC]; rfl)
              rw [← hPC] at HPP HPCL
              have HIPC := Lib.hid (info17b PC HPCL.out.1)
              have HRDG := Lib.hid (show ∀ e, e = min (i0 + 16) n → RdB wr (.slice (A.map (fun x => x.add i0)) (e - i0) (c - i0)) ((l.drop (16 * k)).take 16) from fun e he => by
                have this := (HH.out.same WC.out).cut (lo := i0) (hi := e) (m := c) (by omega) (by omega) (by omega) (Nat.le_refl _)
                unfold cutB at this
                rw [if_neg (by omega)] at this
                have e2 : (l.drop i0).take (e - i0) = (l.drop (16 * k)).take 16 := by
                  rw [← hi0]
                  rcases (by omega : e = i0 + 16 ∨ (e = n ∧ n ≤ i0 + 16)) with h | h
                  · rw [h, Nat.add_sub_cancel_left]
                  · rw [List.take_of_length_le (by rw [List.length_drop, ← HNN.out]; omega), List.take_of_length_le (by rw [List.length_drop, ← HNN.out]; omega)]
                rw [e2] at this
                exact this)
              have HI0 := Lib.hid hi0
              obtain ⟨B1, hB1⟩ : ∃ B, B = bytesOf 17 (polyA r l k) := ⟨_, rfl⟩
              obtain ⟨B2, hB2⟩ : ∃ B, B = bytesOf 17 ((polyA r l k + val PC) % q) := ⟨_, rfl⟩
              obtain ⟨B3, hB3⟩ : ∃ B, B = bytesOf 17 ((polyA r l k + val PC) * r % q) := ⟨_, rfl⟩
              have HB3E := Lib.hid (show B3 = bytesOf 17 (polyA r l (k + 1)) by rw [hB3]; exact congrArg (bytesOf 17) HPOL.out)
              have HADD2 := Lib.hid (show ∀ w, Calls Tryd.prog 38 #[.agg (bs B1), .agg (bs PC)] w (Gives w (.agg (bs B2))) from fun w => by rw [hB1, hB2]; exact HADD.out k PC w HPCL.out.1 HPCL.out.2)
              have HMUL2 := Lib.hid (show ∀ w, Calls Tryd.prog 37 #[.agg (bs B2), .agg (bs BY)] w (Gives w (.agg (bs B3))) from fun w => by rw [hB2, hB3]; exact HMUL.out _ w)
              have W10 := Lib.hid (show wr.heap[g10]? = some (.cells (bs B1) 58 (0, 0)) by rw [hB1]; exact W10.out)
              have HB1L := Lib.hid (show B1.length = 17 by rw [hB1]; exact bytesOf_len _ _)
              have HB3L := Lib.hid (show B3.length = 17 by rw [hB3]; exact bytesOf_len _ _)
              clear hPC hB1 hB2 hB3
              rcases (by omega : i0 + 16 ≤ n ∨ n < i0 + 16) with hcs | hcs
              · have HRD := Lib.hid (show RdB wr (.slice (A.map (fun x => x.add i0)) 16 (c - i0)) ((l.drop (16 * k)).take 16) by have this := HRDG.out (i0 + 16) (by omega); rw [Nat.add_sub_cancel_left] at this; exact this)
                clear HRDG hi0
                go_upto_region 19 with (first
                  | (go_at_call 36; refine (HPP.out _ _ HRD.out).mono ?_; rintro e w11 ⟨rfl, hC11⟩; have Xr := Lib.hid (hC11.same Wr.out); have X6 := Lib.hid (hC11.same W6.out); have X8 := Lib.hid (hC11.same W8.out); have X10 := Lib.hid (hC11.same W10.out); have XC := Lib.hid (WC.out.then_none hC11); clear hC11 Wr W6 W8 W10 WC)
                  | (refine wpList_store_row rfl 58 (Operand.tmp 12) (Operand.tmp 60) rfl w11.heap.size (bs PC) rfl rfl 58 (bs (List.replicate 17 0)) (alloc_new _ _) HIPC.out (by rw [bs_size, bs_size, HPCL.out.1]; rfl) (bs_one _) ?_))
                try simp only [Act.put]
                show Code.wp _ _ _ _ ((w11.alloc (.cells (bs (List.replicate 17 0)) 58)).setRow w11.heap.size (bs PC))
                have Yr := Lib.hid (show ((w11.alloc (.cells (bs (List.replicate 17 0)) 58)).setRow w11.heap.size (bs PC)).heap[w.heap.size + 1]? = _ from row_other (alloc_old Xr.out) (by have := lt_blk Xr.out; omega))
                have Y6 := Lib.hid (show ((w11.alloc (.cells (bs (List.replicate 17 0)) 58)).setRow w11.heap.size (bs PC)).heap[g6]? = _ from row_other (alloc_old X6.out) (by have := lt_blk X6.out; omega))
                have Y8 := Lib.hid (show ((w11.alloc (.cells (bs (List.replicate 17 0)) 58)).setRow w11.heap.size (bs PC)).heap[g8]? = _ from row_other (alloc_old X8.out) (by have := lt_blk X8.out; omega))
                have Y10 := Lib.hid (show ((w11.alloc (.cells (bs (List.replicate 17 0)) 58)).setRow w11.heap.size (bs PC)).heap[g10]? = some (.cells (bs B1) 58 (0, 0)) from row_other (alloc_old X10.out) (by have := lt_blk X10.out; omega))
                have Y12 := Lib.hid (show ((w11.alloc (.cells (bs (List.replicate 17 0)) 58)).setRow w11.heap.size (bs PC)).heap[w11.heap.size]? = some (.cells (bs PC) 58 (0, 0)) from row_blk (alloc_new _ _))
                have YC := Lib.hid (show Chg Nowhere w ((w11.alloc (.cells (bs (List.replicate 17 0)) 58)).setRow w11.heap.size (bs PC)) from (XC.out.alloc _).putRow (.inr XC.out.size))
                generalize (w11.alloc (.cells (bs (List.replicate 17 0)) 58)).setRow w11.heap.size (bs PC) = w12 at Yr Y6 Y8 Y10 Y12 YC ⊢
                generalize w11.heap.size = g12 at Y12 ⊢
                clear Xr X6 X8 X10 XC
                have HIB3 := Lib.hid (show InfoArr 58 (bs B3).size by rw [bs_size, HB3L.out]; exact info17)
                have HII := Lib.hid (show ∀ L : List Nat, L.length = 17 → (Tryd.prog.info? 58).map (·.size) = some (bl L).length from fun L h => by rw [bl_len, h]; exact info17)
                have huB := Tryd.underlying58
                refine wp_region_calm0 5 [62, 63, 64, 65, 66] [] [⟨[62], fun v _ => v = [.agg (bs B1)]⟩, ⟨[63], fun v _ => v = [.agg (bs PC)]⟩, ⟨[64], fun v _ => v = [.agg (bs B2)]⟩, ⟨[65], fun v _ => v = [.agg (bs BY)]⟩, ⟨[66], fun v _ => v = [.agg (bs B3)]⟩] (Chg Nowhere) (by kernel_rfl) (by kernel_rfl) (by kernel_rfl) (Chg.refl _) Chg.trans' Chg.size (by decide) (Chg.refl Nowhere _).drew ?_ ?_ ?_
                · exact ⟨fun _ _ _ _ h => h, fun _ _ _ _ h => h, fun _ _ _ _ h => h, fun _ _ _ _ h => h, fun _ _ _ _ h => h, trivial⟩
                · simp only [List.take_succ_cons, List.take_zero]
                  refine Steps.cons ?_ (Steps.cons ?_ (Steps.cons ?_ (Steps.cons ?_ (Steps.cons ?_ Steps.nil))))
                  · intro x w' hR hd K Q' hK
                    exact wp_load_mid 58 (Operand.tmp 10) rfl g10 0 rfl (bl B1) _ (rangeAt_blk (hR.same Y10.out)) huB rfl (HII.out _ HB1L.out) (hK _ _ (Chg.refl _ _) rfl (fun d h1 h2 => by simp at h2))
                  · intro x w' hR hd K Q' hK
                    exact wp_load_mid 58 (Operand.tmp 12) rfl g12 0 rfl (bl PC) _ (rangeAt_blk (hR.same Y12.out)) huB rfl (HII.out _ HPCL.out.1) (hK _ _ (Chg.refl _ _) rfl (fun d h1 h2 => by simp at h2))
                  · intro x w' hR hd K Q' hK
                    exact wp_call_fn rfl enters_radd [.agg (bs B1), .agg (bs PC)] (two_slots (hd 0 (by kernel_rfl)) (hd 1 (by kernel_rfl))) ((HADD2.out w').mono fun e w3 ⟨he, hC3⟩ => ⟨_, he, hK _ _ hC3 rfl (fun d h1 h2 => by simp at h2)⟩)
                  · intro x w' hR hd K Q' hK
                    exact wp_load_mid 58 (Operand.tmp 8) rfl g8 0 rfl (bl BY) _ (rangeAt_blk (hR.same Y8.out)) huB rfl (HII.out _ HBYL.out) (hK _ _ (Chg.refl _ _) rfl (fun d h1 h2 => by simp at h2))
                  · intro x w' hR hd K Q' hK
                    exact wp_call_fn rfl enters_rmul [.agg (bs B2), .agg (bs BY)] (two_slots (hd 2 (by kernel_rfl)) (hd 3 (by kernel_rfl))) ((HMUL2.out w').mono fun e w3 ⟨he, hC3⟩ => ⟨_, he, hK _ _ hC3 rfl (fun d h1 h2 => by simp at h2)⟩)
                · intro x w' hR hV hap
                  have e66 : x 66 = .agg (bs B3) := List.head_eq_of_cons_eq (hV 4 (by decide))
                  have Vr := Lib.hid (hR.same Yr.out)
                  have V6 := Lib.hid (hR.same Y6.out)
                  have V8 := Lib.hid (hR.same Y8.out)
                  have V10 := Lib.hid (hR.same Y10.out)
                  have VC := Lib.hid (YC.out.then_none hR)
                  clear hR hV hap Yr Y6 Y8 Y10 Y12 YC
                  set_option linter.unusedSimpArgs false in
                  simp only [puts, putsL, List.contains_cons, List.contains_nil, Nat.reduceBEq, Bool.or_true, Bool.true_or, Bool.or_false, Bool.false_eq_true, if_true, if_false, Nat.reduceAdd, List.drop_succ_cons, List.drop_zero, e66]
                  generalize x 62 = x62
                  generalize x 63 = x63
                  generalize x 64 = x64
                  generalize x 65 = x65
                  clear e66
                  go_wp2_with (refine wpList_store_row rfl 58 (Operand.tmp 10) (Operand.tmp 66) rfl g10 (bs B3) rfl rfl 58 (bs B1) V10.out HIB3.out (by rw [bs_size, bs_size, HB3L.out, HB1L.out]) (bs_one _) ?_)
                  go_roundw
                  case rel => exact ⟨k + 1, by have := HI0.out; omega, congrArg (Value.int .i64) (by have := HI0.out; omega), row_other Vr.out (by have := HG10.out; omega), row_other V6.out (by have := HG10.out; omega), row_other V8.out (by have := HG10.out; omega), (row_blk V10.out).trans (by rw [HB3E.out]), VC.out.putRow (.inr (by have := HG10.out; omega))⟩
                  case measure => simp [intOf]; omega
              · have HRD := Lib.hid (show RdB wr (.slice (A.map (fun x => x.add i0)) (n - i0) (c - i0)) ((l.drop (16 * k)).take 16) from HRDG.out _ (by omega))
                clear HRDG hi0
                go_upto_region 19 with (first
                  | (go_at_call 36; refine (HPP.out _ _ HRD.out).mono ?_; rintro e w11 ⟨rfl, hC11⟩; have Xr := Lib.hid (hC11.same Wr.out); have X6 := Lib.hid (hC11.same W6.out); have X8 := Lib.hid (hC11.same W8.out); have X10 := Lib.hid (hC11.same W10.out); have XC := Lib.hid (WC.out.then_none hC11); clear hC11 Wr W6 W8 W10 WC)
                  | (refine wpList_store_row rfl 58 (Operand.tmp 12) (Operand.tmp 60) rfl w11.heap.size (bs PC) rfl rfl 58 (bs (List.replicate 17 0)) (alloc_new _ _) HIPC.out (by rw [bs_size, bs_size, HPCL.out.1]; rfl) (bs_one _) ?_))
                try simp only [Act.put]
                show Code.wp _ _ _ _ ((w11.alloc (.cells (bs (List.replicate 17 0)) 58)).setRow w11.heap.size (bs PC))
                have Yr := Lib.hid (show ((w11.alloc (.cells (bs (List.replicate 17 0)) 58)).setRow w11.heap.size (bs PC)).heap[w.heap.size + 1]? = _ from row_other (alloc_old Xr.out) (by have := lt_blk Xr.out; omega))
                have Y6 := Lib.hid (show ((w11.alloc (.cells (bs (List.replicate 17 0)) 58)).setRow w11.heap.size (bs PC)).heap[g6]? = _ from row_other (alloc_old X6.out) (by have := lt_blk X6.out; omega))
                have Y8 := Lib.hid (show ((w11.alloc (.cells (bs (List.replicate 17 0)) 58)).setRow w11.heap.size (bs PC)).heap[g8]? = _ from row_other (alloc_old X8.out) (by have := lt_blk X8.out; omega))
                have Y10 := Lib.hid (show ((w11.alloc (.cells (bs (List.replicate 17 0)) 58)).setRow w11.heap.size (bs PC)).heap[g10]? = some (.cells (bs B1) 58 (0, 0)) from row_other (alloc_old X10.out) (by have := lt_blk X10.out; omega))
                have Y12 := Lib.hid (show ((w11.alloc (.cells (bs (List.replicate 17 0)) 58)).setRow w11.heap.size (bs PC)).heap[w11.heap.size]? = some (.cells (bs PC) 58 (0, 0)) from row_blk (alloc_new _ _))
                have YC := Lib.hid (show Chg Nowhere w ((w11.alloc (.cells (bs (List.replicate 17 0)) 58)).setRow w11.heap.size (bs PC)) from (XC.out.alloc _).putRow (.inr XC.out.size))
                generalize (w11.alloc (.cells (bs (List.replicate 17 0)) 58)).setRow w11.heap.size (bs PC) = w12 at Yr Y6 Y8 Y10 Y12 YC ⊢
                generalize w11.heap.size = g12 at Y12 ⊢
                clear Xr X6 X8 X10 XC
                have HIB3 := Lib.hid (show InfoArr 58 (bs B3).size by rw [bs_size, HB3L.out]; exact info17)
                have HII := Lib.hid (show ∀ L : List Nat, L.length = 17 → (Tryd.prog.info? 58).map (·.size) = some (bl L).length from fun L h => by rw [bl_len, h]; exact info17)
                have huB := Tryd.underlying58
                refine wp_region_calm0 5 [62, 63, 64, 65, 66] [] [⟨[62], fun v _ => v = [.agg (bs B1)]⟩, ⟨[63], fun v _ => v = [.agg (bs PC)]⟩, ⟨[64], fun v _ => v = [.agg (bs B2)]⟩, ⟨[65], fun v _ => v = [.agg (bs BY)]⟩, ⟨[66], fun v _ => v = [.agg (bs B3)]⟩] (Chg Nowhere) (by kernel_rfl) (by kernel_rfl) (by kernel_rfl) (Chg.refl _) Chg.trans' Chg.size (by decide) (Chg.refl Nowhere _).drew ?_ ?_ ?_
                · exact ⟨fun _ _ _ _ h => h, fun _ _ _ _ h => h, fun _ _ _ _ h => h, fun _ _ _ _ h => h, fun _ _ _ _ h => h, trivial⟩
                · simp only [List.take_succ_cons, List.take_zero]
                  refine Steps.cons ?_ (Steps.cons ?_ (Steps.cons ?_ (Steps.cons ?_ (Steps.cons ?_ Steps.nil))))
                  · intro x w' hR hd K Q' hK
                    exact wp_load_mid 58 (Operand.tmp 10) rfl g10 0 rfl (bl B1) _ (rangeAt_blk (hR.same Y10.out)) huB rfl (HII.out _ HB1L.out) (hK _ _ (Chg.refl _ _) rfl (fun d h1 h2 => by simp at h2))
                  · intro x w' hR hd K Q' hK
                    exact wp_load_mid 58 (Operand.tmp 12) rfl g12 0 rfl (bl PC) _ (rangeAt_blk (hR.same Y12.out)) huB rfl (HII.out _ HPCL.out.1) (hK _ _ (Chg.refl _ _) rfl (fun d h1 h2 => by simp at h2))
                  · intro x w' hR hd K Q' hK
                    exact wp_call_fn rfl enters_radd [.agg (bs B1), .agg (bs PC)] (two_slots (hd 0 (by kernel_rfl)) (hd 1 (by kernel_rfl))) ((HADD2.out w').mono fun e w3 ⟨he, hC3⟩ => ⟨_, he, hK _ _ hC3 rfl (fun d h1 h2 => by simp at h2)⟩)
                  · intro x w' hR hd K Q' hK
                    exact wp_load_mid 58 (Operand.tmp 8) rfl g8 0 rfl (bl BY) _ (rangeAt_blk (hR.same Y8.out)) huB rfl (HII.out _ HBYL.out) (hK _ _ (Chg.refl _ _) rfl (fun d h1 h2 => by simp at h2))
                  · intro x w' hR hd K Q' hK
                    exact wp_call_fn rfl enters_rmul [.agg (bs B2), .agg (bs BY)] (two_slots (hd 2 (by kernel_rfl)) (hd 3 (by kernel_rfl))) ((HMUL2.out w').mono fun e w3 ⟨he, hC3⟩ => ⟨_, he, hK _ _ hC3 rfl (fun d h1 h2 => by simp at h2)⟩)
                · intro x w' hR hV hap
                  have e66 : x 66 = .agg (bs B3) := List.head_eq_of_cons_eq (hV 4 (by decide))
                  have Vr := Lib.hid (hR.same Yr.out)
                  have V6 := Lib.hid (hR.same Y6.out)
                  have V8 := Lib.hid (hR.same Y8.out)
                  have V10 := Lib.hid (hR.same Y10.out)
                  have VC := Lib.hid (YC.out.then_none hR)
                  clear hR hV hap Yr Y6 Y8 Y10 Y12 YC
                  set_option linter.unusedSimpArgs false in
                  simp only [puts, putsL, List.contains_cons, List.contains_nil, Nat.reduceBEq, Bool.or_true, Bool.true_or, Bool.or_false, Bool.false_eq_true, if_true, if_false, Nat.reduceAdd, List.drop_succ_cons, List.drop_zero, e66]
                  generalize x 62 = x62
                  generalize x 63 = x63
                  generalize x 64 = x64
                  generalize x 65 = x65
                  clear e66
                  go_wp2_with (refine wpList_store_row rfl 58 (Operand.tmp 10) (Operand.tmp 66) rfl g10 (bs B3) rfl rfl 58 (bs B1) V10.out HIB3.out (by rw [bs_size, bs_size, HB3L.out, HB1L.out]) (bs_one _) ?_)
                  go_roundw
                  case rel => exact ⟨k + 1, by have := HI0.out; omega, congrArg (Value.int .i64) (by have := HI0.out; omega), row_other Vr.out (by have := HG10.out; omega), row_other V6.out (by have := HG10.out; omega), row_other V8.out (by have := HG10.out; omega), (row_blk V10.out).trans (by rw [HB3E.out]), VC.out.putRow (.inr (by have := HG10.out; omega))⟩
                  case measure => simp [intOf]; omega
            · have hdi : decide ((i0 : Int) < (n : Int)) = false := decide_eq_false (by omega)
              have hkk : k = (n + 15) / 16 := by omega
              have HLW := Lib.hid (show ∀ w, Calls Tryd.prog 39 #[.agg (bs (bytesOf 17 (polyA r l k))), .agg (bs K2)] w (Gives w (.agg (bs OUT))) from fun w => HLOW.out k w hkk)
              obtain ⟨B1, hB1⟩ : ∃ B, B = bytesOf 17 (polyA r l k) := ⟨_, rfl⟩
              have HLW2 := Lib.hid (show ∀ w, Calls Tryd.prog 39 #[.agg (bs B1), .agg (bs K2)] w (Gives w (.agg (bs OUT))) from fun w => by rw [hB1]; exact HLW.out w)
              have V10 := Lib.hid (show wr.heap[g10]? = some (.cells (bs B1) 58 (0, 0)) by rw [hB1]; exact W10.out)
              have HIB1 := Lib.hid (show InfoArr 58 (bs B1).size by rw [bs_size, hB1, bytesOf_len]; exact info17)
              clear HLW HLOW W10 hB1 hkk hi0
              go_wp2_with (first
                | (refine wpList_load_row rfl 58 (Operand.tmp 10) rfl g10 rfl 58 _ (0, 0) _ V10.out Tryd.underlying58 rfl HIB1.out ?_)
                | (refine wpList_load_row rfl 36 (Operand.tmp 6) rfl g6 rfl 36 _ (0, 0) _ W6.out Tryd.underlying36 rfl HIK2.out ?_)
                | (go_at_call 39; refine (HLW2.out _).mono ?_; rintro e w13 ⟨rfl, hC13⟩; have Ur := Lib.hid (hC13.same Wr.out); have UC := Lib.hid (WC.out.then_none hC13); clear hC13)
                | (refine wpList_store_row rfl 36 (Operand.tmp 4) (Operand.tmp 69) rfl (w.heap.size + 1) (bs OUT) rfl rfl 36 (bs (List.replicate 16 0)) Ur.out HIOUT.out (by rw [bs_size, bs_size, HOUTL.out]; rfl) (bs_one _) ?_))
              refine bodyPost_ret (results_cell_row rfl _ _ (w.heap.size + 1) _ _ (0, 0) _ rfl (row_blk Ur.out) Tryd.underlying36 rfl HIOUT.out) rfl ⟨rfl, UC.out.putRow (.inr (by omega))⟩
end Go.Proofs.YtebmbapaedlmiaaDoor
