/-
  The document's package for a sealed text: tag (the walk).
-/
import Derived.Test.YtebmbapaedlmiaaDoorSAdP
import Derived.Test.YtebmbapaedlmiaaDoorSAdD
import Derived.Test.YtebmbapaedlmiaaDoorSAeQ
import Derived.Deep.DeepCutAuto
namespace Go.Proofs.YtebmbapaedlmiaaDoor
open Go.RowKit Ae
set_option linter.unusedVariables false

structure RtW (w wr : World) (G : Nat) (K : List Nat) (v : Value) (l : List Nat) : Prop where
  r : wr.heap[w.heap.size + 1 + 1]? = some (.cells (bs (List.replicate 16 0)) 36 (0, 0))
  k : wr.heap[G]? = some (.cells (bs K) 23 (0, 0))
  b : BW w wr v l
theorem RtW.chg {w wr w2 : World} {G : Nat} {K : List Nat} {v : Value} {l : List Nat} (h : RtW w wr G K v l) (hc : Chg Nowhere wr w2) : RtW w w2 G K v l :=
  ⟨hc.same h.r, hc.same h.k, h.b.chg hc⟩
theorem RtW.app {w wr : World} {G : Nat} {K l m : List Nat} {v x : Value} (h : RtW w wr G K v l) (hx : RdB wr x m) (hn : l.length + m.length ≤ 400000000) :
    ∃ v' w', (Builtin.append_ #[26, 26] 26 #[v, x]).run Tryd.prog wr = .ok v' w' ∧ RtW w w' G K v' (l ++ m) := by
  obtain ⟨v', w', h1, h2, hg, hob⟩ := append_rd wr 26 v x l.length (bl l) m h.b.own hx hn
  rw [← bl_append, ← List.length_append] at h2
  exact ⟨v', w', h1, (hg.block _ (lt_blk h.r) (own_ne h.b.own h.r (by decide))).trans h.r, (hg.block _ (lt_blk h.k) (own_ne h.b.own h.k (by decide))).trans h.k, h2, fun i hi => by
    rcases hob with e | e <;> rw [e] at hi
    · exact h.b.ge i hi
    · injection hi with e2
      have := h.b.c.size
      omega, h.b.c.grown hg (fun k hk => .inl (h.b.ge k hk))⟩
theorem padL_16 (l : List Nat) : (padL l).length % 16 = 0 := by simp [padL]; omega
theorem tagT_parts (l m : List Nat) : tagT l m = ((padL l ++ padL m) ++ bytesOf 8 l.length) ++ bytesOf 8 m.length := by
  have h1 := padL_16 l
  have : padL (padL l ++ m) = padL l ++ padL m := by
    rw [padL, List.length_append, show (16 - ((padL l).length + m.length) % 16) % 16 = (16 - m.length % 16) % 16 by omega, List.append_assoc]
    rfl
  rw [tagT, this]
theorem zeros32 : bs (List.replicate 32 0) = bs (List.replicate 32 0) := rfl
set_option maxHeartbeats 8000000 in
set_option maxRecDepth 100000 in
theorem rtag_any (key nonce : List Nat) (hk : key.length = 32) (hkb : Byt key) (hn : nonce.length = 12) (hnb : Byt nonce) (v x : Value) (l m : List Nat) (w : World) (h : RdB w v l) (hx : RdB w x m) (hb : Byt l) (hmb : Byt m) (hl : l.length ≤ 40000000) (hm : m.length ≤ 40000000) :
    Calls Tryd.prog 16 #[.agg (bs key), .agg (bs nonce), v, x] w (Gives w (.agg (bs (tagL key nonce l m)))) := by
  obtain ⟨BL, hBL⟩ : ∃ B, B = block key 0 nonce := ⟨_, rfl⟩
  obtain ⟨K, hK⟩ : ∃ K, K = BL.take 32 := ⟨_, rfl⟩
  have HCB := Lib.hid (show ∀ w : World, Calls Tryd.prog 18 #[.agg (bs key), .int .u32 0, .agg (bs nonce)] w (Gives w (.agg (bs BL))) from fun w => by rw [hBL]; exact rblock_any key nonce 0 hk hkb hn hnb (by omega) w)
  have hBLL : BL.length = 64 := by rw [hBL]; exact block_len _ _ _
  have hBLB : Byt BL := by rw [hBL]; exact block_byt _ _ _
  have HBLL := Lib.hid hBLL
  have hKL : K.length = 32 := by rw [hK, List.length_take, hBLL]; rfl
  have HKL := Lib.hid hKL
  have HKG := Lib.hid (show ∀ k, k < 32 → BL[k]? = some (K.getD k 0) ∧ K[k]? = some (K.getD k 0) from fun k hk2 => by
    have h2 : K[k]? = some (K.getD k 0) := some_getD (by omega)
    refine ⟨?_, h2⟩
    rw [← h2, hK, List.getElem?_take_of_lt hk2])
  obtain ⟨P1, hP1⟩ : ∃ P, P = padL l := ⟨_, rfl⟩
  obtain ⟨P2, hP2⟩ : ∃ P, P = padL m := ⟨_, rfl⟩
  obtain ⟨a, ha⟩ : ∃ a, a = l.length := ⟨_, rfl⟩
  obtain ⟨b, hb2⟩ : ∃ a, a = m.length := ⟨_, rfl⟩
  obtain ⟨E1, hE1⟩ : ∃ P, P = bytesOf 8 a := ⟨_, rfl⟩
  obtain ⟨E2, hE2⟩ : ∃ P, P = bytesOf 8 b := ⟨_, rfl⟩
  have HTT := Lib.hid (show tagT l m = ((P1 ++ P2) ++ E1) ++ E2 by rw [hP1, hP2, hE1, hE2, ha, hb2]; exact tagT_parts l m)
  have HPL1 := Lib.hid (show P1.length ≤ 40000015 by rw [hP1]; have := padL_len l; omega)
  have HPL2 := Lib.hid (show P2.length ≤ 40000015 by rw [hP2]; have := padL_len m; omega)
  have HEL1 := Lib.hid (show E1.length = 8 by rw [hE1]; exact bytesOf_len _ _)
  have HEL2 := Lib.hid (show E2.length = 8 by rw [hE2]; exact bytesOf_len _ _)
  have HTB := Lib.hid (show Byt (((P1 ++ P2) ++ E1) ++ E2) by rw [← HTT.out]; exact tagT_byt hb hmb)
  have HF1 := Lib.hid (show ∀ w1, Chg Nowhere w w1 → Calls Tryd.prog 23 #[v] w1 (GivesO w1 P1) from fun w1 hc => by rw [hP1]; exact rfull_any v l w1 (h.same hc) (by omega))
  have HF2 := Lib.hid (show ∀ w1, Chg Nowhere w w1 → Calls Tryd.prog 23 #[x] w1 (GivesO w1 P2) from fun w1 hc => by rw [hP2]; exact rfull_any x m w1 (hx.same hc) (by omega))
  have HE1 := Lib.hid (show ∀ w1, Calls Tryd.prog 24 #[.int .i64 (a : Int)] w1 (GivesO w1 E1) from fun w1 => by rw [hE1]; exact reight_any a (by omega) w1)
  have HE2 := Lib.hid (show ∀ w1, Calls Tryd.prog 24 #[.int .i64 (b : Int)] w1 (GivesO w1 E2) from fun w1 => by rw [hE2]; exact reight_any b (by omega) w1)
  obtain ⟨T, hT⟩ : ∃ T, T = tagL key nonce l m := ⟨_, rfl⟩
  have HT := Lib.hid (show T = sumL K (((P1 ++ P2) ++ E1) ++ E2) by rw [hT, ← HTT.out, hK, hBL]; rfl)
  have HTL := Lib.hid (show T.length = 16 by rw [HT.out]; exact bytesOf_len _ _)
  have HSUM := Lib.hid (show ∀ v w1, RdB w1 v (((P1 ++ P2) ++ E1) ++ E2) → Calls Tryd.prog 25 #[.agg (bs K), v] w1 (Gives w1 (.agg (bs T))) from fun v w1 hv => by
    rw [HT.out]
    exact rsum_any K hKL (by rw [hK]; exact hBLB.take 32) v _ w1 hv HTB.out (by have := HPL1.out; have := HPL2.out; have := HEL1.out; have := HEL2.out; simp only [List.length_append]; omega))
  have HIK := Lib.hid (show InfoArr 23 (bs key).size by rw [bs_size, hk]; exact info32)
  have HIN := Lib.hid (show InfoArr 25 (bs nonce).size by rw [bs_size, hn]; exact info12)
  have HIB := Lib.hid (show InfoArr 43 (bs BL).size by rw [bs_size, hBLL]; exact info64)
  have HI32 := Lib.hid (show InfoArr 23 (bs (List.replicate 32 0)).size by rw [bs_size, List.length_replicate]; exact info32)
  have HIKK := Lib.hid (show InfoArr 23 (bs K).size by rw [bs_size, hKL]; exact info32)
  have HIT := Lib.hid (show InfoArr 36 (bs T).size by rw [bs_size, HTL.out]; exact info16)
  obtain ⟨-, A, c, rfl, hnc, -⟩ := h
  obtain ⟨-, A2, c2, rfl, hnc2, -⟩ := hx
  rw [← hT]
  rw [← ha] at HF1
  rw [← hb2] at HF2
  rw [← ha, ← hb2]
  clear hBL hBLL hBLB hKL hK hk hkb hn hnb hb hmb hP1 hP2 hE1 hE2 hl hm ha hb2 hnc hnc2 hT HT HTB HTT
  have HC0 := Lib.hid ((((Chg.refl Nowhere w).alloc (.cells (bs key) 23)).alloc (.cells (bs nonce) 25)).alloc (.cells (bs (List.replicate 16 0)) 36))
  go_enter Tryd.func16, Tryd.ntmps16
  go_upto_region 2 with (first
    | (refine wpList_load_row rfl 23 (Operand.tmp 4) rfl w.heap.size rfl 23 _ (0, 0) _ (alloc_old (alloc_old (alloc_new w (.cells (bs key) 23)))) Tryd.underlying23 rfl HIK.out ?_)
    | (refine wpList_load_row rfl 25 (Operand.tmp 5) rfl (w.heap.size + 1) rfl 25 _ (0, 0) _ (alloc_old (new_1 w (.cells (bs key) 23) (.cells (bs nonce) 25))) Tryd.underlying25 rfl HIN.out ?_)
    | (go_at_call 18; refine (HCB.out _).mono ?_; rintro e w1 ⟨rfl, hC1⟩; have HR1 := Lib.hid (hC1.same (new_2 w (.cells (bs key) 23) (.cells (bs nonce) 25) (.cells (bs (List.replicate 16 0)) 36))); have HC1 := Lib.hid (HC0.out.then_none hC1); clear hC1)
    | (refine wpList_store_row rfl 43 (Operand.tmp 9) (Operand.tmp 15) rfl w1.heap.size _ rfl rfl 43 (bs (List.replicate 64 0)) (alloc_new _ _) HIB.out (by rw [bs_size, bs_size, HBLL.out]; rfl) (bs_one _) ?_))
  try simp only [Act.put]
  show Code.wp _ _ _ _ ((w1.alloc (.cells (bs (List.replicate 64 0)) 43)).setRow w1.heap.size (bs BL))
  have XR := Lib.hid (show ((w1.alloc (.cells (bs (List.replicate 64 0)) 43)).setRow w1.heap.size (bs BL)).heap[w.heap.size + 1 + 1]? = _ from row_other (alloc_old HR1.out) (by have := lt_blk HR1.out; omega))
  have XB := Lib.hid (show ((w1.alloc (.cells (bs (List.replicate 64 0)) 43)).setRow w1.heap.size (bs BL)).heap[w1.heap.size]? = some (.cells (bs BL) 43 (0, 0)) from row_blk (alloc_new _ _))
  have XC := Lib.hid (show Chg Nowhere w ((w1.alloc (.cells (bs (List.replicate 64 0)) 43)).setRow w1.heap.size (bs BL)) from (HC1.out.alloc _).putRow (.inr HC1.out.size))
  have HG9 := Lib.hid (lt_blk HR1.out)
  generalize (w1.alloc (.cells (bs (List.replicate 64 0)) 43)).setRow w1.heap.size (bs BL) = w2 at XR XB XC ⊢
  generalize w1.heap.size = g9 at XB HG9 ⊢
  clear HR1 HC1 HC0 HCB HIK HIN HIB
  go_upto_region 3 with (refine wpList_store_row rfl 23 (Operand.tmp 10) (Operand.tmp 16) rfl w2.heap.size (bs (List.replicate 32 0)) rfl rfl 23 (bs (List.replicate 32 0)) (alloc_new _ _) HI32.out rfl (bs_one _) ?_)
  try simp only [Act.put]
  show Code.wp _ _ _ _ ((w2.alloc (.cells (bs (List.replicate 32 0)) 23)).setRow w2.heap.size (bs (List.replicate 32 0)))
  have HCC := Lib.hid (show Chg Nowhere w2 ((w2.alloc (.cells (bs (List.replicate 32 0)) 23)).setRow w2.heap.size (bs (List.replicate 32 0))) from ((Chg.refl Nowhere w2).alloc _).putRow (.inr (Nat.le_refl _)))
  have YR := Lib.hid (HCC.out.same XR.out)
  have YB := Lib.hid (HCC.out.same XB.out)
  have YK := Lib.hid (show ((w2.alloc (.cells (bs (List.replicate 32 0)) 23)).setRow w2.heap.size (bs (List.replicate 32 0))).heap[w2.heap.size]? = some (.cells (bs (List.replicate 32 0)) 23 (0, 0)) from row_blk (alloc_new _ _))
  have YC := Lib.hid (XC.out.then_none HCC.out)
  have HG10 := Lib.hid (show w.heap.size + 1 + 1 < w2.heap.size ∧ g9 < w2.heap.size from ⟨lt_blk XR.out, lt_blk XB.out⟩)
  clear HCC
  generalize (w2.alloc (.cells (bs (List.replicate 32 0)) 23)).setRow w2.heap.size (bs (List.replicate 32 0)) = w3 at YR YB YK YC ⊢
  generalize w2.heap.size = g10 at YK HG10 ⊢
  clear XR XB XC
  go_wp2_with fail
  go_loopw [11] (fun i wr => ∃ k : Nat, k ≤ 32 ∧ i = .int .i64 (k : Int) ∧ wr.heap[w.heap.size + 1 + 1]? = some (.cells (bs (List.replicate 16 0)) 36 (0, 0)) ∧ wr.heap[g9]? = some (.cells (bs BL) 43 (0, 0)) ∧ wr.heap[g10]? = some (.cells (bs (fillTo 0 K k)) 23 (0, 0)) ∧ Chg Nowhere w wr) (fun i _ => 32 - (intOf i).toNat)
  case atStart => exact ⟨0, by omega, rfl, YR.out, YB.out, (by rw [fill_zero, HKL.out]; exact YK.out), YC.out⟩
  case round =>
    obtain ⟨k, hk, rfl, hR, hB, hK, hC⟩ := hrel
    clear YR YB YK YC
    have WR := Lib.hid hR
    have WB := Lib.hid hB
    have WK := Lib.hid hK
    have WC := Lib.hid hC
    clear hR hB hK hC
    by_cases hk2 : k < 32
    · have hdk : decide ((k : Int) < 32) = true := decide_eq_true (by omega)
      obtain ⟨y, hy⟩ : ∃ a, a = K.getD k 0 := ⟨_, rfl⟩
      have HA := Lib.hid (HKG.out k hk2)
      rw [← hy] at HA
      have c5 : wr.cell? ⟨g9, k, none⟩ = some (.int .u8 (y : Int)) := (cell_blk WB.out (o := k)).trans (bs_get HA.out.1)
      obtain ⟨z8, hz8⟩ := fill_getD K (k := k) (by rw [HKL.out]; omega)
      have c8 := (cell_blk WK.out (o := k)).trans (bs_get hz8)
      have f8 : wr.frozen? ⟨g10, k, none⟩ = false := frozen_blk WK.out
      have hk64 : (k : Int) < 64 := by omega
      clear hy hz8
      go_wp2_with fail
      go_roundw
      case rel => exact ⟨k + 1, by omega, by go_num, (set_other _ (by have := HG10.out; show w.heap.size + 1 + 1 ≠ g10; omega)).trans WR.out, (set_other _ (by have := HG10.out; show g9 ≠ g10; omega)).trans WB.out, (set_blk _ WK.out).trans (by rw [bs_set, fill_set 0 K HA.out.2]), WC.out.put (.inr (by have := HG10.out; omega))⟩
      case measure => simp [intOf]; omega
    · have F8 := Lib.hid (show fillTo 0 K k = K from fill_all 0 K (by rw [HKL.out]; omega))
      rw [F8.out] at WK
      clear WB F8 HKG
      go_upto_region 8 with (first
        | (go_at_call 23; refine (HF1.out _ WC.out).mono ?_; clear HF1; rintro e w5 ⟨v5, rfl, ⟨ho5, hg5⟩, hC5⟩; have HW5 := Lib.hid (show RtW w w5 g10 K v5 P1 from ⟨hC5.same WR.out, hC5.same WK.out, ho5, fun i hi => Nat.le_trans WC.out.size (hg5 i hi), WC.out.then_none hC5⟩); clear ho5 hg5 hC5 WR WK WC)
        | (go_at_call 23; refine (HF2.out _ HW5.out.b.c).mono ?_; clear HF2; rintro e w6 ⟨v6, rfl, ⟨ho6, hg6⟩, hC6⟩; have HW6 := Lib.hid (HW5.out.chg hC6); have HX6 := Lib.hid (rd_own ho6); obtain ⟨v7, w7, hr7, hW7⟩ := HW6.out.app HX6.out (by have := HPL1.out; have := HPL2.out; omega); have HR7 := Lib.hid hr7; have HW7 := Lib.hid hW7; clear hr7 hW7 HW5 HW6 HX6 ho6 hg6 hC6)
        | (at_builtin; refine Lib.wpList_append_run _ rfl _ _ 26 26 rfl v5 v6 rfl rfl v7 w7 HR7.out ?_))
      clear HR7
      go_upto_region 9 with (first
        | (go_at_call 24; refine (HE1.out _).mono ?_; clear HE1; rintro e w8 ⟨v8, rfl, ⟨ho8, hg8⟩, hC8⟩; have HW8 := Lib.hid (HW7.out.chg hC8); have HX8 := Lib.hid (rd_own ho8); obtain ⟨v9, w9, hr9, hW9⟩ := HW8.out.app HX8.out (by have := HPL1.out; have := HPL2.out; have := HEL1.out; rw [List.length_append]; omega); have HR9 := Lib.hid hr9; have HW9 := Lib.hid hW9; clear hr9 hW9 HW7 HW8 HX8 ho8 hg8 hC8)
        | (at_builtin; refine Lib.wpList_append_run _ rfl _ _ 26 26 rfl v7 v8 rfl rfl v9 w9 HR9.out ?_))
      clear HR9
      go_upto_region 10 with (first
        | (go_at_call 24; refine (HE2.out _).mono ?_; clear HE2; rintro e wa ⟨va, rfl, ⟨hoa, hga⟩, hCa⟩; have HWa := Lib.hid (HW9.out.chg hCa); have HXa := Lib.hid (rd_own hoa); obtain ⟨vb, wb, hrb, hWb⟩ := HWa.out.app HXa.out (by have := HPL1.out; have := HPL2.out; have := HEL1.out; have := HEL2.out; simp only [List.length_append]; omega); have HRb := Lib.hid hrb; have HWb := Lib.hid hWb; clear hrb hWb HW9 HWa HXa hoa hga hCa)
        | (at_builtin; refine Lib.wpList_append_run _ rfl _ _ 26 26 rfl v9 va rfl rfl vb wb HRb.out ?_))
      clear HRb
      go_wp2_with (first
        | (refine wpList_load_row rfl 23 (Operand.tmp 10) rfl g10 rfl 23 _ (0, 0) _ HWb.out.k Tryd.underlying23 rfl HIKK.out ?_)
        | (go_at_call 25; refine (HSUM.out _ _ (rd_own HWb.out.b.own)).mono ?_; rintro e wc ⟨rfl, hCc⟩; have HWc := Lib.hid (HWb.out.chg hCc); clear hCc)
        | (refine wpList_store_row rfl 36 (Operand.tmp 8) (Operand.tmp 43) rfl (w.heap.size + 1 + 1) (bs T) rfl rfl 36 (bs (List.replicate 16 0)) HWc.out.r HIT.out (by rw [bs_size, bs_size, HTL.out]; rfl) (bs_one _) ?_))
      refine bodyPost_ret (results_cell_row rfl _ _ (w.heap.size + 1 + 1) _ _ (0, 0) _ rfl (row_blk HWc.out.r) Tryd.underlying36 rfl HIT.out) rfl ⟨rfl, HWc.out.b.c.putRow (.inr (by omega))⟩
end Go.Proofs.YtebmbapaedlmiaaDoor
