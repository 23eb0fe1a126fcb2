/-
  Package aead: tag (the walk). UNDER WAY.
-/
import Derived.Test.YtebmbapaedlmiaaDoorSAeV
import Derived.Deep.DeepCutAuto
namespace Go.Proofs.YtebmbapaedlmiaaDoor
open Go.RowKit Ae
set_option linter.unusedVariables false

set_option maxHeartbeats 2000000 in
set_option maxRecDepth 100000 in
theorem tag_any (key nonce : List Nat) (hk : key.length = 32) (hkb : Byt key) (hn : nonce.length = 12) (hnb : Byt nonce) (v x : Value) (l m : List Nat) (w : World) (h : RdB w v l) (hx : RdB w x m) (hb : Byt l) (hmb : Byt m) (hl : l.length ≤ 40000000) (hm : m.length ≤ 40000000) (hg : Glob w) :
    Calls Tryd.prog 15 #[.agg (bs key), .agg (bs nonce), v, x] w (Gives w (.agg (bs (tagL key nonce l m)))) := by
  obtain ⟨BL, hBL⟩ : ∃ B, B = block key 0 nonce := ⟨_, rfl⟩
  obtain ⟨P1, hP1⟩ : ∃ P, P = padL l := ⟨_, rfl⟩
  obtain ⟨P2, hP2⟩ : ∃ P, P = padL (P1 ++ m) := ⟨_, rfl⟩
  have HPL1 := Lib.hid (show P1.length ≤ l.length + 15 by rw [hP1]; exact padL_len l)
  have HPL2 := Lib.hid (show P2.length ≤ l.length + m.length + 30 by rw [hP2]; have := padL_len (P1 ++ m); have := HPL1.out; rw [List.length_append] at *; omega)
  have HPB2 := Lib.hid (show Byt P2 by rw [hP2, hP1]; exact padL_byt ((padL_byt hb).append hmb))
  have HP1 := Lib.hid hP1
  have HP2 := Lib.hid hP2
  have HCB := Lib.hid (show ∀ w : World, Glob w → Calls Tryd.prog 19 #[.agg (bs key), .int .u32 0, .agg (bs nonce)] w (Gives w (.agg (bs BL))) from fun w hg => by rw [hBL]; exact chablock_any key nonce 0 hk hkb hn hnb (by omega) w hg)
  have HBLL := Lib.hid (show BL.length = 64 by rw [hBL]; exact block_len _ _ _)
  have HBLB := Lib.hid (show Byt BL by rw [hBL]; exact block_byt _ _ _)
  have HT := Lib.hid (show tagL key nonce l m = sumL (BL.take 32) (accT P2 l.length m.length 2) by rw [hBL, hP2, hP1]; rfl)
  have HIK := Lib.hid (show InfoArr 23 (bs key).size by rw [bs_size, hk]; exact info32)
  have HIN := Lib.hid (show InfoArr 25 (bs nonce).size by rw [bs_size, hn]; exact info12)
  have HIB := Lib.hid (show InfoArr 43 (bs BL).size by rw [bs_size, HBLL.out]; exact info64)
  have HH := Lib.hid h
  have HX := Lib.hid hx
  have HB := Lib.hid hb
  have HMB := Lib.hid hmb
  have HG := Lib.hid hg
  have HL := Lib.hid hl
  have HM := Lib.hid hm
  obtain ⟨-, A, c, rfl, hnc, -⟩ := h
  obtain ⟨-, A2, c2, rfl, hnc2, -⟩ := hx
  obtain ⟨a, ha⟩ : ∃ a, a = l.length := ⟨_, rfl⟩
  obtain ⟨b, hb2⟩ : ∃ a, a = m.length := ⟨_, rfl⟩
  rw [← ha, ← hb2] at HT
  rw [← ha] at HH hnc
  rw [← hb2] at HX hnc2
  rw [← ha, ← hb2]
  have HA := Lib.hid ha
  have HB2 := Lib.hid hb2
  clear hBL hk hkb hn hnb hb hmb hg hP1 hP2 hl hm ha hb2
  have HC0 := Lib.hid ((((Chg.refl Nowhere w).alloc (.cells (bs key) 23)).alloc (.cells (bs nonce) 25)).alloc (.cells (bs (List.replicate 16 0)) 36))
  go_enter Tryd.func15, Tryd.ntmps15
  go_upto_region 3 with (first
    | (refine wpList_load_row rfl 23 (Operand.tmp 4) rfl w.heap.size rfl 23 _ (0, 0) _ (alloc_old (alloc_old (alloc_new w (.cells (bs key) 23)))) Tryd.underlying23 rfl HIK.out ?_)
    | (refine wpList_load_row rfl 25 (Operand.tmp 5) rfl (w.heap.size + 1) rfl 25 _ (0, 0) _ (alloc_old (new_1 w (.cells (bs key) 23) (.cells (bs nonce) 25))) Tryd.underlying25 rfl HIN.out ?_)
    | (go_at_call 19; refine (HCB.out _ (HG.out.chg HC0.out)).mono ?_; rintro e w1 ⟨rfl, hC1⟩; have HR1 := Lib.hid (hC1.same (new_2 w (.cells (bs key) 23) (.cells (bs nonce) 25) (.cells (bs (List.replicate 16 0)) 36))); have HC1 := Lib.hid (Chg.none_then HC0.out hC1); clear hC1)
    | (refine wpList_store_row rfl 43 (Operand.tmp 9) (Operand.tmp 16) rfl w1.heap.size _ rfl rfl 43 (bs (List.replicate 64 0)) (alloc_new _ _) HIB.out (by rw [bs_size, bs_size, HBLL.out]; rfl) (bs_one _) ?_; have HW1 := Lib.hid (show TagW w ((w1.alloc (.cells (bs (List.replicate 64 0)) 43)).setRow w1.heap.size (bs BL)) w1.heap.size BL (.slice none 0 0) [] from ⟨row_other (alloc_old HR1.out) (by have := lt_blk HR1.out; omega), row_blk (alloc_new _ _), World.ownsRow_nil _ _ _ _, (fun i hi => by cases hi), (HC1.out.alloc _).putRow (.inr HC1.out.size)⟩))
    | (go_at_call 21; go_loud (refine (cloneB_any _ l _ (HH.out.same HW1.out.c) (by have := HL.out; omega)).mono ?_); rintro e w2 ⟨v2, rfl, ⟨ho2, hge2⟩, hC2⟩; have HW2 := Lib.hid (show TagW w w2 w1.heap.size BL v2 l from ⟨hC2.same HW1.out.r, hC2.same HW1.out.s, ho2, fun i hi => Nat.le_trans HW1.out.c.size (hge2 i hi), HW1.out.c.then_none hC2⟩); clear ho2 hge2 hC2)
    | (go_at_call 20; go_loud (refine (tag_pad HW2.out (by have := HL.out; omega)).mono ?_); rintro e w3 ⟨v3, rfl, hW3⟩; rw [← HP1.out] at hW3; have HW3 := Lib.hid hW3; clear hW3))
  go_cut [10] (fun v5 wx => TagW w wx w1.heap.size BL v5 P2)
  case first => as_aux_lemma =>
    obtain ⟨v4, w4, hr, h4, -⟩ := tag_app HW3.out (HX.out.same HW3.out.c) (by have := HL.out; have := HM.out; have := HPL1.out; omega)
    have HR := Lib.hid hr
    have HW4 := Lib.hid h4
    clear hr h4
    go_wp2_with (first
      | (go_at_call 20; refine (tag_pad HW4.out (by have := HL.out; have := HM.out; have := HPL1.out; rw [List.length_append]; omega)).mono ?_; rintro e w5 ⟨v5, rfl, hW5⟩; rw [← HP2.out] at hW5; have HW5 := Lib.hid hW5; clear hW5)
      | (at_builtin; refine Lib.wpList_append_run _ rfl _ _ 26 26 rfl v3 (.slice A2 b c2) rfl rfl v4 w4 HR.out ?_))
    go_meet
    exact HW5.out
  case rest =>
    have HW5 := Lib.hid hcut
    clear hcut
    go_wp2_with fail
    have HV0 := Lib.hid (show TagV w (wc.alloc (.cells #[.int .i64 (a : Int), .int .i64 (b : Int)] 3)) w1.heap.size BL wc.heap.size a b u10 (accT P2 a b 0) from ⟨HW5.out.chg ((Chg.refl Nowhere wc).alloc _), alloc_new _ _⟩)
    go_loopw [10, 30] (fun v i wr => ∃ k : Nat, k ≤ 2 ∧ i = .int .i64 k ∧ TagV w wr w1.heap.size BL wc.heap.size a b v (accT P2 a b k)) (fun _ i _ => 2 - (intOf i).toNat)
    case atStart => exact ⟨0, by omega, rfl, HV0.out⟩
    case round =>
      obtain ⟨k, hk, rfl, hV⟩ := hrel
      have HV := Lib.hid hV
      clear hV HV0
      by_cases hk2 : k < 2
      · obtain ⟨n, hc, hnl, hacc⟩ : ∃ n : Nat, wr.cell? ⟨wc.heap.size, k, none⟩ = some (.int .i64 (n : Int)) ∧ n ≤ 40000000 ∧ accT P2 a b (k + 1) = accT P2 a b k ++ bytesOf 8 n := by
          rcases (by omega : k = 0 ∨ k = 1) with rfl | rfl
          · exact ⟨a, cell_blk HV.out.g, by have := HL.out; have := HA.out; omega, rfl⟩
          · exact ⟨b, cell_blk HV.out.g, by have := HM.out; have := HB2.out; omega, rfl⟩
        have HACC := Lib.hid hacc
        have hd2 : decide ((k : Int) < 2) = true := decide_eq_true (by omega)

        clear hacc
        go_wp2_with fail
        go_loopw [10, 34] (fun v i wi => ∃ j : Nat, j ≤ 8 ∧ i = .int .i64 j ∧ TagV w wi w1.heap.size BL wc.heap.size a b v (accT P2 a b k ++ bytesOf j n)) (fun _ i _ => 8 - (intOf i).toNat)
        case atStart => exact ⟨0, by omega, rfl, (by rw [bytesOf, List.append_nil]; exact HV.out)⟩
        case round =>
          obtain ⟨j, hj, rfl, hI⟩ := hrel
          have HI := Lib.hid hI
          clear hI
          by_cases hj2 : j < 8
          · obtain ⟨v6, w6, hr, h6⟩ := HI.out.one (n / 256 ^ j % 256) (by have := accT_len P2 a b k; have := HPL2.out; have := HL.out; have := HM.out; rw [List.length_append, bytesOf_len]; omega)
            rw [byte_at] at hr
            rw [List.append_assoc, ← bytesOf_snoc] at h6
            have HR := Lib.hid hr
            have HI6 := Lib.hid h6
            clear hr h6
            go_wp2_with (at_builtin; refine Lib.wpList_append_run _ rfl _ _ 26 26 rfl u10 (.slice (some ⟨wr.heap.size, 0, none⟩) 1 1) rfl rfl v6 w6 HR.out ?_)
            go_roundw
            case rel => exact ⟨j + 1, by omega, by go_num, HI6.out⟩
            case measure => simp [intOf]; omega
          · obtain rfl : j = 8 := by omega
            have HI8 := Lib.hid (show TagV w wr w1.heap.size BL wc.heap.size a b u10 (accT P2 a b (k + 1)) by rw [HACC.out]; exact HI.out)
            go_wp2_with fail
            go_roundw
            case rel => exact ⟨k + 1, by omega, by go_num, HI8.out⟩
            case measure => simp [intOf]; omega
      · have HK2 := Lib.hid (show accT P2 a b k = accT P2 a b 2 by rw [show k = 2 by omega])
        obtain ⟨AC, hAC⟩ : ∃ AC, AC = accT P2 a b 2 := ⟨_, rfl⟩
        obtain ⟨K32, hK32⟩ : ∃ K, K = BL.take 32 := ⟨_, rfl⟩
        have hKL : K32.length = 32 := by rw [hK32, List.length_take, HBLL.out]; rfl
        have HW := Lib.hid (show TagW w wr w1.heap.size BL u10 AC by rw [hAC, ← HK2.out]; exact HV.out.t)
        have HRS := Lib.hid (show wr.rangeAt w1.heap.size 0 (bl K32) by rw [hK32]; exact rangeAt_part (rangeAt_blk HW.out.s) (o := 0) 32)
        have HCS := Lib.hid (show Calls Tryd.prog 22 #[.agg (bs K32), u10] wr (Gives wr (.agg (bs (sumL K32 AC)))) from sum_any K32 hKL (by rw [hK32]; exact HBLB.out.take 32) u10 AC wr (rd_own HW.out.own) (by rw [hAC]; exact accT_byt HPB2.out _ _ _) (by rw [hAC]; have := accT_len P2 a b 2; have := HPL2.out; have := HL.out; have := HM.out; omega) (HG.out.chg HW.out.c))
        have HTE := Lib.hid (show tagL key nonce l m = sumL K32 AC by rw [hK32, hAC]; exact HT.out)
        have hu := Tryd.underlying23
        have hi1 : (Tryd.prog.info? 23).map (·.size) = some (bl K32).length := by rw [bl_len, hKL]; exact info32
        have hat : (Instr.arrayAt 23 (.slice (some ⟨w1.heap.size, 0, none⟩) 32 64)).run Tryd.prog wr = .ok (.pointer (some ⟨w1.heap.size, 0, none⟩)) wr := run_arrayAt wr 23 _ 32 (some ⟨w1.heap.size, 0, none⟩) 32 64 hu (Nat.le_refl _)
        have HIO := Lib.hid (show InfoArr 36 (bs (sumL K32 AC)).size by rw [bs_size, show (sumL K32 AC).length = 16 from bytesOf_len _ _]; exact info16)
        clear hAC hK32 hKL HV
        go_wp2_with (first
          | (refine wpList_load_mid rfl 23 (Operand.tmp 48) rfl w1.heap.size 0 rfl (bl K32) _ HRS.out hu rfl hi1 ?_)
          | (go_at_call 22; refine HCS.out.mono ?_; rintro e w7 ⟨rfl, hC7⟩; have HW7 := Lib.hid (HW.out.chg hC7); clear hC7)
          | (refine wpList_store_row rfl 36 (Operand.tmp 8) (Operand.tmp 51) rfl (w.heap.size + 1 + 1) _ rfl rfl 36 _ HW7.out.r HIO.out (by rw [bs_size, bs_size, show (sumL K32 AC).length = 16 from bytesOf_len _ _]; rfl) (bs_one _) ?_))
        refine bodyPost_ret (results_cell_row rfl _ _ (w.heap.size + 1 + 1) _ _ (0, 0) _ rfl (row_blk HW7.out.r) Tryd.underlying36 rfl HIO.out) rfl ⟨by rw [HTE.out], HW7.out.c.putRow (.inr (by omega))⟩
end Go.Proofs.YtebmbapaedlmiaaDoor
