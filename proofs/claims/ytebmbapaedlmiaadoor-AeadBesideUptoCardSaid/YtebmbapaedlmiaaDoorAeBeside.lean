/-
  AeadBeside: the law's walk.
-/
import Derived.Test.YtebmbapaedlmiaaDoorAeOpen
import Derived.Test.YtebmbapaedlmiaaDoorCalm4
namespace Go.Proofs.YtebmbapaedlmiaaDoor
open Go.RowKit Ae
set_option linter.unusedVariables false

theorem enters_rxor : Enters Tryd.prog 13 := enters_of Tryd.func13 (by kernel_rfl) rfl
set_option maxHeartbeats 4000000 in
set_option maxRecDepth 100000 in
theorem beside_walk (key nonce : List Nat) (hk : key.length = 32) (hkb : Byt key) (hn : nonce.length = 12) (hnb : Byt nonce) (vb x y : Value) (l l2 m : List Nat) (w : World) (h : RdB w vb l) (hx : RdB w x l2) (hy : RdB w y m) (hb : Byt l) (hb2 : Byt l2) (hmb : Byt m) (hl : l.length ≤ 30000000) (hl2 : l2.length ≤ 30000000) (hm : m.length ≤ 30000000) (hg : Glob w) :
    Calls Tryd.prog 7 #[.agg (boxV key nonce vb), x, y] w (Gives w (.bool true)) := by
  obtain ⟨O, hO⟩ : ∃ O, O = xors key 1 nonce m := ⟨_, rfl⟩
  obtain ⟨n, hnn⟩ : ∃ n, n = m.length := ⟨_, rfl⟩
  have hOl : O.length = n := by rw [hO, xors_len, hnn]
  have HOL := Lib.hid hOl
  have HSealG := fun (u : Value) (ll : List Nat) (hu : RdB w u ll) (hub : Byt ll) (hul : ll.length ≤ 30000000) => show ∀ w1, Chg Nowhere w w1 → Calls Tryd.prog 9 #[.agg (bs key), .agg (bs nonce), u, y] w1 (fun e w2 => ∃ g S, e = .returned (.slice (some ⟨g, 0, none⟩) (n + 16) (n + 16)) ∧ w2.heap[g]? = some (.cells (bs S) 5 (0, 0)) ∧ S.length = n + 16 ∧ S.take n = O ∧ Chg Nowhere w1 w2) from fun w1 hc => by
    refine (seal_any key nonce hk hkb hn hnb u y ll m w1 (hu.same hc) (hy.same hc) hub hmb (by omega) (by omega) (hg.chg hc)).mono ?_
    rintro e w2 ⟨_, rfl, ⟨g, -, rfl, hh⟩, hC⟩
    exact ⟨g, _, by rw [sealL_len, ← hnn], hh, by rw [sealL_len, ← hnn], by rw [hnn, sealL_take, hO], hC⟩
  have HSeal1 := Lib.hid (HSealG vb l h hb hl)
  have HSeal2 := Lib.hid (HSealG x l2 hx hb2 hl2)
  clear HSealG
  have HXor := Lib.hid (show ∀ w1, Chg Nowhere w w1 → Calls Tryd.prog 13 #[.agg (bs key), .int .u32 1, .agg (bs nonce), y] w1 (fun e w2 => ∃ v, e = .returned v ∧ RdB w2 v O ∧ Chg Nowhere w1 w2) from fun w1 hc => by
    have := rxor_any key nonce 1 hk hkb hn hnb y m w1 (hy.same hc) hmb (by omega) (by omega)
    rw [← hO] at this
    refine this.mono ?_
    rintro e w2 ⟨v, rfl, ⟨ho, -⟩, hC⟩
    exact ⟨v, rfl, rd_own ho, hC⟩)
  have HSh := Lib.hid (show ∀ w1, Chg Nowhere w w1 → Calls Tryd.prog 8 #[] w1 (Gives w1 (.bool true)) from fun w1 hc => shown07_any w1 (hg.chg hc))
  have hu1 := Tryd.underlying23
  have hu2 := Tryd.underlying25
  have hi1 : (Tryd.prog.info? 23).map (·.size) = some (bl key).length := by rw [bl_len, hk]; exact info32
  have hi2 : (Tryd.prog.info? 25).map (·.size) = some (bl nonce).length := by rw [bl_len, hn]; exact info12
  obtain ⟨-, A2, c2, rfl, hnc2, -⟩ := hy
  rw [← hnn] at HSeal1 HSeal2 HXor
  rw [← hnn]
  have HK := Lib.hid hk
  have HN := Lib.hid hn
  have hnl : n ≤ 30000000 := by omega
  clear hO hnn hkb hnb hb hb2 hmb hl hl2 hm hg hk hn hOl h hx hnc2
  have HB0 := Lib.hid (alloc_new w (.cells (boxV key nonce vb) 28))
  have HC0 := Lib.hid ((Chg.refl Nowhere w).alloc (.cells (boxV key nonce vb) 28))
  go_enter Tryd.func7, Tryd.ntmps7
  go_wp2_with (first
    | (go_at_call 8; refine (HSh.out _ HC0.out).mono ?_; rintro e w1 ⟨rfl, hC1⟩; have HB1 := Lib.hid (hC1.same HB0.out); have HC1 := Lib.hid (HC0.out.then_none hC1); have cb1 := box_beside HB1.out HK.out HN.out; clear hC1)
    | (refine wpList_load_mid rfl 23 (Operand.tmp 12) rfl w.heap.size 0 rfl (bl key) _ (box_key HB1.out) hu1 rfl hi1 ?_)
    | (refine wpList_load_mid rfl 25 (Operand.tmp 14) rfl w.heap.size 32 rfl (bl nonce) _ (box_nonce HB1.out HK.out) hu2 rfl hi2 ?_)
    | (go_at_call 9; refine (HSeal1.out _ HC1.out).mono ?_; clear HSeal1; rintro e w2 ⟨g2, S2, rfl, hh2, hl2, ht2, hC2⟩; have HB2 := Lib.hid (hC2.same HB1.out); have HC2 := Lib.hid (HC1.out.then_none hC2); have HS2 := Lib.hid hh2; have HL2 := Lib.hid hl2; have HT2 := Lib.hid ht2; clear hC2 hh2 hl2 ht2)
    | (refine wpList_load_mid rfl 23 (Operand.tmp 20) rfl w.heap.size 0 rfl (bl key) _ (box_key HB2.out) hu1 rfl hi1 ?_)
    | (refine wpList_load_mid rfl 25 (Operand.tmp 22) rfl w.heap.size 32 rfl (bl nonce) _ (box_nonce HB2.out HK.out) hu2 rfl hi2 ?_)
    | (go_at_call 9; refine (HSeal2.out _ HC2.out).mono ?_; rintro e w3 ⟨g3, S3, rfl, hh3, hl3, ht3, hC3⟩; have HB3 := Lib.hid (hC3.same HB2.out); have HC3 := Lib.hid (HC2.out.then_none hC3); have HS3 := Lib.hid hh3; have HS23 := Lib.hid (hC3.same HS2.out); have HL3 := Lib.hid hl3; have HT3 := Lib.hid ht3; clear hC3 hh3 hl3 ht3))
  obtain ⟨SO, hSO⟩ : ∃ s, s = sb O := ⟨_, rfl⟩
  have HCV := Lib.hid (show ∀ w' g S, Chg Nowhere w3 w' → w3.heap[g]? = some (.cells (bs S) 5 (0, 0)) → S.length = n + 16 → S.take n = O → (convert 26 9 (cutB (some ⟨g, 0, none⟩) 0 n (n + 16))).run Tryd.prog w' = .ok (.string SO) w' from fun w' g S hc hh hl ht => by
    have := (rd_blk (hc.same hh) hl).cut (lo := 0) (hi := n) (m := n + 16) (Nat.zero_le _) (by omega) (by omega) (Nat.le_refl _)
    rw [List.drop_zero, Nat.sub_zero, ht] at this
    rw [hSO]; exact conv_rd this)
  have HSO := Lib.hid hSO
  clear hSO
  refine wp_region_calmG 26 [41, 42, 43, 44, 45, 46, 47, 48, 49, 50, 51, 52, 53, 54, 55, 56, 57, 58, 59, 60, 61, 62, 63, 64, 65, 66] [] [⟨[41], fun v _ => v = [.bool true]⟩, ⟨[42], fun v _ => v = [.bool true]⟩, ⟨[43], fun v _ => v = [.slice (some ⟨g2, 0, none⟩) (n + 16) (n + 16)]⟩, ⟨[44], fun v _ => v = [.int .i64 (n : Int)]⟩, ⟨[45], fun v _ => v = [cutB (some ⟨g2, 0, none⟩) 0 n (n + 16)]⟩, ⟨[46], fun v _ => v = [.string SO]⟩, ⟨[47], fun v _ => v = [.slice (some ⟨g3, 0, none⟩) (n + 16) (n + 16)]⟩, ⟨[48], fun v _ => v = [.int .i64 (n : Int)]⟩, ⟨[49], fun v _ => v = [cutB (some ⟨g3, 0, none⟩) 0 n (n + 16)]⟩, ⟨[50], fun v _ => v = [.string SO]⟩, ⟨[51], fun v _ => v = [.bool true]⟩, ⟨[52], fun v _ => v = [.bool true]⟩, ⟨[53], fun v _ => v = [.bool true]⟩, ⟨[54], fun v _ => v = [.slice (some ⟨g2, 0, none⟩) (n + 16) (n + 16)]⟩, ⟨[55], fun v _ => v = [.int .i64 (n : Int)]⟩, ⟨[56], fun v _ => v = [cutB (some ⟨g2, 0, none⟩) 0 n (n + 16)]⟩, ⟨[57], fun v _ => v = [.string SO]⟩, ⟨[58], fun v _ => v = [.pointer (some ⟨w.heap.size, 0, none⟩)]⟩, ⟨[59], fun v _ => v = [.agg (bs key)]⟩, ⟨[60], fun v _ => v = [.pointer (some ⟨w.heap.size, 32, none⟩)]⟩, ⟨[61], fun v _ => v = [.agg (bs nonce)]⟩, ⟨[62], fun v _ => v = [.slice A2 n c2]⟩, ⟨[63], fun v w2 => ∃ u, v = [u] ∧ RdB w2 u O⟩, ⟨[64], fun v _ => v = [.string SO]⟩, ⟨[65], fun v _ => v = [.bool true]⟩, ⟨[66], fun v _ => v = [.bool true]⟩] (Chg Nowhere) (by kernel_rfl) (by kernel_rfl) (Chg.refl _) Chg.trans' Chg.size (by decide) (Chg.refl Nowhere _).drew ?_ ?_ ?_
  · exact ⟨fun _ _ _ _ h => h, fun _ _ _ _ h => h, fun _ _ _ _ h => h, fun _ _ _ _ h => h, fun _ _ _ _ h => h, fun _ _ _ _ h => h, fun _ _ _ _ h => h, fun _ _ _ _ h => h, fun _ _ _ _ h => h, fun _ _ _ _ h => h, fun _ _ _ _ h => h, fun _ _ _ _ h => h, fun _ _ _ _ h => h, fun _ _ _ _ h => h, fun _ _ _ _ h => h, fun _ _ _ _ h => h, fun _ _ _ _ h => h, fun _ _ _ _ h => h, fun _ _ _ _ h => h, fun _ _ _ _ h => h, fun _ _ _ _ h => h, fun _ _ _ _ h => h, fun _ _ _ hR ⟨u, h1, h2⟩ => ⟨u, h1, h2.same hR⟩, fun _ _ _ _ h => h, fun _ _ _ _ h => h, fun _ _ _ _ h => h, trivial⟩
  · simp only [List.take_succ_cons, List.take_zero]
    refine StepsG.cons (fun _ _ _ _ => want_none rfl) ?_ (StepsG.cons (fun _ _ _ _ => want_none rfl) ?_ (StepsG.cons (fun f w' hR hd => want_some (j := 1) (d := 42) rfl rfl rfl rfl (List.head_eq_of_cons_eq (hd 1 (by kernel_rfl)))) ?_ (StepsG.cons (fun f w' hR hd => want_some (j := 1) (d := 42) rfl rfl rfl rfl (List.head_eq_of_cons_eq (hd 1 (by kernel_rfl)))) ?_ (StepsG.cons (fun f w' hR hd => want_some (j := 1) (d := 42) rfl rfl rfl rfl (List.head_eq_of_cons_eq (hd 1 (by kernel_rfl)))) ?_ (StepsG.cons (fun f w' hR hd => want_some (j := 1) (d := 42) rfl rfl rfl rfl (List.head_eq_of_cons_eq (hd 1 (by kernel_rfl)))) ?_ (StepsG.cons (fun f w' hR hd => want_some (j := 1) (d := 42) rfl rfl rfl rfl (List.head_eq_of_cons_eq (hd 1 (by kernel_rfl)))) ?_ (StepsG.cons (fun f w' hR hd => want_some (j := 1) (d := 42) rfl rfl rfl rfl (List.head_eq_of_cons_eq (hd 1 (by kernel_rfl)))) ?_ (StepsG.cons (fun f w' hR hd => want_some (j := 1) (d := 42) rfl rfl rfl rfl (List.head_eq_of_cons_eq (hd 1 (by kernel_rfl)))) ?_ (StepsG.cons (fun f w' hR hd => want_some (j := 1) (d := 42) rfl rfl rfl rfl (List.head_eq_of_cons_eq (hd 1 (by kernel_rfl)))) ?_ (StepsG.cons (fun f w' hR hd => want_some (j := 1) (d := 42) rfl rfl rfl rfl (List.head_eq_of_cons_eq (hd 1 (by kernel_rfl)))) ?_ (StepsG.cons (fun _ _ _ _ => want_none rfl) ?_ (StepsG.cons (fun _ _ _ _ => want_none rfl) ?_ (StepsG.cons (fun f w' hR hd => want_some (j := 12) (d := 53) rfl rfl rfl rfl (List.head_eq_of_cons_eq (hd 12 (by kernel_rfl)))) ?_ (StepsG.cons (fun f w' hR hd => want_some (j := 12) (d := 53) rfl rfl rfl rfl (List.head_eq_of_cons_eq (hd 12 (by kernel_rfl)))) ?_ (StepsG.cons (fun f w' hR hd => want_some (j := 12) (d := 53) rfl rfl rfl rfl (List.head_eq_of_cons_eq (hd 12 (by kernel_rfl)))) ?_ (StepsG.cons (fun f w' hR hd => want_some (j := 12) (d := 53) rfl rfl rfl rfl (List.head_eq_of_cons_eq (hd 12 (by kernel_rfl)))) ?_ (StepsG.cons (fun f w' hR hd => want_some (j := 12) (d := 53) rfl rfl rfl rfl (List.head_eq_of_cons_eq (hd 12 (by kernel_rfl)))) ?_ (StepsG.cons (fun f w' hR hd => want_some (j := 12) (d := 53) rfl rfl rfl rfl (List.head_eq_of_cons_eq (hd 12 (by kernel_rfl)))) ?_ (StepsG.cons (fun f w' hR hd => want_some (j := 12) (d := 53) rfl rfl rfl rfl (List.head_eq_of_cons_eq (hd 12 (by kernel_rfl)))) ?_ (StepsG.cons (fun f w' hR hd => want_some (j := 12) (d := 53) rfl rfl rfl rfl (List.head_eq_of_cons_eq (hd 12 (by kernel_rfl)))) ?_ (StepsG.cons (fun f w' hR hd => want_some (j := 12) (d := 53) rfl rfl rfl rfl (List.head_eq_of_cons_eq (hd 12 (by kernel_rfl)))) ?_ (StepsG.cons (fun f w' hR hd => want_some (j := 12) (d := 53) rfl rfl rfl rfl (List.head_eq_of_cons_eq (hd 12 (by kernel_rfl)))) ?_ (StepsG.cons (fun f w' hR hd => want_some (j := 12) (d := 53) rfl rfl rfl rfl (List.head_eq_of_cons_eq (hd 12 (by kernel_rfl)))) ?_ (StepsG.cons (fun f w' hR hd => want_some (j := 12) (d := 53) rfl rfl rfl rfl (List.head_eq_of_cons_eq (hd 12 (by kernel_rfl)))) ?_ (StepsG.cons (fun _ _ _ _ => want_none rfl) ?_ StepsG.nil)))))))))))))))))))))))))
    · intro f w' hR hd K Q' hK
      exact wp_move rfl rfl (hK _ _ (Chg.refl _ _) rfl (fun d h1 h2 => by simp at h2))
    · intro f w' hR hd K Q' hK
      exact wp_move rfl (List.head_eq_of_cons_eq (hd 0 (by kernel_rfl))) (hK _ _ (Chg.refl _ _) rfl (fun d h1 h2 => by simp at h2))
    · intro f w' hR hd K Q' hK
      exact wp_move rfl rfl (hK _ _ (Chg.refl _ _) rfl (fun d h1 h2 => by simp at h2))
    · intro f w' hR hd K Q' hK
      exact wp_move rfl rfl (hK _ _ (Chg.refl _ _) rfl (fun d h1 h2 => by simp at h2))
    · intro f w' hR hd K Q' hK
      exact wp_slice_of rfl (List.head_eq_of_cons_eq (hd 2 (by kernel_rfl))) rfl (congrArg some (List.head_eq_of_cons_eq (hd 3 (by kernel_rfl)))) rfl (cut_h w' (some ⟨g2, 0, none⟩) (n + 16) (n + 16) n (by omega)) (hK _ _ (Chg.refl _ _) rfl (fun d h1 h2 => by simp at h2))
    · intro f w' hR hd K Q' hK
      exact wp_conv rfl (List.head_eq_of_cons_eq (hd 4 (by kernel_rfl))) (HCV.out w' g2 S2 hR HS23.out HL2.out HT2.out) (hK _ _ (Chg.refl _ _) rfl (fun d h1 h2 => by simp at h2))
    · intro f w' hR hd K Q' hK
      exact wp_move rfl rfl (hK _ _ (Chg.refl _ _) rfl (fun d h1 h2 => by simp at h2))
    · intro f w' hR hd K Q' hK
      exact wp_move rfl rfl (hK _ _ (Chg.refl _ _) rfl (fun d h1 h2 => by simp at h2))
    · intro f w' hR hd K Q' hK
      exact wp_slice_of rfl (List.head_eq_of_cons_eq (hd 6 (by kernel_rfl))) rfl (congrArg some (List.head_eq_of_cons_eq (hd 7 (by kernel_rfl)))) rfl (cut_h w' (some ⟨g3, 0, none⟩) (n + 16) (n + 16) n (by omega)) (hK _ _ (Chg.refl _ _) rfl (fun d h1 h2 => by simp at h2))
    · intro f w' hR hd K Q' hK
      exact wp_conv rfl (List.head_eq_of_cons_eq (hd 8 (by kernel_rfl))) (HCV.out w' g3 S3 hR HS3.out HL3.out HT3.out) (hK _ _ (Chg.refl _ _) rfl (fun d h1 h2 => by simp at h2))
    · intro f w' hR hd K Q' hK
      exact wp_bin rfl (List.head_eq_of_cons_eq (hd 5 (by kernel_rfl))) (List.head_eq_of_cons_eq (hd 9 (by kernel_rfl))) (eqg_str _ _ _ _ _) (eq_str _ _) (hK _ _ (Chg.refl _ _) rfl (fun d h1 h2 => by simp at h2))
    · intro f w' hR hd K Q' hK
      exact wp_pick (b := true) rfl (List.head_eq_of_cons_eq (hd 1 (by kernel_rfl))) (List.head_eq_of_cons_eq (hd 10 (by kernel_rfl))) (hK _ _ (Chg.refl _ _) rfl (fun d h1 h2 => by simp at h2))
    · intro f w' hR hd K Q' hK
      exact wp_move rfl (List.head_eq_of_cons_eq (hd 11 (by kernel_rfl))) (hK _ _ (Chg.refl _ _) rfl (fun d h1 h2 => by simp at h2))
    · intro f w' hR hd K Q' hK
      exact wp_move rfl rfl (hK _ _ (Chg.refl _ _) rfl (fun d h1 h2 => by simp at h2))
    · intro f w' hR hd K Q' hK
      exact wp_move rfl rfl (hK _ _ (Chg.refl _ _) rfl (fun d h1 h2 => by simp at h2))
    · intro f w' hR hd K Q' hK
      exact wp_slice_of rfl (List.head_eq_of_cons_eq (hd 13 (by kernel_rfl))) rfl (congrArg some (List.head_eq_of_cons_eq (hd 14 (by kernel_rfl)))) rfl (cut_h w' (some ⟨g2, 0, none⟩) (n + 16) (n + 16) n (by omega)) (hK _ _ (Chg.refl _ _) rfl (fun d h1 h2 => by simp at h2))
    · intro f w' hR hd K Q' hK
      exact wp_conv rfl (List.head_eq_of_cons_eq (hd 15 (by kernel_rfl))) (HCV.out w' g2 S2 hR HS23.out HL2.out HT2.out) (hK _ _ (Chg.refl _ _) rfl (fun d h1 h2 => by simp at h2))
    · intro f w' hR hd K Q' hK
      exact wp_field_at rfl rfl (fa_key w.heap.size _) (hK _ _ (Chg.refl _ _) rfl (fun d h1 h2 => by simp at h2))
    · intro f w' hR hd K Q' hK
      exact wp_load_mid 23 (Operand.tmp 58) rfl w.heap.size 0 (List.head_eq_of_cons_eq (hd 17 (by kernel_rfl))) (bl key) _ (rangeAt_chg (box_key HB3.out) hR) hu1 rfl hi1 (hK _ _ (Chg.refl _ _) rfl (fun d h1 h2 => by simp at h2))
    · intro f w' hR hd K Q' hK
      exact wp_field_at rfl rfl (fa_nonce w.heap.size _) (hK _ _ (Chg.refl _ _) rfl (fun d h1 h2 => by simp at h2))
    · intro f w' hR hd K Q' hK
      exact wp_load_mid 25 (Operand.tmp 60) rfl w.heap.size 32 (List.head_eq_of_cons_eq (hd 19 (by kernel_rfl))) (bl nonce) _ (rangeAt_chg (box_nonce HB3.out HK.out) hR) hu2 rfl hi2 (hK _ _ (Chg.refl _ _) rfl (fun d h1 h2 => by simp at h2))
    · intro f w' hR hd K Q' hK
      exact wp_move rfl rfl (hK _ _ (Chg.refl _ _) rfl (fun d h1 h2 => by simp at h2))
    · intro f w' hR hd K Q' hK
      exact wp_call_fn rfl enters_rxor [.agg (bs key), .int .u32 1, .agg (bs nonce), .slice A2 n c2] (one_const (hd 18 (by kernel_rfl)) (hd 20 (by kernel_rfl)) (hd 21 (by kernel_rfl))) ((HXor.out w' (HC3.out.then_none hR)).mono fun e w4 ⟨u, he, hr, hC4⟩ => ⟨_, he, hK _ _ hC4 ⟨u, rfl, hr⟩ (fun d h1 h2 => by simp at h2)⟩)
    · intro f w' hR hd K Q' hK
      obtain ⟨u, hu, hr⟩ := hd 22 (by kernel_rfl)
      exact wp_conv rfl (List.head_eq_of_cons_eq hu) (by rw [HSO.out]; exact conv_rd hr) (hK _ _ (Chg.refl _ _) rfl (fun d h1 h2 => by simp at h2))
    · intro f w' hR hd K Q' hK
      exact wp_bin rfl (List.head_eq_of_cons_eq (hd 16 (by kernel_rfl))) (List.head_eq_of_cons_eq (hd 23 (by kernel_rfl))) (eqg_str _ _ _ _ _) (eq_str _ _) (hK _ _ (Chg.refl _ _) rfl (fun d h1 h2 => by simp at h2))
    · intro f w' hR hd K Q' hK
      exact wp_pick (b := true) rfl (List.head_eq_of_cons_eq (hd 12 (by kernel_rfl))) (List.head_eq_of_cons_eq (hd 24 (by kernel_rfl))) (hK _ _ (Chg.refl _ _) rfl (fun d h1 h2 => by simp at h2))
  · intro f w' hR hV hap
    have e66 : f 66 = .bool true := List.head_eq_of_cons_eq (hV 25 (by decide))
    have HC4 := Lib.hid (HC3.out.then_none hR)
    clear hR hV hap
    set_option linter.unusedSimpArgs false in
    simp only [puts, putsL, List.contains_cons, List.contains_nil, Nat.reduceBEq, Bool.or_true, Bool.true_or, Bool.or_false, Bool.false_eq_true, if_true, if_false, Nat.reduceAdd, List.drop_succ_cons, List.drop_zero, e66]
    clear e66
    go_wp2_with fail
    go_ret
    exact ⟨rfl, HC4.out⟩
end Go.Proofs.YtebmbapaedlmiaaDoor
