/-
  AeadSeals: the law's walk.
  The laws of package aead: the package variables out of what the rows list.
  AeadOpens: the law's walk.
-/
import Derived.Test.YtebmbapaedlmiaaDoorSAeOpen
import Derived.Test.YtebmbapaedlmiaaDoorSCalm4

namespace Go.Proofs.YtebmbapaedlmiaaDoor
open Go.RowKit Ae
set_option linter.unusedVariables false

theorem enters_seal : Enters Tryd.prog 9 := enters_of Tryd.func9 (by kernel_rfl) rfl
theorem enters_rseal : Enters Tryd.prog 10 := enters_of Tryd.func10 (by kernel_rfl) rfl
theorem ld26 (b j : Nat) (A : Option Addr) (n c : Nat) (w : World) (h : w.cell? ⟨b, j, none⟩ = some (.slice A n c)) : (Instr.loadAt 26 (.pointer (some ⟨b, j, none⟩))).run Tryd.prog w = .ok (.slice A n c) w := by go_simp
set_option maxHeartbeats 4000000 in
set_option maxRecDepth 100000 in
theorem seals_walk (key nonce : List Nat) (hk : key.length = 32) (hkb : Byt key) (hn : nonce.length = 12) (hnb : Byt nonce) (vb x : Value) (l m : List Nat) (w : World) (h : RdB w vb l) (hx : RdB w x m) (hb : Byt l) (hmb : Byt m) (hl : l.length ≤ 30000000) (hm : m.length ≤ 30000000) (hg : Glob w) :
    Calls Tryd.prog 3 #[.agg (boxV key nonce vb), x] w (Gives w (.bool true)) := by
  obtain ⟨S, hS⟩ : ∃ S, S = sealL key nonce l m := ⟨_, rfl⟩
  have HSeal := Lib.hid (show ∀ w1 u v, Chg Nowhere w w1 → RdB w1 u l → RdB w1 v m → Calls Tryd.prog 9 #[.agg (bs key), .agg (bs nonce), u, v] w1 (fun e w2 => ∃ s, e = .returned s ∧ RdB w2 s S ∧ Chg Nowhere w1 w2) from fun w1 u v hc hu hv => by
    refine (seal_any key nonce hk hkb hn hnb u v l m w1 hu hv hb hmb (by omega) (by omega) (hg.chg hc)).mono ?_
    rintro e w2 ⟨_, rfl, ⟨g, -, rfl, hh⟩, hC⟩
    rw [hS]
    exact ⟨_, rfl, rd_blk hh rfl, hC⟩)
  have HRSeal := Lib.hid (show ∀ w1, Chg Nowhere w w1 → Calls Tryd.prog 10 #[.agg (bs key), .agg (bs nonce), vb, x] w1 (fun e w2 => ∃ s, e = .returned s ∧ RdB w2 s S ∧ Chg Nowhere w1 w2) from fun w1 hc => by
    refine (rseal_any key nonce hk hkb hn hnb vb x l m w1 (h.same hc) (hx.same hc) hb hmb (by omega) (by omega)).mono ?_
    rw [← hS]
    rintro e w2 ⟨v, rfl, ⟨ho, -⟩, hC⟩
    exact ⟨v, rfl, rd_own ho, hC⟩)
  have HSh := Lib.hid (show ∀ w1, Chg Nowhere w w1 → Calls Tryd.prog 8 #[] w1 (Gives w1 (.bool true)) from fun w1 hc => shown07_any w1 (hg.chg hc))
  have hu1 := Tryd.underlying23
  have hu2 := Tryd.underlying25
  have hi1 : (Tryd.prog.info? 23).map (·.size) = some (bl key).length := by rw [bl_len, hk]; exact info32
  have hi2 : (Tryd.prog.info? 25).map (·.size) = some (bl nonce).length := by rw [bl_len, hn]; exact info12
  have HX := Lib.hid hx
  have HH := Lib.hid h
  obtain ⟨-, A2, c2, rfl, hnc2, -⟩ := hx
  obtain ⟨-, A1, c1, rfl, hnc1, -⟩ := h
  obtain ⟨n, hnn⟩ : ∃ n, n = m.length := ⟨_, rfl⟩
  obtain ⟨a, ha⟩ : ∃ a, a = l.length := ⟨_, rfl⟩
  rw [← hnn] at HX HRSeal hnc2
  rw [← ha] at HH HRSeal hnc1
  rw [← hnn, ← ha]
  obtain ⟨SS, hSS⟩ : ∃ s, s = sb S := ⟨_, rfl⟩
  obtain ⟨SM, hSM⟩ : ∃ s, s = sb m := ⟨_, rfl⟩
  obtain ⟨SL, hSL⟩ : ∃ s, s = sb l := ⟨_, rfl⟩
  have HSS := Lib.hid hSS
  have HSM := Lib.hid hSM
  have HSL := Lib.hid hSL
  have HK := Lib.hid hk
  have HN := Lib.hid hn
  have HLL := Lib.hid hl
  have HML := Lib.hid hm
  clear hS hSS hSM hSL hnn ha hkb hnb hb hmb hl hm hg hk hn
  obtain ⟨x, hxv⟩ : ∃ v, v = Value.slice A2 n c2 := ⟨_, rfl⟩
  rw [← hxv] at HRSeal HX ⊢
  have HXV := Lib.hid hxv
  clear hxv hnc1 hnc2
  have HB0 := Lib.hid (alloc_new w (.cells (boxV key nonce (.slice A1 a c1)) 28))
  have HC0 := Lib.hid ((Chg.refl Nowhere w).alloc (.cells (boxV key nonce (.slice A1 a c1)) 28))
  go_enter Tryd.func3, Tryd.ntmps3
  go_upto_region 3 with (first
    | (go_at_call 8; refine (HSh.out _ HC0.out).mono ?_; rintro e w1 ⟨rfl, hC1⟩; have HB1 := Lib.hid (hC1.same HB0.out); have HC1 := Lib.hid (HC0.out.then_none hC1); clear hC1; obtain ⟨v6, w6, hr6, hW6⟩ := (BW.new w1).app ((HX.out.same HC1.out).same ((Chg.refl _ _).alloc _)) (by have := HML.out; simp; omega); rw [List.nil_append] at hW6; have HR6 := Lib.hid hr6; have HW6 := Lib.hid hW6; clear hr6 hW6)
    | (at_builtin; refine Lib.wpList_append_run _ rfl _ _ 26 26 rfl (.slice (some ⟨w1.heap.size, 0, none⟩) 0 0) x rfl rfl v6 w6 HR6.out ?_))
  have HB6 := Lib.hid (HW6.out.c.same HB1.out)
  have HC6 := Lib.hid (HC1.out.then_none HW6.out.c)
  obtain ⟨v7, w7, hr7, hW7⟩ := (BW.new w6).app ((HH.out.same HC6.out).same ((Chg.refl _ _).alloc _)) (by have := HLL.out; simp; omega)
  rw [List.nil_append] at hW7
  have HR7 := Lib.hid hr7
  have HW7 := Lib.hid hW7
  have HC7 := Lib.hid (HC6.out.then_none HW7.out.c)
  have HB7 := Lib.hid (HW7.out.c.same HB6.out)
  have HD6 := Lib.hid ((rd_own HW6.out.own).same HW7.out.c)
  have HD7 := Lib.hid (rd_own HW7.out.own)
  have cb6 := box_beside (((Chg.refl Nowhere w6).alloc (.cells #[] 5)).same HB6.out) HK.out HN.out
  clear hr7 hW7 HR6 HW6 HB1 HC1 HSh
  go_upto_region 4 with (at_builtin; refine Lib.wpList_append_run _ rfl _ _ 26 26 rfl (.slice (some ⟨w6.heap.size, 0, none⟩) 0 0) (.slice A1 a c1) rfl rfl v7 w7 HR7.out ?_)
  clear HR7 HW7 HB6 HC6 cb6
  have CB7 := Lib.hid (box_beside HB7.out HK.out HN.out)
  refine wp_region_calmG 36 [16, 17, 18, 19, 20, 21, 22, 23, 24, 25, 26, 27, 28, 29, 30, 31, 32, 33, 34, 35, 36, 37, 38, 39, 40, 41, 42, 43, 44, 45, 46, 47, 48, 49, 50, 51] [] [⟨[16], fun v _ => v = [.bool true]⟩, ⟨[17], fun v _ => v = [.bool true]⟩, ⟨[18], fun v _ => v = [.pointer (some ⟨w.heap.size, 0, none⟩)]⟩, ⟨[19], fun v _ => v = [.agg (bs key)]⟩, ⟨[20], fun v _ => v = [.pointer (some ⟨w.heap.size, 32, none⟩)]⟩, ⟨[21], fun v _ => v = [.agg (bs nonce)]⟩, ⟨[22], fun v _ => v = [v7]⟩, ⟨[23], fun v _ => v = [v6]⟩, ⟨[24], fun v w2 => ∃ u, v = [u] ∧ RdB w2 u S⟩, ⟨[25], fun v _ => v = [.string SS]⟩, ⟨[26], fun v _ => v = [.pointer (some ⟨w.heap.size, 0, none⟩)]⟩, ⟨[27], fun v _ => v = [.agg (bs key)]⟩, ⟨[28], fun v _ => v = [.pointer (some ⟨w.heap.size, 32, none⟩)]⟩, ⟨[29], fun v _ => v = [.agg (bs nonce)]⟩, ⟨[30], fun v _ => v = [.pointer (some ⟨w.heap.size, 44, none⟩)]⟩, ⟨[31], fun v _ => v = [.slice A1 a c1]⟩, ⟨[32], fun v _ => v = [x]⟩, ⟨[33], fun v w2 => ∃ u, v = [u] ∧ RdB w2 u S⟩, ⟨[34], fun v _ => v = [.string SS]⟩, ⟨[35], fun v _ => v = [.bool true]⟩, ⟨[36], fun v _ => v = [.bool true]⟩, ⟨[37], fun v _ => v = [.bool true]⟩, ⟨[38], fun v _ => v = [v6]⟩, ⟨[39], fun v _ => v = [.string SM]⟩, ⟨[40], fun v _ => v = [x]⟩, ⟨[41], fun v _ => v = [.string SM]⟩, ⟨[42], fun v _ => v = [.bool true]⟩, ⟨[43], fun v _ => v = [.bool true]⟩, ⟨[44], fun v _ => v = [.bool true]⟩, ⟨[45], fun v _ => v = [v7]⟩, ⟨[46], fun v _ => v = [.string SL]⟩, ⟨[47], fun v _ => v = [.pointer (some ⟨w.heap.size, 44, none⟩)]⟩, ⟨[48], fun v _ => v = [.slice A1 a c1]⟩, ⟨[49], fun v _ => v = [.string SL]⟩, ⟨[50], fun v _ => v = [.bool true]⟩, ⟨[51], fun v _ => v = [.bool true]⟩] (Chg Nowhere) (by kernel_rfl) (by kernel_rfl) (Chg.refl _) Chg.trans' Chg.size (by decide) (Chg.refl Nowhere _).drew ?_ ?_ ?_
  · exact ⟨fun _ _ _ _ h => h, fun _ _ _ _ h => h, fun _ _ _ _ h => h, fun _ _ _ _ h => h, fun _ _ _ _ h => h, fun _ _ _ _ h => h, fun _ _ _ _ h => h, fun _ _ _ _ h => h, fun _ _ _ hR ⟨u, h1, h2⟩ => ⟨u, h1, h2.same hR⟩, fun _ _ _ _ h => h, fun _ _ _ _ h => h, fun _ _ _ _ h => h, fun _ _ _ _ h => h, fun _ _ _ _ h => h, fun _ _ _ _ h => h, fun _ _ _ _ h => h, fun _ _ _ _ h => h, fun _ _ _ hR ⟨u, h1, h2⟩ => ⟨u, h1, h2.same hR⟩, fun _ _ _ _ h => h, fun _ _ _ _ h => h, fun _ _ _ _ h => h, fun _ _ _ _ h => h, fun _ _ _ _ h => h, fun _ _ _ _ h => h, fun _ _ _ _ h => h, fun _ _ _ _ h => h, fun _ _ _ _ h => h, fun _ _ _ _ h => h, fun _ _ _ _ h => h, fun _ _ _ _ h => h, fun _ _ _ _ h => h, fun _ _ _ _ h => h, fun _ _ _ _ h => h, fun _ _ _ _ h => h, fun _ _ _ _ h => h, fun _ _ _ _ h => h, trivial⟩
  · simp only [List.take_succ_cons, List.take_zero]
    refine StepsG.cons (fun _ _ _ _ => want_none rfl) ?_ (StepsG.cons (fun _ _ _ _ => want_none rfl) ?_ (StepsG.cons (fun f w' hR hd => want_some (j := 1) (d := 17) rfl rfl rfl rfl (List.head_eq_of_cons_eq (hd 1 (by kernel_rfl)))) ?_ (StepsG.cons (fun f w' hR hd => want_some (j := 1) (d := 17) rfl rfl rfl rfl (List.head_eq_of_cons_eq (hd 1 (by kernel_rfl)))) ?_ (StepsG.cons (fun f w' hR hd => want_some (j := 1) (d := 17) rfl rfl rfl rfl (List.head_eq_of_cons_eq (hd 1 (by kernel_rfl)))) ?_ (StepsG.cons (fun f w' hR hd => want_some (j := 1) (d := 17) rfl rfl rfl rfl (List.head_eq_of_cons_eq (hd 1 (by kernel_rfl)))) ?_ (StepsG.cons (fun f w' hR hd => want_some (j := 1) (d := 17) rfl rfl rfl rfl (List.head_eq_of_cons_eq (hd 1 (by kernel_rfl)))) ?_ (StepsG.cons (fun f w' hR hd => want_some (j := 1) (d := 17) rfl rfl rfl rfl (List.head_eq_of_cons_eq (hd 1 (by kernel_rfl)))) ?_ (StepsG.cons (fun f w' hR hd => want_some (j := 1) (d := 17) rfl rfl rfl rfl (List.head_eq_of_cons_eq (hd 1 (by kernel_rfl)))) ?_ (StepsG.cons (fun f w' hR hd => want_some (j := 1) (d := 17) rfl rfl rfl rfl (List.head_eq_of_cons_eq (hd 1 (by kernel_rfl)))) ?_ (StepsG.cons (fun f w' hR hd => want_some (j := 1) (d := 17) rfl rfl rfl rfl (List.head_eq_of_cons_eq (hd 1 (by kernel_rfl)))) ?_ (StepsG.cons (fun f w' hR hd => want_some (j := 1) (d := 17) rfl rfl rfl rfl (List.head_eq_of_cons_eq (hd 1 (by kernel_rfl)))) ?_ (StepsG.cons (fun f w' hR hd => want_some (j := 1) (d := 17) rfl rfl rfl rfl (List.head_eq_of_cons_eq (hd 1 (by kernel_rfl)))) ?_ (StepsG.cons (fun f w' hR hd => want_some (j := 1) (d := 17) rfl rfl rfl rfl (List.head_eq_of_cons_eq (hd 1 (by kernel_rfl)))) ?_ (StepsG.cons (fun f w' hR hd => want_some (j := 1) (d := 17) rfl rfl rfl rfl (List.head_eq_of_cons_eq (hd 1 (by kernel_rfl)))) ?_ (StepsG.cons (fun f w' hR hd => want_some (j := 1) (d := 17) rfl rfl rfl rfl (List.head_eq_of_cons_eq (hd 1 (by kernel_rfl)))) ?_ (StepsG.cons (fun f w' hR hd => want_some (j := 1) (d := 17) rfl rfl rfl rfl (List.head_eq_of_cons_eq (hd 1 (by kernel_rfl)))) ?_ (StepsG.cons (fun f w' hR hd => want_some (j := 1) (d := 17) rfl rfl rfl rfl (List.head_eq_of_cons_eq (hd 1 (by kernel_rfl)))) ?_ (StepsG.cons (fun f w' hR hd => want_some (j := 1) (d := 17) rfl rfl rfl rfl (List.head_eq_of_cons_eq (hd 1 (by kernel_rfl)))) ?_ (StepsG.cons (fun f w' hR hd => want_some (j := 1) (d := 17) rfl rfl rfl rfl (List.head_eq_of_cons_eq (hd 1 (by kernel_rfl)))) ?_ (StepsG.cons (fun _ _ _ _ => want_none rfl) ?_ (StepsG.cons (fun _ _ _ _ => want_none rfl) ?_ (StepsG.cons (fun f w' hR hd => want_some (j := 21) (d := 37) rfl rfl rfl rfl (List.head_eq_of_cons_eq (hd 21 (by kernel_rfl)))) ?_ (StepsG.cons (fun f w' hR hd => want_some (j := 21) (d := 37) rfl rfl rfl rfl (List.head_eq_of_cons_eq (hd 21 (by kernel_rfl)))) ?_ (StepsG.cons (fun f w' hR hd => want_some (j := 21) (d := 37) rfl rfl rfl rfl (List.head_eq_of_cons_eq (hd 21 (by kernel_rfl)))) ?_ (StepsG.cons (fun f w' hR hd => want_some (j := 21) (d := 37) rfl rfl rfl rfl (List.head_eq_of_cons_eq (hd 21 (by kernel_rfl)))) ?_ (StepsG.cons (fun f w' hR hd => want_some (j := 21) (d := 37) rfl rfl rfl rfl (List.head_eq_of_cons_eq (hd 21 (by kernel_rfl)))) ?_ (StepsG.cons (fun _ _ _ _ => want_none rfl) ?_ (StepsG.cons (fun _ _ _ _ => want_none rfl) ?_ (StepsG.cons (fun f w' hR hd => want_some (j := 28) (d := 44) rfl rfl rfl rfl (List.head_eq_of_cons_eq (hd 28 (by kernel_rfl)))) ?_ (StepsG.cons (fun f w' hR hd => want_some (j := 28) (d := 44) rfl rfl rfl rfl (List.head_eq_of_cons_eq (hd 28 (by kernel_rfl)))) ?_ (StepsG.cons (fun f w' hR hd => want_some (j := 28) (d := 44) rfl rfl rfl rfl (List.head_eq_of_cons_eq (hd 28 (by kernel_rfl)))) ?_ (StepsG.cons (fun f w' hR hd => want_some (j := 28) (d := 44) rfl rfl rfl rfl (List.head_eq_of_cons_eq (hd 28 (by kernel_rfl)))) ?_ (StepsG.cons (fun f w' hR hd => want_some (j := 28) (d := 44) rfl rfl rfl rfl (List.head_eq_of_cons_eq (hd 28 (by kernel_rfl)))) ?_ (StepsG.cons (fun f w' hR hd => want_some (j := 28) (d := 44) rfl rfl rfl rfl (List.head_eq_of_cons_eq (hd 28 (by kernel_rfl)))) ?_ (StepsG.cons (fun _ _ _ _ => want_none rfl) ?_ StepsG.nil)))))))))))))))))))))))))))))))))))
    · intro f w' hR hd K Q' hK
      exact wp_move rfl rfl (hK _ _ (Chg.refl _ _) rfl (fun d h1 h2 => by simp at h2))
    · intro f w' hR hd K Q' hK
      exact wp_move rfl (List.head_eq_of_cons_eq (hd 0 (by kernel_rfl))) (hK _ _ (Chg.refl _ _) rfl (fun d h1 h2 => by simp at h2))
    · intro f w' hR hd K Q' hK
      exact wp_field_at rfl rfl (fa_key w.heap.size _) (hK _ _ (Chg.refl _ _) rfl (fun d h1 h2 => by simp at h2))
    · intro f w' hR hd K Q' hK
      exact wp_load_mid 23 (Operand.tmp 18) rfl w.heap.size 0 (List.head_eq_of_cons_eq (hd 2 (by kernel_rfl))) (bl key) _ (rangeAt_chg (box_key HB7.out) hR) hu1 rfl hi1 (hK _ _ (Chg.refl _ _) rfl (fun d h1 h2 => by simp at h2))
    · intro f w' hR hd K Q' hK
      exact wp_field_at rfl rfl (fa_nonce w.heap.size _) (hK _ _ (Chg.refl _ _) rfl (fun d h1 h2 => by simp at h2))
    · intro f w' hR hd K Q' hK
      exact wp_load_mid 25 (Operand.tmp 20) rfl w.heap.size 32 (List.head_eq_of_cons_eq (hd 4 (by kernel_rfl))) (bl nonce) _ (rangeAt_chg (box_nonce HB7.out HK.out) hR) hu2 rfl hi2 (hK _ _ (Chg.refl _ _) rfl (fun d h1 h2 => by simp at h2))
    · intro f w' hR hd K Q' hK
      exact wp_move rfl rfl (hK _ _ (Chg.refl _ _) rfl (fun d h1 h2 => by simp at h2))
    · intro f w' hR hd K Q' hK
      exact wp_move rfl rfl (hK _ _ (Chg.refl _ _) rfl (fun d h1 h2 => by simp at h2))
    · intro f w' hR hd K Q' hK
      exact wp_call_fn rfl enters_seal [.agg (bs key), .agg (bs nonce), v7, v6] (four_slots (hd 3 (by kernel_rfl)) (hd 5 (by kernel_rfl)) (hd 6 (by kernel_rfl)) (hd 7 (by kernel_rfl))) ((HSeal.out w' v7 v6 (HC7.out.then_none hR) (HD7.out.same hR) (HD6.out.same hR)).mono fun e w4 ⟨u, he, hr, hC4⟩ => ⟨_, he, hK _ _ hC4 ⟨u, rfl, hr⟩ (fun d h1 h2 => by simp at h2)⟩)
    · intro f w' hR hd K Q' hK
      obtain ⟨u, hu, hr⟩ := hd 8 (by kernel_rfl)
      exact wp_conv rfl (List.head_eq_of_cons_eq hu) (by rw [HSS.out]; exact conv_rd hr) (hK _ _ (Chg.refl _ _) rfl (fun d h1 h2 => by simp at h2))
    · intro f w' hR hd K Q' hK
      exact wp_field_at rfl rfl (fa_key w.heap.size _) (hK _ _ (Chg.refl _ _) rfl (fun d h1 h2 => by simp at h2))
    · intro f w' hR hd K Q' hK
      exact wp_load_mid 23 (Operand.tmp 26) rfl w.heap.size 0 (List.head_eq_of_cons_eq (hd 10 (by kernel_rfl))) (bl key) _ (rangeAt_chg (box_key HB7.out) hR) hu1 rfl hi1 (hK _ _ (Chg.refl _ _) rfl (fun d h1 h2 => by simp at h2))
    · intro f w' hR hd K Q' hK
      exact wp_field_at rfl rfl (fa_nonce w.heap.size _) (hK _ _ (Chg.refl _ _) rfl (fun d h1 h2 => by simp at h2))
    · intro f w' hR hd K Q' hK
      exact wp_load_mid 25 (Operand.tmp 28) rfl w.heap.size 32 (List.head_eq_of_cons_eq (hd 12 (by kernel_rfl))) (bl nonce) _ (rangeAt_chg (box_nonce HB7.out HK.out) hR) hu2 rfl hi2 (hK _ _ (Chg.refl _ _) rfl (fun d h1 h2 => by simp at h2))
    · intro f w' hR hd K Q' hK
      exact wp_field_at rfl rfl (fa_beside w.heap.size _) (hK _ _ (Chg.refl _ _) rfl (fun d h1 h2 => by simp at h2))
    · intro f w' hR hd K Q' hK
      exact wp_load_one rfl (List.head_eq_of_cons_eq (hd 14 (by kernel_rfl))) (ld26 _ _ _ _ _ _ (box_beside (hR.same HB7.out) HK.out HN.out)) (hK _ _ (Chg.refl _ _) rfl (fun d h1 h2 => by simp at h2))
    · intro f w' hR hd K Q' hK
      exact wp_move rfl rfl (hK _ _ (Chg.refl _ _) rfl (fun d h1 h2 => by simp at h2))
    · intro f w' hR hd K Q' hK
      exact wp_call_fn rfl enters_rseal [.agg (bs key), .agg (bs nonce), .slice A1 a c1, x] (four_slots (hd 11 (by kernel_rfl)) (hd 13 (by kernel_rfl)) (hd 15 (by kernel_rfl)) (hd 16 (by kernel_rfl))) ((HRSeal.out w' (HC7.out.then_none hR)).mono fun e w4 ⟨u, he, hr, hC4⟩ => ⟨_, he, hK _ _ hC4 ⟨u, rfl, hr⟩ (fun d h1 h2 => by simp at h2)⟩)
    · intro f w' hR hd K Q' hK
      obtain ⟨u, hu, hr⟩ := hd 17 (by kernel_rfl)
      exact wp_conv rfl (List.head_eq_of_cons_eq hu) (by rw [HSS.out]; exact conv_rd hr) (hK _ _ (Chg.refl _ _) rfl (fun d h1 h2 => by simp at h2))
    · intro f w' hR hd K Q' hK
      exact wp_bin rfl (List.head_eq_of_cons_eq (hd 9 (by kernel_rfl))) (List.head_eq_of_cons_eq (hd 18 (by kernel_rfl))) (eqg_str _ _ _ _ _) (eq_str _ _) (hK _ _ (Chg.refl _ _) rfl (fun d h1 h2 => by simp at h2))
    · intro f w' hR hd K Q' hK
      exact wp_pick (b := true) rfl (List.head_eq_of_cons_eq (hd 1 (by kernel_rfl))) (List.head_eq_of_cons_eq (hd 19 (by kernel_rfl))) (hK _ _ (Chg.refl _ _) rfl (fun d h1 h2 => by simp at h2))
    · intro f w' hR hd K Q' hK
      exact wp_move rfl (List.head_eq_of_cons_eq (hd 20 (by kernel_rfl))) (hK _ _ (Chg.refl _ _) rfl (fun d h1 h2 => by simp at h2))
    · intro f w' hR hd K Q' hK
      exact wp_move rfl rfl (hK _ _ (Chg.refl _ _) rfl (fun d h1 h2 => by simp at h2))
    · intro f w' hR hd K Q' hK
      exact wp_conv rfl (List.head_eq_of_cons_eq (hd 22 (by kernel_rfl))) (by rw [HSM.out]; exact conv_rd (HD6.out.same hR)) (hK _ _ (Chg.refl _ _) rfl (fun d h1 h2 => by simp at h2))
    · intro f w' hR hd K Q' hK
      exact wp_move rfl rfl (hK _ _ (Chg.refl _ _) rfl (fun d h1 h2 => by simp at h2))
    · intro f w' hR hd K Q' hK
      exact wp_conv rfl (List.head_eq_of_cons_eq (hd 24 (by kernel_rfl))) (by rw [HSM.out]; exact conv_rd ((HX.out.same HC7.out).same hR)) (hK _ _ (Chg.refl _ _) rfl (fun d h1 h2 => by simp at h2))
    · intro f w' hR hd K Q' hK
      exact wp_bin rfl (List.head_eq_of_cons_eq (hd 23 (by kernel_rfl))) (List.head_eq_of_cons_eq (hd 25 (by kernel_rfl))) (eqg_str _ _ _ _ _) (eq_str _ _) (hK _ _ (Chg.refl _ _) rfl (fun d h1 h2 => by simp at h2))
    · intro f w' hR hd K Q' hK
      exact wp_pick (b := true) rfl (List.head_eq_of_cons_eq (hd 21 (by kernel_rfl))) (List.head_eq_of_cons_eq (hd 26 (by kernel_rfl))) (hK _ _ (Chg.refl _ _) rfl (fun d h1 h2 => by simp at h2))
    · intro f w' hR hd K Q' hK
      exact wp_move rfl (List.head_eq_of_cons_eq (hd 27 (by kernel_rfl))) (hK _ _ (Chg.refl _ _) rfl (fun d h1 h2 => by simp at h2))
    · intro f w' hR hd K Q' hK
      exact wp_move rfl rfl (hK _ _ (Chg.refl _ _) rfl (fun d h1 h2 => by simp at h2))
    · intro f w' hR hd K Q' hK
      exact wp_conv rfl (List.head_eq_of_cons_eq (hd 29 (by kernel_rfl))) (by rw [HSL.out]; exact conv_rd (HD7.out.same hR)) (hK _ _ (Chg.refl _ _) rfl (fun d h1 h2 => by simp at h2))
    · intro f w' hR hd K Q' hK
      exact wp_field_at rfl rfl (fa_beside w.heap.size _) (hK _ _ (Chg.refl _ _) rfl (fun d h1 h2 => by simp at h2))
    · intro f w' hR hd K Q' hK
      exact wp_load_one rfl (List.head_eq_of_cons_eq (hd 31 (by kernel_rfl))) (ld26 _ _ _ _ _ _ (box_beside (hR.same HB7.out) HK.out HN.out)) (hK _ _ (Chg.refl _ _) rfl (fun d h1 h2 => by simp at h2))
    · intro f w' hR hd K Q' hK
      exact wp_conv rfl (List.head_eq_of_cons_eq (hd 32 (by kernel_rfl))) (by rw [HSL.out]; exact conv_rd ((HH.out.same HC7.out).same hR)) (hK _ _ (Chg.refl _ _) rfl (fun d h1 h2 => by simp at h2))
    · intro f w' hR hd K Q' hK
      exact wp_bin rfl (List.head_eq_of_cons_eq (hd 30 (by kernel_rfl))) (List.head_eq_of_cons_eq (hd 33 (by kernel_rfl))) (eqg_str _ _ _ _ _) (eq_str _ _) (hK _ _ (Chg.refl _ _) rfl (fun d h1 h2 => by simp at h2))
    · intro f w' hR hd K Q' hK
      exact wp_pick (b := true) rfl (List.head_eq_of_cons_eq (hd 28 (by kernel_rfl))) (List.head_eq_of_cons_eq (hd 34 (by kernel_rfl))) (hK _ _ (Chg.refl _ _) rfl (fun d h1 h2 => by simp at h2))
  · intro f w' hR hV hap
    have e51 : f 51 = .bool true := List.head_eq_of_cons_eq (hV 35 (by decide))
    have HC4 := Lib.hid (HC7.out.then_none hR)
    clear hR hV hap
    set_option linter.unusedSimpArgs false in
    simp only [puts, putsL, List.contains_cons, List.contains_nil, Nat.reduceBEq, Bool.or_true, Bool.true_or, Bool.or_false, Bool.false_eq_true, if_true, if_false, Nat.reduceAdd, List.drop_succ_cons, List.drop_zero, e51]
    clear e51
    go_wp2_with fail
    go_ret
    exact ⟨rfl, HC4.out⟩
end Go.Proofs.YtebmbapaedlmiaaDoor

namespace Go.Proofs.YtebmbapaedlmiaaDoor
open Go.RowKit Go.Deep Ae
set_option linter.unusedVariables false

def Laid3 : List (String × DataW Unit) := [("sheave/chacha.head", Rows.laid_sheave_chacha_head), ("sheave/chacha.round", Rows.laid_sheave_chacha_round), ("sheave/clamp.prime", Rows.laid_sheave_clamp_prime)]
theorem gHead : Tryd.prog.globalNamed "sheave/chacha.head" = some 0 := by kernel_rfl
theorem gRound : Tryd.prog.globalNamed "sheave/chacha.round" = some 1 := by kernel_rfl
theorem gPrime : Tryd.prog.globalNamed "sheave/clamp.prime" = some 2 := by kernel_rfl
theorem tHead : ∃ t, (Tryd.prog.globals[0]?).map (·.type) = some t ∧ (∃ e, Tryd.prog.underlying t = some (.array 4 e) ∧ Tryd.prog.underlying e = some (.int .u32) ∧ Tryd.prog.cellsOf e = 1) ∧ Tryd.prog.cellsOf t = 4 :=
  ⟨_, rfl, ⟨_, (by kernel_rfl : Tryd.prog.underlying _ = some (.array 4 39)), by kernel_rfl, by kernel_rfl⟩, by kernel_rfl⟩
theorem tPrime : ∃ t, (Tryd.prog.globals[2]?).map (·.type) = some t ∧ (∃ e, Tryd.prog.underlying t = some (.array 3 e) ∧ Tryd.prog.underlying e = some (.int .u64) ∧ Tryd.prog.cellsOf e = 1) ∧ Tryd.prog.cellsOf t = 3 :=
  ⟨_, rfl, ⟨_, (by kernel_rfl : Tryd.prog.underlying _ = some (.array 3 65)), by kernel_rfl, by kernel_rfl⟩, by kernel_rfl⟩
theorem tRound : ∃ t, (Tryd.prog.globals[1]?).map (·.type) = some t ∧ (∃ e, Tryd.prog.underlying t = some (.array 8 e) ∧ Tryd.prog.cellsOf e = 4 ∧ (∃ f, Tryd.prog.underlying e = some (.array 4 f) ∧ Tryd.prog.underlying f = some (.int .i64) ∧ Tryd.prog.cellsOf f = 1)) ∧ Tryd.prog.cellsOf t = 32 :=
  ⟨_, rfl, ⟨_, rfl, by kernel_rfl, ⟨_, rfl, by kernel_rfl, by kernel_rfl⟩⟩, by kernel_rfl⟩
theorem head_data : (Rows.laid_sheave_chacha_head : DataW Unit) = Lib.tabData .u32 (headW.map fun (n : Nat) => (n : Int)) := rfl
theorem prime_data : (Rows.laid_sheave_clamp_prime : DataW Unit) = Lib.tabData .u64 [18446744073709551611, 18446744073709551615, 3] := rfl
theorem round_data : (Rows.laid_sheave_chacha_round : DataW Unit) = .agg (roundP.map fun r => Lib.tabData .i64 (r.map fun (n : Nat) => (n : Int))) := rfl
theorem round_at : ∀ j, j < 32 → (roundP.flatten)[j]? = (roundP.getD (j / 4) [])[j % 4]? := by decide
theorem glob_laid {W : World} (h : laidMetH Tryd.prog Laid3 W) : Glob W := by
  have h' : laidMet Tryd.prog Laid3 W := h
  obtain ⟨ps, ⟨g0, t0, cs0, f0, p0, q0, hg0, ht0, hv0, hd0, hr0, -⟩, -⟩ := h'
  obtain ⟨g1, t1, cs1, f1, p1, q1, hg1, ht1, hv1, hd1, hr1, -⟩ := hr0
  obtain ⟨g2, t2, cs2, f2, p2, q2, hg2, ht2, hv2, hd2, -, -⟩ := hr1
  obtain rfl := Option.some.inj (gHead.symm.trans hg0)
  obtain rfl := Option.some.inj (gRound.symm.trans hg1)
  obtain rfl := Option.some.inj (gPrime.symm.trans hg2)
  obtain ⟨_, a1, ⟨e0, a2, a3, a4⟩, a5⟩ := tHead
  obtain rfl := Option.some.inj (a1.symm.trans ht0)
  obtain ⟨_, b1, ⟨e1, b2, b3, ⟨e3, b4, b5, b6⟩⟩, b7⟩ := tRound
  obtain rfl := Option.some.inj (b1.symm.trans ht1)
  obtain ⟨_, c1, ⟨e2, c2, c3, c4⟩, c5⟩ := tPrime
  obtain rfl := Option.some.inj (c1.symm.trans ht2)
  rw [head_data] at hd0
  rw [round_data] at hd1
  rw [prime_data] at hd2
  have k0 := Lib.cells_of_tab a2 a3 a4 a5 hd0
  have k2 := Lib.cells_of_tab c2 c3 c4 c5 hd2
  have v0 := fun i => World.var?_cell gHead hv0 i
  have v1 := fun i => World.var?_cell gRound hv1 i
  have v2 := fun i => World.var?_cell gPrime hv2 i
  have hs0 : 0 < W.heap.size := by
    obtain ⟨g, o, e, h⟩ := at_cell (w := W) (ad := ⟨0, 0, none⟩) (by rw [v0, ← Array.getElem?_toList, k0]; simp [headW])
    cases e; exact h
  have hs2 : 2 < W.heap.size := by
    obtain ⟨g, o, e, h⟩ := at_cell (w := W) (ad := ⟨2, 0, none⟩) (by rw [v2, ← Array.getElem?_toList, k2]; simp)
    cases e; exact h
  refine ⟨?_, ?_, ?_, ?_⟩
  · omega
  · intro j v hj
    rw [v0, ← Array.getElem?_toList, k0]
    simpa [ws, List.map_map] using hj
  · intro j v hj
    have hj32 : j < 32 := by
      have := (List.getElem?_eq_some_iff.1 hj).1
      simpa [roundP] using this
    obtain ⟨xs, m, _, hx, hl, hxl, hi⟩ := DataW.trod_array b2 hd1
    have hxe : xs.map (·.1) = roundP.map fun r => (Lib.tabData .i64 (r.map fun (n : Nat) => (n : Int)) : DataW Unit) := by
      have := congrArg Prod.fst hx
      simpa using this.symm
    have q := hi (j / 4) (by omega)
    rw [b3, List.getElem?_eq_getElem (by omega : j / 4 < xs.length)] at q
    have hrow : (xs[j / 4]'(by omega)).1 = Lib.tabData .i64 ((roundP.getD (j / 4) []).map fun (n : Nat) => (n : Int)) := by
      have e := congrArg (·[j / 4]?) hxe
      have h8 : j / 4 < roundP.length := by show j / 4 < 8; omega
      simp only [List.getElem?_map, List.getElem?_eq_getElem (by omega : j / 4 < xs.length), List.getElem?_eq_getElem h8, Option.map_some, Option.some.injEq] at e
      rw [e, List.getD_eq_getElem?_getD, List.getElem?_eq_getElem h8]
      rfl
    have q2 : DataW.trod (fun _ => ()) Tryd.prog W 0 (fun _ => true) false m e1 ((cs1.toList.drop (j / 4 * 4)).take 4) = some (Lib.tabData .i64 ((roundP.getD (j / 4) []).map fun (n : Nat) => (n : Int)), (xs[j / 4]'(by omega)).2) := by
      rw [q, ← hrow]
    have k := Lib.cells_of_tab b4 b5 b6 b3 q2
    have e := congrArg (·[j % 4]?) k
    simp only [List.getElem?_take_of_lt (show j % 4 < 4 by omega), List.getElem?_drop] at e
    rw [v1, ← Array.getElem?_toList]
    rw [show j / 4 * 4 + j % 4 = j by omega] at e
    rw [e]
    rw [List.getElem?_map, round_at j hj32] at hj
    rw [List.getElem?_map, List.getElem?_map, ← hj]
    cases (roundP.getD (j / 4) [])[j % 4]? <;> rfl
  · intro j v hj
    rw [v2, ← Array.getElem?_toList, k2]
    exact hj
end Go.Proofs.YtebmbapaedlmiaaDoor

namespace Go.Proofs.YtebmbapaedlmiaaDoor
open Go.RowKit Ae
set_option linter.unusedVariables false

set_option maxHeartbeats 4000000 in
set_option maxRecDepth 100000 in
theorem opens_walk (key nonce : List Nat) (hk : key.length = 32) (hkb : Byt key) (hn : nonce.length = 12) (hnb : Byt nonce) (vb x : Value) (l m : List Nat) (w : World) (h : RdB w vb l) (hx : RdB w x m) (hb : Byt l) (hmb : Byt m) (hl : l.length ≤ 30000000) (hm : m.length ≤ 30000000) (hg : Glob w) :
    Calls Tryd.prog 4 #[.agg (boxV key nonce vb), x] w (Gives w (.bool true)) := by
  obtain ⟨R, E, hO1, hO2⟩ : ∃ R E, (∀ w1 u, Chg Nowhere w w1 → RdB w1 u m → Calls Tryd.prog 11 #[.agg (bs key), .agg (bs nonce), vb, u] w1 (GivesT w1 R E)) ∧ (∀ w1, Chg Nowhere w w1 → Calls Tryd.prog 12 #[.agg (bs key), .agg (bs nonce), vb, x] w1 (GivesT w1 R E)) := by
    by_cases h16 : m.length < 16
    · exact ⟨[], 3, fun w1 u hc hu => open_short _ _ vb u m w1 hu h16 _ _ rfl rfl, fun w1 hc => ropen_short _ _ vb x m w1 (hx.same hc) h16 _ _ rfl rfl⟩
    · exact ⟨_, _, fun w1 u hc hu => open_any key nonce hk hkb hn hnb vb u l m (m.length - 16) w1 (h.same hc) hu hb hmb (by omega) (by omega) (by omega) (hg.chg hc), fun w1 hc => ropen_any key nonce hk hkb hn hnb vb x l m (m.length - 16) w1 (h.same hc) (hx.same hc) hb hmb (by omega) (by omega) (by omega)⟩
  have HO1 := Lib.hid hO1
  have HO2 := Lib.hid hO2
  have HSh := Lib.hid (show ∀ w1, Chg Nowhere w w1 → Calls Tryd.prog 8 #[] w1 (Gives w1 (.bool true)) from fun w1 hc => shown07_any w1 (hg.chg hc))
  have hu1 := Tryd.underlying23
  have hu2 := Tryd.underlying25
  have hi1 : (Tryd.prog.info? 23).map (·.size) = some (bl key).length := by rw [bl_len, hk]; exact info32
  have hi2 : (Tryd.prog.info? 25).map (·.size) = some (bl nonce).length := by rw [bl_len, hn]; exact info12
  have HX := Lib.hid hx
  obtain ⟨-, A1, c1, hvb, -, -⟩ := h
  obtain ⟨a, ha⟩ : ∃ a, a = l.length := ⟨_, rfl⟩
  rw [← ha] at hvb
  subst hvb
  have HK := Lib.hid hk
  have HN := Lib.hid hn
  have HML := Lib.hid hm
  clear hO1 hO2 ha hkb hnb hb hmb hl hm hg hk hn hx
  have HB0 := Lib.hid (alloc_new w (.cells (boxV key nonce (.slice A1 a c1)) 28))
  have HC0 := Lib.hid ((Chg.refl Nowhere w).alloc (.cells (boxV key nonce (.slice A1 a c1)) 28))
  go_enter Tryd.func4, Tryd.ntmps4
  go_upto_region 3 with (first
    | (go_at_call 8; refine (HSh.out _ HC0.out).mono ?_; rintro e w1 ⟨rfl, hC1⟩; have HB1 := Lib.hid (hC1.same HB0.out); have HC1 := Lib.hid (HC0.out.then_none hC1); clear hC1; obtain ⟨v6, w6, hr6, hW6⟩ := (BW.new w1).app ((HX.out.same HC1.out).same ((Chg.refl _ _).alloc _)) (by have := HML.out; simp; omega); rw [List.nil_append] at hW6; have HR6 := Lib.hid hr6; have HW6 := Lib.hid hW6; clear hr6 hW6)
    | (at_builtin; refine Lib.wpList_append_run _ rfl _ _ 26 26 rfl (.slice (some ⟨w1.heap.size, 0, none⟩) 0 0) x rfl rfl v6 w6 HR6.out ?_))
  have HB6 := Lib.hid (HW6.out.c.same HB1.out)
  have HC6 := Lib.hid (HC1.out.then_none HW6.out.c)
  have HD6 := Lib.hid (rd_own HW6.out.own)
  have cb6 := box_beside HB6.out HK.out HN.out
  clear HR6 HW6 HB1 HC1 HSh
  go_upto_region 4 with (first
    | (refine wpList_load_mid rfl 23 (Operand.tmp 16) rfl w.heap.size 0 rfl (bl key) _ (box_key HB6.out) hu1 rfl hi1 ?_)
    | (refine wpList_load_mid rfl 25 (Operand.tmp 18) rfl w.heap.size 32 rfl (bl nonce) _ (box_nonce HB6.out HK.out) hu2 rfl hi2 ?_)
    | (go_at_call 11; refine (HO1.out _ _ HC6.out HD6.out).mono ?_; clear HO1; rintro e w7 ⟨v7, rfl, hr7, hC7⟩; have HB7 := Lib.hid (hC7.same HB6.out); have HC7 := Lib.hid (HC6.out.then_none hC7); have HV7 := Lib.hid hr7; have HD7 := Lib.hid (HD6.out.same hC7); have cb7 := box_beside HB7.out HK.out HN.out; clear hC7 hr7))
  clear HB6 HC6 HD6 cb6
  go_upto_region 5 with (first
    | (refine wpList_load_mid rfl 23 (Operand.tmp 27) rfl w.heap.size 0 rfl (bl key) _ (box_key HB7.out) hu1 rfl hi1 ?_)
    | (refine wpList_load_mid rfl 25 (Operand.tmp 29) rfl w.heap.size 32 rfl (bl nonce) _ (box_nonce HB7.out HK.out) hu2 rfl hi2 ?_)
    | (go_at_call 12; refine (HO2.out _ HC7.out).mono ?_; clear HO2; rintro e w8 ⟨v8, rfl, hr8, hC8⟩; have HC8 := Lib.hid (HC7.out.then_none hC8); have HV8 := Lib.hid hr8; have HV78 := Lib.hid (HV7.out.same hC8); have HD8 := Lib.hid (HD7.out.same hC8); clear hC8 hr8))
  have cv1 := conv_rd HV78.out
  have cv2 := conv_rd HV8.out
  have cv3 := conv_rd HD8.out
  have cv4 := conv_rd (HX.out.same HC8.out)
  clear HB7 HC7 HV7 HD7 cb7 HV8 HV78 HD8
  go_wp2_with fail
  go_ret
  exact ⟨rfl, HC8.out⟩
end Go.Proofs.YtebmbapaedlmiaaDoor
