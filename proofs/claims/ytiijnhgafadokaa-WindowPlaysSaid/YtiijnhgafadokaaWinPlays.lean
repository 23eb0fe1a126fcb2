/-
  WindowPlays, walked: it returns true.
-/
import Derived.Test.YtiijnhgafadokaaWinPlaysPure
import Derived.Test.YtiijnhgafadokaaWinClone
import Derived.Deep.RegionWith
import Derived.Deep.RegionHeld3
import Derived.Deep.QuietTactic
import Derived.BigQuiet
import Derived.Deep.Cut
import Derived.Deep.DeepCutAuto
namespace Go.Proofs.Ytiijnhgafadokaa
open Go.RowKit Wins
set_option linter.unusedVariables false

/-- Block b a window, block y the document's one. -/
structure Ph (w0 : World) (b y : Nat) (vy : Value) (W : Win) (L : List Int) (w : World) : Prop where
  win : WinAt w b W
  ry : RefAt w y vy L
  chg : Chg Nowhere w0 w
  nb : w0.heap.size ≤ b
  ny : ∀ i, Foot y vy i → w0.heap.size ≤ i
  ap : ¬ Foot y vy b
theorem Ph.idle {w0 : World} {b y : Nat} {vy : Value} {W : Win} {L : List Int} {w w' : World} (h : Ph w0 b y vy W L w) (hc : Chg Nowhere w w') : Ph w0 b y vy W L w' :=
  ⟨h.win.chg hc (not_nowhere _), h.ry.chg hc (fun _ _ => not_nowhere _), h.chg.trans' hc, h.nb, h.ny, h.ap⟩
/-- The two, and a clone of each. -/
structure Pl (w0 : World) (b y c d : Nat) (vy vd : Value) (W C : Win) (L D : List Int) (w : World) : Prop where
  half : Ph w0 b y vy W L w
  cln : WinAt w c C
  rd : RefAt w d vd D
  bc : c ≠ b
  cy : ¬ Foot y vy c
  bd : ¬ Foot d vd b
  yd : ∀ i, Foot d vd i → ¬ Foot y vy i
theorem Pl.idle {w0 : World} {b y c d : Nat} {vy vd : Value} {W C : Win} {L D : List Int} {w w' : World} (h : Pl w0 b y c d vy vd W C L D w) (hc : Chg Nowhere w w') : Pl w0 b y c d vy vd W C L D w' :=
  ⟨h.half.idle hc, h.cln.chg hc (not_nowhere _), h.rd.chg hc (fun _ _ => not_nowhere _), h.bc, h.cy, h.bd, h.yd⟩
theorem Pl.markW {w0 : World} {b y c d : Nat} {vy vd : Value} {W C W' : Win} {L D : List Int} {w w' : World} (h : Pl w0 b y c d vy vd W C L D w) (hc : Chg (At b) w w') (ht : WinAt w' b W') : Pl w0 b y c d vy vd W' C L D w' :=
  ⟨⟨ht, h.half.ry.chg hc (fun i hi e => h.half.ap (by rw [← show i = b from e]; exact hi)), h.half.chg.trans hc (fun i hi e => absurd h.half.nb (by have : i = b := e; omega)), h.half.nb, h.half.ny, h.half.ap⟩,
   h.cln.chg hc h.bc, h.rd.chg hc (fun i hi e => h.bd (by rw [← show i = b from e]; exact hi)), h.bc, h.cy, h.bd, h.yd⟩
theorem Pl.markR {w0 : World} {b y c d : Nat} {vy vy' vd : Value} {W C : Win} {L L' D : List Int} {w w' : World} (h : Pl w0 b y c d vy vd W C L D w) (hc : Chg (Foot y vy) w w') (ht : RefAt w' y vy' L')
    (hf : ∀ i, Foot y vy' i → Foot y vy i ∨ w.heap.size ≤ i) : Pl w0 b y c d vy' vd W C L' D w' := by
  have hs := h.half.chg.size
  have hbl := h.half.win.lt
  have hcl := h.cln.lt
  refine ⟨⟨h.half.win.chg hc h.half.ap, ht, h.half.chg.trans hc (fun i hi e => absurd (h.half.ny i e) (by omega)), h.half.nb, fun i hi => ?_, fun hi => ?_⟩, h.cln.chg hc h.cy, h.rd.chg hc h.yd, h.bc, fun hi => ?_, h.bd, fun i hd hi => ?_⟩
  · rcases hf i hi with h1 | h1
    · exact h.half.ny i h1
    · omega
  · rcases hf b hi with h1 | h1
    · exact h.half.ap h1
    · omega
  · rcases hf c hi with h1 | h1
    · exact h.cy h1
    · omega
  · rcases hf i hi with h1 | h1
    · exact h.yd i hd h1
    · have := h.rd.lt i hd; omega
theorem Ph.clones {w0 : World} {b y c d : Nat} {vy vd : Value} {W C : Win} {L D : List Int} {w w1 w2 : World} (h : Ph w0 b y vy W L w) (h1 : Chg Nowhere w w1) (hc : WinAt w1 c C) (hcs : w.heap.size ≤ c)
    (h2 : Chg Nowhere w1 w2) (hd : RefAt w2 d vd D) (hds : ∀ i, Foot d vd i → w1.heap.size ≤ i) : Pl w0 b y c d vy vd W C L D w2 := by
  have hbl := h.win.lt
  have hs := h1.size
  refine ⟨(h.idle h1).idle h2, hc.chg h2 (not_nowhere _), hd, by omega, fun hi => ?_, fun hi => ?_, fun i hi hy => ?_⟩
  · have := h.ry.lt c hi; omega
  · have := hds b hi; omega
  · have := hds i hi; have := h.ry.lt i hy; omega

theorem rmark_is (b : Nat) (n c : Int) (v : Value) (L : List Int) (w : World) (h : RefAt w b v L) (hl : L.length < 1000) (hc : Hid (c = chkR L n)) :
    Calls Try.prog 35 #[.pointer (some ⟨b, 0, none⟩), .int .i64 n] w (fun e w' => ∃ v', e = .returned (.int .i64 c) ∧ Chg (Foot b v) w w' ∧ RefAt w' b v' (markR L n) ∧ ∀ i, Foot b v' i → Foot b v i ∨ w.heap.size ≤ i) := by
  rw [hc.out]; exact rmark_any b n v L w h hl
theorem markR_len (L : List Int) (n : Int) : (markR L n).length ≤ L.length + 1 := by unfold markR; split <;> simp

theorem wchk_q (b : Nat) (n c : Int) (W : Win) (w : World) (k : Nat) (h : WinAt w b W) (hc : Hid (c = chk W n)) :
    Calls Try.prog 28 #[.pointer (some ⟨b, 0, none⟩), .int .i64 n] (w.drewN k) fun e w'' => e = .returned (.int .i64 c) ∧ ∃ m, w'' = w.drewN m :=
  Calls.quiet_of_same ((chk_any b n W _ (h.chg ((Chg.refl Nowhere _).drewN k) (not_nowhere _))).mono fun e w' hh => ⟨by rw [hc.out]; exact hh.1, hh.2.symm⟩)
theorem rchk_q (b : Nat) (n c : Int) (v : Value) (L : List Int) (w : World) (k : Nat) (h : RefAt w b v L) (hc : Hid (c = chkR L n)) :
    Calls Try.prog 36 #[.pointer (some ⟨b, 0, none⟩), .int .i64 n] (w.drewN k) fun e w'' => e = .returned (.int .i64 c) ∧ ∃ m, w'' = w.drewN m :=
  Calls.quiet_of_same ((rchk_any b n v L _ (h.chg ((Chg.refl Nowhere _).drewN k) (fun _ _ => not_nowhere _))).mono fun e w' hh => ⟨by rw [hc.out]; exact hh.1, hh.2.symm⟩)

set_option maxHeartbeats 3200000 in
set_option maxRecDepth 100000 in
theorem playsW_walk (A1 A2 : Option Addr) (cap1 cap2 : Nat) (zs qs : List Int) (most : Int) (w : World) (hcap1 : zs.length ≤ 9223372036854775807) (hcap2 : qs.length ≤ 9223372036854775807)
    (hz : 0 < zs.length → ∃ g o, A1 = some ⟨g, o, none⟩ ∧ g < w.heap.size ∧ ∀ (i : Nat) z, zs[i]? = some z → w.cell? ⟨g, o + i, none⟩ = some (.int .i64 z))
    (ha : 0 < qs.length → ∃ g o, A2 = some ⟨g, o, none⟩ ∧ g < w.heap.size ∧ ∀ (i : Nat) z, qs[i]? = some z → w.cell? ⟨g, o + i, none⟩ = some (.int .i64 z)) :
    Calls Try.prog 9 #[.slice A1 zs.length cap1, .slice A2 qs.length cap2, .int .i64 most] w (ShownWTo w) := by
  have HZ := Lib.hid hz; clear hz
  have HA := Lib.hid ha; clear ha
  go_enter Try.func9, Try.ntmps9
  go_wp2_with fail
  refine (shownW_any _).mono ?_
  rintro e w1 ⟨rfl, hC1⟩
  have HC1 := Lib.hid hC1
  clear hC1
  go_wp2_with fail
  refine (newW_any _).mono ?_
  rintro e w2 ⟨b, rfl, hW, hC, hb⟩
  have hbl := hW.lt
  have H := Lib.hid (show Wb w b Wins.new w2 from ⟨hW, HC1.out.trans' hC, Nat.le_trans HC1.out.size hb⟩)
  clear hW hC hb HC1
  have HP := Lib.hid (show Ph w b w2.heap.size (.slice none 0 0) Wins.new [] (w2.alloc (.cells #[.slice none 0 0] 55)) from
    ⟨H.out.win.chg ((Chg.refl Nowhere _).alloc _) (not_nowhere _), ⟨alloc_new _ _, World.ownsRow_nil _ _ _ _, by simp [Value.ownBlock], by unfold Small; simp⟩, H.out.chg.alloc _, H.out.new,
     by rintro i (rfl | hi)
        · exact H.out.chg.size
        · simp [Value.ownBlock] at hi,
     by rintro (e | hi)
        · omega
        · simp [Value.ownBlock] at hi⟩)
  clear H
  go_wp2_with fail
  refine (wclone_any _ _ _ HP.out.win).mono ?_
  rintro e w3 ⟨c, rfl, hW3, hC3, hb3⟩
  have HQ := Lib.hid hW3
  have HC3 := Lib.hid hC3
  clear hW3 hC3
  go_wp2_with fail
  refine (rclone_any _ _ _ _ (HP.out.idle HC3.out).ry).mono ?_
  rintro e w4 ⟨d, vd, rfl, hC4, hR4, hF4⟩
  have HL := Lib.hid (HP.out.clones HC3.out HQ.out hb3 hC4 hR4 hF4)
  clear hC4 hR4 hF4 HC3 HQ HP hb3
  obtain ⟨y, hy⟩ : ∃ y, y = w2.heap.size := ⟨_, rfl⟩
  rw [← hy] at HL
  go_wp2_with fail
  try rw [← hy]
  clear hy hbl
  go_loopw [10, 11, 12] (fun pc pd i wr => ∃ (k c d : Nat) (vy vd : Value) (W C : Win) (L D : List Int), k ≤ zs.length ∧ k ≤ 150 ∧ i = .int .i64 k ∧ pc = .pointer (some ⟨c, 0, none⟩) ∧ pd = .pointer (some ⟨d, 0, none⟩) ∧ L.length ≤ k ∧ Hid (Same W L) ∧ Hid (Same C D) ∧ Hid (Pl w b y c d vy vd W C L D wr)) (fun _ _ i _ => 150 - (intOf i).toNat)
  case atStart => exact ⟨0, c, d, _, _, _, _, _, _, by omega, by omega, rfl, rfl, rfl, by simp, Lib.hid same_new, Lib.hid same_new, HL⟩
  case round => as_aux_lemma =>
    clear HL
    obtain ⟨k, c, d, vy, vd, W, C, L, D, hk, hk2, rfl, rfl, rfl, hLk, S1, S2, HP⟩ := hrel
    by_cases hend : k < zs.length ∧ k < 150
    · obtain ⟨hk3, hk4⟩ := hend
      obtain ⟨g, o, rfl, hg, hcell⟩ := HZ.out (by omega)
      obtain ⟨z, hzk⟩ : ∃ z, zs[k]? = some z := ⟨_, List.getElem?_eq_getElem hk3⟩
      have cz := hcell k _ hzk
      have c1 : wr.cell? ⟨g, o + k, none⟩ = some (.int .i64 z) := (HP.out.half.chg.cell (p := ⟨g, o + k, none⟩) hg (not_nowhere _)).trans cz
      have CZ := Lib.hid cz
      clear hcell hzk cz HZ
      obtain ⟨e1, he1⟩ : ∃ e1, e1 = chk W z := ⟨_, rfl⟩
      have E2 := Lib.hid (he1.trans (S1.out.chk z))
      have E1 := Lib.hid he1
      clear he1
      have S1' := Lib.hid (S1.out.mark z)
      have hLk' := markR_len L z
      go_upto_region 11 with (fail)
      go_cut [56] (fun t wx => t = .bool false ∧ ∃ vy', Pl w b y c d vy' vd (marks W z) C (markR L z) D wx)
      case first => as_aux_lemma =>
        go_wp2_with fail
        go_region_held3 (fun w' => w'.cell? ⟨g, o + k, none⟩ = some (.int .i64 z)) (first | go_keep | exact c5 | exact c6)
          (first
          | (go_at_call 29; refine (mark_any b _ _ _ (HP.out.idle ((Chg.refl Nowhere _).drew)).half.win).mono ?_; rw [← E1.out]; rintro e w5 ⟨rfl, hC, hW⟩; have HP5 := Lib.hid ((HP.out.idle ((Chg.refl Nowhere _).drew)).markW hC hW); have c5 := (HP5.out.half.chg.cell (p := ⟨g, o + k, none⟩) hg (not_nowhere _)).trans CZ.out; clear hC hW)
          | (go_at_call 35; refine (rmark_is y _ _ _ _ _ HP5.out.half.ry (by omega) E2).mono ?_; rintro e w6 ⟨vy', rfl, hC, hR, hF⟩; have HP6 := Lib.hid (HP5.out.markR hC hR hF); have c6 := (HP6.out.half.chg.cell (p := ⟨g, o + k, none⟩) hg (not_nowhere _)).trans CZ.out; clear hC hR hF))
        all_goals
          go_wp2_with fail
          go_meet
          exact ⟨rfl, _, HP6.out⟩
      case rest =>
        obtain ⟨rfl, vy1, hP⟩ := hcut
        have HP1 := Lib.hid hP
        clear hP E1 E2 c1 CZ HP
        go_upto_region 13 with (fail)
        go_cut [75] (fun t wx => t = .bool false ∧ Pl w b y c d vy1 vd (marks W z) C (markR L z) D wx)
        case first => as_aux_lemma =>
          by_cases hq : k < qs.length
          · obtain ⟨g2, o2, rfl, hg2, hcell2⟩ := HA.out (by omega)
            obtain ⟨q, hqk⟩ : ∃ q, qs[k]? = some q := ⟨_, List.getElem?_eq_getElem hq⟩
            have cq := hcell2 k _ hqk
            have d1 := (HP1.out.half.chg.cell (p := ⟨g2, o2 + k, none⟩) hg2 (not_nowhere _)).trans cq
            clear hcell2 hqk cq
            obtain ⟨e2, he2⟩ : ∃ e2, e2 = chk (marks W z) q := ⟨_, rfl⟩
            have E3 := Lib.hid (he2.trans (S1'.out.chk q))
            have E4 := Lib.hid he2
            clear he2
            go_wp2_with fail
            go_quiet ((first | (go_at_call 28; exact wchk_q _ _ _ _ _ _ HP1.out.half.win E4) | (go_at_call 36; exact rchk_q _ _ _ _ _ _ _ HP1.out.half.ry E3)))
            go_wp2_with fail
            go_meet
            exact ⟨rfl, HP1.out.idle ((Chg.refl Nowhere _).drewN _)⟩
          · have hd : decide (k < qs.length) = false := by simpa using hq
            clear hq
            go_wp2_with fail
            go_quiet (fail)
            go_wp2_with fail
            go_meet
            exact ⟨rfl, HP1.out.idle ((Chg.refl Nowhere _).drewN _)⟩
        case rest =>
          obtain ⟨rfl, hP⟩ := hcut
          have HP2 := Lib.hid hP
          clear hP HP1
          go_upto_region 15 with (fail)
          go_cut [101] (fun t wx => t = .bool false ∧ Pl w b y c d vy1 vd (marks W z) C (markR L z) D wx)
          case first => as_aux_lemma =>
            obtain ⟨t1, ht1⟩ : ∃ t1, t1 = topR (markR L z) := ⟨_, rfl⟩
            have TA := Lib.hid (show ((marks W z).next : Int) - 1 = t1 by rw [ht1, S1'.out.next]; omega)
            have RA := Lib.hid ht1
            obtain ⟨n1, hn1⟩ : ∃ n1 : Nat, n1 = cntR (markR L z) := ⟨_, rfl⟩
            have NA := Lib.hid (show cnt (marks W z).m 16 = (n1 : Int) by rw [hn1, S1'.out.count])
            have MA := Lib.hid hn1
            obtain ⟨t2, ht2⟩ : ∃ t2, t2 = topR D := ⟨_, rfl⟩
            have TB := Lib.hid (show (C.next : Int) - 1 = t2 by rw [ht2, S2.out.next]; omega)
            have RB := Lib.hid ht2
            obtain ⟨n2, hn2⟩ : ∃ n2 : Nat, n2 = cntR D := ⟨_, rfl⟩
            have NB := Lib.hid (show cnt C.m 16 = (n2 : Int) by rw [hn2, S2.out.count])
            have MB := Lib.hid hn2
            clear ht1 hn1 ht2 hn2
            go_wp2_with fail
            refine (top_any _ _ _ HP2.out.half.win).mono ?_
            rw [TA.out]
            rintro e w' ⟨rfl, rfl⟩
            go_wp2_with fail
            refine (rtop_any _ _ _ _ HP2.out.half.ry).mono ?_
            rw [← RA.out]
            rintro e w' ⟨rfl, rfl⟩
            go_wp2_with fail
            refine (count_any _ _ _ HP2.out.half.win).mono ?_
            rw [NA.out]
            rintro e w' ⟨rfl, rfl⟩
            go_wp2_with fail
            refine (rcount_any _ _ _ _ HP2.out.half.ry).mono ?_
            rw [← MA.out]
            rintro e w5 ⟨rfl, hC5⟩
            have HP3 := Lib.hid (HP2.out.idle hC5)
            clear hC5
            go_wp2_with fail
            refine (top_any _ _ _ HP3.out.cln).mono ?_
            rw [TB.out]
            rintro e w' ⟨rfl, rfl⟩
            go_wp2_with fail
            refine (rtop_any _ _ _ _ HP3.out.rd).mono ?_
            rw [← RB.out]
            rintro e w' ⟨rfl, rfl⟩
            go_wp2_with fail
            refine (count_any _ _ _ HP3.out.cln).mono ?_
            rw [NB.out]
            rintro e w' ⟨rfl, rfl⟩
            go_wp2_with fail
            refine (rcount_any _ _ _ _ HP3.out.rd).mono ?_
            rw [← MB.out]
            rintro e w6 ⟨rfl, hC6⟩
            have HP4 := Lib.hid (HP3.out.idle hC6)
            clear hC6
            go_wp2_with fail
            go_meet
            exact ⟨rfl, HP4.out⟩
          case rest =>
            obtain ⟨rfl, hP⟩ := hcut
            have HP3 := Lib.hid hP
            clear hP HP2
            by_cases h9 : (k : Int) % 10 = 9
            · have hd : ((k : Int) % 10 == 9) = true := by simpa using h9
              clear h9
              as_aux_lemma =>
              go_wp2_with fail
              refine (wclone_any _ _ _ HP3.out.half.win).mono ?_
              rintro e w7 ⟨c2, rfl, hW7, hC7, hb7⟩
              have HQ := Lib.hid hW7
              have HC7 := Lib.hid hC7
              clear hW7 hC7
              go_wp2_with fail
              refine (rclone_any _ _ _ _ (HP3.out.half.idle HC7.out).ry).mono ?_
              rintro e w8 ⟨d2, vd2, rfl, hC8, hR8, hF8⟩
              have HL := Lib.hid (HP3.out.half.clones HC7.out HQ.out hb7 hC8 hR8 hF8)
              clear hC8 hR8 hF8 HQ HC7 hb7
              go_wp2_with fail
              go_roundw
              case rel => exact ⟨k + 1, c2, d2, vy1, vd2, marks W z, marks W z, _, _, by omega, by omega, by go_num, rfl, rfl, by omega, S1', S1', HL⟩
              case measure => simp [intOf]; omega
            · have hd : ((k : Int) % 10 == 9) = false := by simpa using h9
              clear h9
              as_aux_lemma =>
              go_wp2_with fail
              go_roundw
              case rel => exact ⟨k + 1, c, d, vy1, vd, marks W z, C, _, _, by omega, by omega, by go_num, rfl, rfl, by omega, S1', S2, HP3⟩
              case measure => simp [intOf]; omega
    · have hcase : k = zs.length ∨ k < zs.length ∧ k = 150 := by omega
      clear hend HZ HA
      rcases hcase with rfl | ⟨hkl2, rfl⟩
      all_goals as_aux_lemma =>
        go_wp2_with fail
        refine (below_any _ _ _ _ HP.out.half.win).mono ?_
        rintro e wx ⟨v1, rfl, hB1, hC1⟩
        have HPx := Lib.hid (HP.out.idle hC1)
        have HB1 := Lib.hid hB1
        clear hC1 hB1
        go_wp2_with fail
        refine (rbelow_any _ _ _ _ _ _ HPx.out.half.ry S1.out).mono ?_
        rintro e wy ⟨v2, rfl, hB2, hC2⟩
        have HPy := Lib.hid (HPx.out.idle hC2)
        obtain ⟨l, hl⟩ : ∃ l, l = below W most := ⟨_, rfl⟩
        have hB1 := HB1.out
        rw [← hl] at hB1 hB2
        clear hl HB1
        have hlen : l.length ≤ 9223372036854775807 := by
          rcases hB1.2 with ⟨_, h0⟩ | ⟨_, _, _, _, _, _, h1, h2, _, _⟩
          · omega
          · unfold maxLen at h2; omega
        obtain ⟨-, A3, cp3, rfl, -, h3⟩ := (Rd.of_owns hB1).same hC2
        obtain ⟨-, A4, cp4, rfl, -, h4⟩ := Rd.of_owns hB2
        have H3 := Lib.hid h3
        have H4 := Lib.hid h4
        clear h3 h4 hB1 hB2 hC2
        go_wp2_with fail
        go_loopw [15] (fun i wr => ∃ j : Nat, j ≤ l.length ∧ i = .int .i64 j ∧ Chg Nowhere wy wr) (fun i _ => l.length - (intOf i).toNat)
        case atStart => exact ⟨0, by omega, rfl, Chg.refl _ _⟩
        case round =>
          obtain ⟨j, hj, rfl, hC⟩ := hrel
          have HC := Lib.hid hC
          by_cases hj2 : j < l.length
          · obtain ⟨r, hr⟩ : ∃ r, l[j]? = some r := ⟨_, List.getElem?_eq_getElem hj2⟩
            obtain ⟨g3, o3, rfl, hg3, hcell3⟩ := H3.out (by omega)
            obtain ⟨g4, o4, rfl, hg4, hcell4⟩ := H4.out (by omega)
            have a0 : wr.cell? ⟨g3, o3 + j * 2, none⟩ = _ := (hC.cell (p := ⟨g3, o3 + j * 2, none⟩) hg3 (not_nowhere _)).trans ((hcell3 (j * 2) (by rw [flat_len]; omega)).trans (flat_get _ _ _ hr).1)
            have a1 : wr.cell? ⟨g3, o3 + j * 2 + 1, none⟩ = _ := (hC.cell (p := ⟨g3, o3 + j * 2 + 1, none⟩) hg3 (not_nowhere _)).trans ((hcell3 (j * 2 + 1) (by rw [flat_len]; omega)).trans (flat_get _ _ _ hr).2)
            have b0 : wr.cell? ⟨g4, o4 + j * 2, none⟩ = _ := (hC.cell (p := ⟨g4, o4 + j * 2, none⟩) hg4 (not_nowhere _)).trans ((hcell4 (j * 2) (by rw [flat_len]; omega)).trans (flat_get _ _ _ hr).1)
            have b1 : wr.cell? ⟨g4, o4 + j * 2 + 1, none⟩ = _ := (hC.cell (p := ⟨g4, o4 + j * 2 + 1, none⟩) hg4 (not_nowhere _)).trans ((hcell4 (j * 2 + 1) (by rw [flat_len]; omega)).trans (flat_get _ _ _ hr).2)
            obtain ⟨r1, r2⟩ := r
            simp only at a0 a1 b0 b1
            clear hcell3 hcell4 hr hC
            go_wp2_with fail
            go_quiet (fail)
            go_wp2_with fail
            go_roundw
            case rel => exact ⟨j + 1, by omega, by go_num, HC.out.drewN _⟩
            case measure => simp [intOf]; omega
          · obtain rfl : j = l.length := by omega
            go_wp2_with fail
            go_ret
            exact ⟨rfl, HPy.out.half.chg.trans' hC⟩
theorem playsW_walk' (s1 s2 : Option Addr) (cap1 cap2 : Nat) (zs qs : List Int) (most : Int) (w : World) (h1 : zs.length ≤ cap1) (m1 : cap1 ≤ maxLen) (h2 : qs.length ≤ cap2) (m2 : cap2 ≤ maxLen)
    (c1 : 0 < zs.length → ∃ g o, s1 = some ⟨g, o, none⟩ ∧ g < w.heap.size ∧ ∀ (i : Nat) z, zs[i]? = some z → ∀ (j : Nat) u, (intR z)[j]? = some u → w.cell? ⟨g, o + (i * 1 + j), none⟩ = some u)
    (c2 : 0 < qs.length → ∃ g o, s2 = some ⟨g, o, none⟩ ∧ g < w.heap.size ∧ ∀ (i : Nat) z, qs[i]? = some z → ∀ (j : Nat) u, (intR z)[j]? = some u → w.cell? ⟨g, o + (i * 1 + j), none⟩ = some u) :
    Calls Try.prog 9 #[.slice s1 zs.length cap1, .slice s2 qs.length cap2, .int .i64 most] w (ShownWTo w) := by
  refine playsW_walk s1 s2 cap1 cap2 zs qs most w (by unfold maxLen at m1; omega) (by unfold maxLen at m2; omega) (fun h0 => ?_) (fun h0 => ?_)
  · obtain ⟨g, o, rfl, hg, hcell⟩ := c1 h0
    refine ⟨g, o, rfl, hg, fun i z hz => ?_⟩
    have := hcell i z hz 0 _ rfl
    rw [Nat.mul_one, Nat.add_zero] at this
    exact this
  · obtain ⟨g, o, rfl, hg, hcell⟩ := c2 h0
    refine ⟨g, o, rfl, hg, fun i z hz => ?_⟩
    have := hcell i z hz 0 _ rfl
    rw [Nat.mul_one, Nat.add_zero] at this
    exact this
end Go.Proofs.Ytiijnhgafadokaa
