/-
  SchedOnce, walked: it returns true.
-/
import Derived.Test.YtiijnhgafadokaaSchOnceA
import Derived.Deep.DeepCutAuto
import Derived.Deep.CutBlock
namespace Go.Proofs.Ytiijnhgafadokaa
open Go.RowKit
set_option linter.unusedVariables false

/-- What holds behind the op. -/
def OnceAft (w0 : World) (s k : Nat) (vt nn lost : Value) (wx : World) : Prop :=
  ∃ (n : Nat) (told : List Bool) (S : Sch) (pend : List Int), n ≤ k + 1 ∧ nn = .int .i64 n ∧ On1 w0 s (k + 2) n vt told S wx ∧ Pnd S n told pend ∧ pend.length ≤ n ∧ wx.ownsRow w0.heap.size 49 2 lost (tells pend).length (flat (tells pend))
set_option maxHeartbeats 3200000 in
set_option maxRecDepth 100000 in
theorem once21_walk (A : Option Addr) (cap : Nat) (w : World) (zs : List {z : OpZ // OpzOk w z}) (hlen : zs.length ≤ cap) (hcap : cap ≤ maxLen)
    (hz : 0 < zs.length → ∃ g o, A = some ⟨g, o, .none⟩ ∧ g < w.heap.size ∧ ∀ (i : Nat) z, zs[i]? = some z → ∀ (j : Nat) u, (opzR w z)[j]? = some u → w.cell? ⟨g, o + (i * 7 + j), .none⟩ = some u) :
    Calls Try.prog 13 #[.slice A zs.length cap] w (ShownSTo w) := by
  obtain ⟨i0, hi, hz0, hz1, hz2⟩ := info_parts infoBool
  have HZ := Lib.hid hz
  clear hz
  unfold maxLen at hcap
  go_enter Try.func13, Try.ntmps13
  go_wp2_with fail
  refine (shownS_any _).mono ?_
  rintro e w0 ⟨rfl, hC0⟩
  have HC0 := Lib.hid hC0
  clear hC0
  go_wp2_with fail
  refine (newS_any _ _).mono ?_
  rintro e w1 ⟨s, rfl, hI, hC⟩
  have H1 := Lib.hid (show Sv w0 s 0 (newS 0) w1 from ⟨hI, hC⟩)
  clear hI hC
  go_wp2_with fail
  refine (openS_any _ _ s 0 _ H1.out.is H1.out.zone (by omega) 5 (inI (by omega))).mono ?_
  rintro e w2 ⟨rfl, hI, hC⟩
  have H2 := Lib.hid (H1.out.step hI hC)
  clear hI hC H1
  go_wp2_with fail
  have HO0 := Lib.hid (show On1 w0 s 1 0 (.slice (some ⟨w2.heap.size, 0, .none⟩) 0 0) [] (openS (newS 0) 5) (w2.alloc (.cells #[] 4)) from
    ⟨H2.out.idle ((Chg.refl _ _).alloc _), World.ownsRow_lit (base := w0.heap.size) (e := 4) (size := 1) w2 #[] 0 H2.out.chg.size (by unfold maxLen; omega) rfl, rfl⟩)
  clear H2
  go_loopw [5, 6, 7] (fun vt nn i wr => ∃ (k n : Nat) (told : List Bool) (S : Sch), k ≤ zs.length ∧ k ≤ 100 ∧ n ≤ k ∧ i = .int .i64 k ∧ nn = .int .i64 n ∧ Hid (On1 w0 s (k + 1) n vt told S wr) ∧ Hid (Pnd S n told [])) (fun _ _ i _ => 100 - (intOf i).toNat)
  case atStart => exact ⟨0, 0, _, _, by omega, by omega, by omega, rfl, rfl, HO0, Lib.hid pnd_new⟩
  case round =>
    clear HO0
    obtain ⟨k, n, told, S, hk, hk1, hn, rfl, rfl, HO, HP⟩ := hrel
    by_cases hk' : k < zs.length
    · by_cases hk2 : k < 100
      · obtain ⟨g, o, rfl, hg, hcell⟩ := HZ.out (by omega)
        obtain ⟨⟨⟨zk, zid, zn, zm, vl, va, vr, l, live, rtt⟩, zok⟩, hzk⟩ : ∃ z, zs[k]? = some z := ⟨zs[k], List.getElem?_eq_getElem hk'⟩
        have c : ∀ j x, (opzCells ⟨zk, zid, zn, zm, vl, va, vr, l, live, rtt⟩)[j]? = some x → wr.cell? ⟨g, o + k * 7 + j, .none⟩ = some x := fun j x h => by
          rw [Nat.add_assoc]
          exact ((HC0.out.trans' HO.out.sv.chg).cell (p := ⟨g, o + (k * 7 + j), .none⟩) hg (not_nowhere _)).trans (hcell k _ hzk j x h)
        simp only [opzCells] at c
        have c0 : wr.cell? ⟨g, o + k * 7, .none⟩ = _ := c 0 _ rfl
        have c1 := c 1 _ rfl
        have c2 := c 2 _ rfl
        have c3 := c 3 _ rfl
        have c4 := c 4 _ rfl
        have c5 := c 5 _ rfl
        have c6 := c 6 _ rfl
        have ZK := Lib.hid zok.k
        have ZN := Lib.hid zok.n
        have ZM := Lib.hid zok.m
        have ZR := Lib.hid zok.rl
        have ZL := Lib.hid zok.ll
        simp only at ZK ZN ZM ZR ZL
        obtain ⟨B, cb, rfl⟩ : ∃ B cb, vl = Value.slice B l.length cb := by
          obtain ⟨-, B, cb, h, -, -⟩ := ZR.out
          exact ⟨B, cb, h⟩
        obtain ⟨Ba, cba, rfl⟩ : ∃ B cb, va = Value.slice B live.length cb := by
          obtain ⟨-, B, cb, h, -, -⟩ := zok.ra
          exact ⟨B, cb, h⟩
        obtain ⟨Br, cbr, rfl⟩ : ∃ B cb, vr = Value.slice B rtt.length cb := by
          obtain ⟨-, B, cb, h, -, -⟩ := zok.rr
          exact ⟨B, cb, h⟩
        clear c hcell hzk zok
        obtain ⟨At0, ct, rfl⟩ : ∃ At0 ct, _ = Value.slice At0 n ct := by
          obtain ⟨-, Al, cl, h, -, -⟩ := Rd.of_owns HO.out.row
          exact ⟨Al, cl, h⟩
        go_upto_block 2 with (go_at_call 43; refine (kind21_any zk 8 _ ZK.out (by omega)).mono ?_; rintro e w' ⟨q, hq, rfl, rfl⟩)
        go_cut [5, 6, 9] (fun vt nn lost wx => OnceAft w0 s k vt nn lost wx)
        case first =>
          have HO2 := Lib.hid (HO.out.idle (((Chg.refl Nowhere wr).alloc (.cells #[.int .i64 zk, .int .i64 zid, .int .i64 zn, .int .i64 zm, .slice B l.length cb, .slice Ba live.length cba, .slice Br rtt.length cbr] 71)).alloc (.cells #[] 49)))
          have HOp := Lib.hid (show OpAt ((wr.alloc (.cells #[.int .i64 zk, .int .i64 zid, .int .i64 zn, .int .i64 zm, .slice B l.length cb, .slice Ba live.length cba, .slice Br rtt.length cbr] 71)).alloc (.cells #[] 49)) wr.heap.size zk zid zn zm (.slice B l.length cb) (.slice Ba live.length cba) (.slice Br rtt.length cbr) from alloc_old (alloc_new _ _))
          have HL0 := Lib.hid (World.ownsRow_lit (base := w0.heap.size) (e := 49) (size := 2) (wr.alloc (.cells #[.int .i64 zk, .int .i64 zid, .int .i64 zn, .int .i64 zm, .slice B l.length cb, .slice Ba live.length cba, .slice Br rtt.length cbr] 71)) #[] 0 (by have := HO.out.sv.chg.size; simp; omega) (by unfold maxLen; omega) rfl)
          rw [show (wr.alloc (.cells #[.int .i64 zk, .int .i64 zid, .int .i64 zn, .int .i64 zm, .slice B l.length cb, .slice Ba live.length cba, .slice Br rtt.length cbr] 71)).heap.size = wr.heap.size + 1 by simp] at HL0
          clear c0 c1 c2 c3 c4 c5 c6
          rcases (by omega : q = 0 ∨ q = 2 ∨ q = 3 ∨ q = 4 ∨ q = 5 ∨ q = 1 ∨ q = 6 ∨ q = 7) with rfl | rfl | rfl | rfl | rfl | rfl | rfl | rfl
          · as_aux_lemma =>
            obtain ⟨u, hu⟩ : ∃ u, under S 5 = u := ⟨_, rfl⟩
            have hub : u ≤ n := by rw [← hu]; exact HP.out.under
            go_wp2_with fail
            refine (underS_any _ _ s _ S HO2.out.sv.is 5 (inI (by omega))).mono ?_
            rw [hu]
            rintro e w5 ⟨rfl, hC⟩
            have HO5 := Lib.hid (HO2.out.idle hC)
            have HL5 := Lib.hid (rng_idle HL0.out hC)
            have d3 := (HOp.out.idle hC).all.2.2.2.1
            have HU := Lib.hid (show under S 5 < 100000 by omega)
            have HA := Lib.hid (HO5.out.idle ((Chg.refl Nowhere w5).alloc (.cells #[.int .i64 (n : Int), .int .i64 ((n : Int) + 1)] 49)))
            have HLA := Lib.hid (rng_idle HL5.out ((Chg.refl Nowhere w5).alloc (.cells #[.int .i64 (n : Int), .int .i64 ((n : Int) + 1)] 49)))
            have HUN := Lib.hid hu
            clear hu hC HO2 HL0 HOp HO5 HL5
            go_wp2_with fail
            refine (sent_any _ _ s _ S HA.out.sv.is HA.out.sv.zone 5 (n : Int) zm (inI (by omega)) _ [((n : Int), (n : Int) + 1)] (Rd.lit w5 2 1 [.int .i64 (n : Int), .int .i64 ((n : Int) + 1)] 49 rfl) (by simp) (fun g o n c' e hm => by
              simp only [Value.slice.injEq, Option.some.injEq, Addr.mk.injEq] at e
              obtain ⟨⟨rfl, -⟩, -⟩ := e
              exact cells_other (alloc_new w5 _) (by decide) hm.2) HU.out).mono ?_
            rintro e w7 ⟨cv, rfl, hI, hC⟩
            have HO7 := Lib.hid (HA.out.step hI hC)
            have HL7 := Lib.hid (rng_zone HLA.out hC)
            obtain ⟨p1, p2⟩ := HP.out.sent HO.out.len (by omega) zm cv
            rw [HUN.out] at p2
            have P1 := Lib.hid p1
            have P2 := Lib.hid (show ((under (sentS S 5 (n : Int) zm cv [((n : Int), (n : Int) + 1)]) 5 : Nat) : Int) = (u : Int) + 1 by rw [p2]; omega)
            clear p1 p2 hI hC HA HLA d3
            go_wp2_with fail
            refine (underS_any _ _ s _ _ HO7.out.sv.is 5 (inI (by omega))).mono ?_
            rw [P2.out]
            rintro e w9 ⟨rfl, hC⟩
            have HO9 := Lib.hid (HO7.out.idle hC)
            have HL9 := Lib.hid (rng_idle HL7.out hC)
            clear hC HO7 HL7
            go_wp2_with (at_builtin; refine wpList_append_own _ rfl _ _ 69 rfl w0.heap.size 4 i0 (.bool false) 1 1 Try.underlying69 hi hz0 hz1 hz2 rfl (by decide) (.slice At0 n ct) n (bools told) rfl (HO9.out.idle ((Chg.refl _ _).alloc _)).row ⟨w9.heap.size, 0, .none⟩ 1 1 [.bool false] rfl rfl (new1' w9 _ _ _ rfl) (fun y hy => by simp at hy; subst hy; rfl) (by unfold maxLen; omega) (by omega) (by have := HO9.out.sv.chg.size; simp; omega) ?_; intro v' w3 hown' hgrow3 hnil3; have HG1 := Lib.hid (HO9.out.grow ((Chg.refl _ _).alloc _) hgrow3 hown'); have HGL := Lib.hid (HO9.out.keepR ((Chg.refl _ _).alloc _) hgrow3 HL9.out); clear hown' hnil3 hgrow3)
            go_meet
            exact ⟨n + 1, _, _, [], by omega, by go_num, HG1.out.more, P1.out, by simp, HGL.out⟩
          · as_aux_lemma =>
            obtain ⟨u, hu⟩ : ∃ u, under S 5 = u := ⟨_, rfl⟩
            have hub : u ≤ n := by rw [← hu]; exact HP.out.under
            go_wp2_with fail
            refine (underS_any _ _ s _ S HO2.out.sv.is 5 (inI (by omega))).mono ?_
            rw [hu]
            rintro e w5 ⟨rfl, hC⟩
            have HO5 := Lib.hid (HO2.out.idle hC)
            have HL5 := Lib.hid (rng_idle HL0.out hC)
            have d3 := (HOp.out.idle hC).all.2.2.2.1
            have HU := Lib.hid (show under S 5 < 100000 by omega)
            have HA := Lib.hid (HO5.out.idle ((Chg.refl Nowhere w5).alloc (.cells #[.int .i64 (n : Int), .int .i64 ((n : Int) + 1)] 49)))
            have HLA := Lib.hid (rng_idle HL5.out ((Chg.refl Nowhere w5).alloc (.cells #[.int .i64 (n : Int), .int .i64 ((n : Int) + 1)] 49)))
            have HUN := Lib.hid hu
            clear hu hC HO2 HL0 HOp HO5 HL5
            go_wp2_with fail
            refine (sent_any _ _ s _ S HA.out.sv.is HA.out.sv.zone 5 (n : Int) zm (inI (by omega)) _ [((n : Int), (n : Int) + 1)] (Rd.lit w5 2 1 [.int .i64 (n : Int), .int .i64 ((n : Int) + 1)] 49 rfl) (by simp) (fun g o n c' e hm => by
              simp only [Value.slice.injEq, Option.some.injEq, Addr.mk.injEq] at e
              obtain ⟨⟨rfl, -⟩, -⟩ := e
              exact cells_other (alloc_new w5 _) (by decide) hm.2) HU.out).mono ?_
            rintro e w7 ⟨cv, rfl, hI, hC⟩
            have HO7 := Lib.hid (HA.out.step hI hC)
            have HL7 := Lib.hid (rng_zone HLA.out hC)
            obtain ⟨p1, p2⟩ := HP.out.sent HO.out.len (by omega) zm cv
            rw [HUN.out] at p2
            have P1 := Lib.hid p1
            have P2 := Lib.hid (show ((under (sentS S 5 (n : Int) zm cv [((n : Int), (n : Int) + 1)]) 5 : Nat) : Int) = (u : Int) + 1 by rw [p2]; omega)
            clear p1 p2 hI hC HA HLA d3
            go_wp2_with fail
            refine (underS_any _ _ s _ _ HO7.out.sv.is 5 (inI (by omega))).mono ?_
            rw [P2.out]
            rintro e w9 ⟨rfl, hC⟩
            have HO9 := Lib.hid (HO7.out.idle hC)
            have HL9 := Lib.hid (rng_idle HL7.out hC)
            clear hC HO7 HL7
            go_wp2_with (at_builtin; refine wpList_append_own _ rfl _ _ 69 rfl w0.heap.size 4 i0 (.bool false) 1 1 Try.underlying69 hi hz0 hz1 hz2 rfl (by decide) (.slice At0 n ct) n (bools told) rfl (HO9.out.idle ((Chg.refl _ _).alloc _)).row ⟨w9.heap.size, 0, .none⟩ 1 1 [.bool false] rfl rfl (new1' w9 _ _ _ rfl) (fun y hy => by simp at hy; subst hy; rfl) (by unfold maxLen; omega) (by omega) (by have := HO9.out.sv.chg.size; simp; omega) ?_; intro v' w3 hown' hgrow3 hnil3; have HG1 := Lib.hid (HO9.out.grow ((Chg.refl _ _).alloc _) hgrow3 hown'); have HGL := Lib.hid (HO9.out.keepR ((Chg.refl _ _).alloc _) hgrow3 HL9.out); clear hown' hnil3 hgrow3)
            go_meet
            exact ⟨n + 1, _, _, [], by omega, by go_num, HG1.out.more, P1.out, by simp, HGL.out⟩
          · as_aux_lemma =>
            obtain ⟨u, hu⟩ : ∃ u, under S 5 = u := ⟨_, rfl⟩
            have hub : u ≤ n := by rw [← hu]; exact HP.out.under
            go_wp2_with fail
            refine (underS_any _ _ s _ S HO2.out.sv.is 5 (inI (by omega))).mono ?_
            rw [hu]
            rintro e w5 ⟨rfl, hC⟩
            have HO5 := Lib.hid (HO2.out.idle hC)
            have HL5 := Lib.hid (rng_idle HL0.out hC)
            have d3 := (HOp.out.idle hC).all.2.2.2.1
            have HU := Lib.hid (show under S 5 < 100000 by omega)
            have HA := Lib.hid (HO5.out.idle ((Chg.refl Nowhere w5).alloc (.cells #[.int .i64 (n : Int), .int .i64 ((n : Int) + 1)] 49)))
            have HLA := Lib.hid (rng_idle HL5.out ((Chg.refl Nowhere w5).alloc (.cells #[.int .i64 (n : Int), .int .i64 ((n : Int) + 1)] 49)))
            have HUN := Lib.hid hu
            clear hu hC HO2 HL0 HOp HO5 HL5
            go_wp2_with fail
            refine (sent_any _ _ s _ S HA.out.sv.is HA.out.sv.zone 5 (n : Int) zm (inI (by omega)) _ [((n : Int), (n : Int) + 1)] (Rd.lit w5 2 1 [.int .i64 (n : Int), .int .i64 ((n : Int) + 1)] 49 rfl) (by simp) (fun g o n c' e hm => by
              simp only [Value.slice.injEq, Option.some.injEq, Addr.mk.injEq] at e
              obtain ⟨⟨rfl, -⟩, -⟩ := e
              exact cells_other (alloc_new w5 _) (by decide) hm.2) HU.out).mono ?_
            rintro e w7 ⟨cv, rfl, hI, hC⟩
            have HO7 := Lib.hid (HA.out.step hI hC)
            have HL7 := Lib.hid (rng_zone HLA.out hC)
            obtain ⟨p1, p2⟩ := HP.out.sent HO.out.len (by omega) zm cv
            rw [HUN.out] at p2
            have P1 := Lib.hid p1
            have P2 := Lib.hid (show ((under (sentS S 5 (n : Int) zm cv [((n : Int), (n : Int) + 1)]) 5 : Nat) : Int) = (u : Int) + 1 by rw [p2]; omega)
            clear p1 p2 hI hC HA HLA d3
            go_wp2_with fail
            refine (underS_any _ _ s _ _ HO7.out.sv.is 5 (inI (by omega))).mono ?_
            rw [P2.out]
            rintro e w9 ⟨rfl, hC⟩
            have HO9 := Lib.hid (HO7.out.idle hC)
            have HL9 := Lib.hid (rng_idle HL7.out hC)
            clear hC HO7 HL7
            go_wp2_with (at_builtin; refine wpList_append_own _ rfl _ _ 69 rfl w0.heap.size 4 i0 (.bool false) 1 1 Try.underlying69 hi hz0 hz1 hz2 rfl (by decide) (.slice At0 n ct) n (bools told) rfl (HO9.out.idle ((Chg.refl _ _).alloc _)).row ⟨w9.heap.size, 0, .none⟩ 1 1 [.bool false] rfl rfl (new1' w9 _ _ _ rfl) (fun y hy => by simp at hy; subst hy; rfl) (by unfold maxLen; omega) (by omega) (by have := HO9.out.sv.chg.size; simp; omega) ?_; intro v' w3 hown' hgrow3 hnil3; have HG1 := Lib.hid (HO9.out.grow ((Chg.refl _ _).alloc _) hgrow3 hown'); have HGL := Lib.hid (HO9.out.keepR ((Chg.refl _ _).alloc _) hgrow3 HL9.out); clear hown' hnil3 hgrow3)
            go_meet
            exact ⟨n + 1, _, _, [], by omega, by go_num, HG1.out.more, P1.out, by simp, HGL.out⟩
          · as_aux_lemma =>
            obtain ⟨-, -, d2, d3, d4, -, -⟩ := HOp.out.all
            obtain ⟨pend, p1, p2, p3⟩ := HP.out.got zn l
            have P1 := Lib.hid p1
            have P2 := Lib.hid p2
            clear p1 p2
            go_wp2_with fail
            refine (got_any _ _ s _ S HO2.out.sv.is HO2.out.sv.zone 5 zn zm (inI (by omega)) ZN.out _ l ZL.out (ZR.out.same ((HC0.out.trans' HO2.out.sv.chg))) (fun h0 g' o' n' c' e hm => by
              obtain ⟨-, A2, c2, e2, -, hA2⟩ := ZR.out
              obtain ⟨g2, o2, rfl, hg2, -⟩ := hA2 h0
              rw [e] at e2
              simp only [Value.slice.injEq, Option.some.injEq, Addr.mk.injEq] at e2
              obtain ⟨⟨rfl, -⟩, -⟩ := e2
              have := HC0.out.size
              have := hm.1
              omega)).mono ?_
            rintro e w9 ⟨vg, rfl, r1, r2, r3⟩
            have HO9 := Lib.hid (HO2.out.step r2 r3)
            rw [P2.out] at r1
            have R1 := Lib.hid (own_base r1 HO2.out.sv.chg.size)
            clear r1 r2 r3 HO2 d2 d3 d4
            go_wp2_with fail
            go_meet
            exact ⟨n, _, _, pend, by omega, rfl, HO9.out.more, P1.out, p3, R1.out⟩
          · as_aux_lemma =>
            obtain ⟨-, -, d2, d3, d4, -, -⟩ := HOp.out.all
            obtain ⟨pend, p1, p2, p3⟩ := HP.out.late zm zn
            have P1 := Lib.hid p1
            have P2 := Lib.hid p2
            clear p1 p2
            go_wp2_with fail
            refine (late_any _ _ s _ S HO2.out.sv.is HO2.out.sv.zone 5 zm zn (inI (by omega))).mono ?_
            rintro e w9 ⟨vg, rfl, r1, r2, r3⟩
            have HO9 := Lib.hid (HO2.out.step r2 r3)
            rw [P2.out] at r1
            have R1 := Lib.hid (own_base r1 HO2.out.sv.chg.size)
            clear r1 r2 r3 HO2 d2 d3 d4
            go_wp2_with fail
            go_meet
            exact ⟨n, _, _, pend, by omega, rfl, HO9.out.more, P1.out, p3, R1.out⟩
          · as_aux_lemma =>
            obtain ⟨pend, p1, p2, p3, p4⟩ := HP.out.close
            have P1 := Lib.hid p1
            have P2 := Lib.hid p2
            have U1 := Lib.hid (show under (openS (closeS S 5) 5) 5 = 0 by unfold under; rw [p4]; rfl)
            have W1 := Lib.hid (show window (openS (closeS S 5) 5) 5 = 4 by unfold window; rw [p4])
            clear p1 p2 p4
            go_wp2_with fail
            refine (closeS_any _ _ s _ S HO2.out.sv.is 5 (inI (by omega))).mono ?_
            rintro e w9 ⟨vg, rfl, r1, r2, r3⟩
            have HO9 := Lib.hid (HO2.out.step r2 r3)
            rw [P2.out] at r1
            have R1 := Lib.hid (own_base r1 HO2.out.sv.chg.size)
            clear r1 r2 r3 HO2
            go_wp2_with fail
            refine (openS_any _ _ s _ _ HO9.out.sv.is HO9.out.sv.zone (by omega) 5 (inI (by omega))).mono ?_
            rintro e w10 ⟨rfl, hI, hC⟩
            have HO10 := Lib.hid (HO9.out.step hI hC)
            have R10 := Lib.hid (rng_zone R1.out hC)
            clear hI hC HO9 R1
            go_wp2_with fail
            refine (underS_any _ _ s _ _ HO10.out.sv.is 5 (inI (by omega))).mono ?_
            rw [U1.out]
            rintro e w11 ⟨rfl, hC⟩
            have HO11 := Lib.hid (HO10.out.idle hC)
            have R11 := Lib.hid (rng_idle R10.out hC)
            clear hC HO10 R10
            go_wp2_with fail
            refine (windowS_any _ _ s _ _ HO11.out.sv.is 5 (inI (by omega))).mono ?_
            rw [W1.out]
            rintro e w12 ⟨rfl, hC⟩
            have HO12 := Lib.hid (HO11.out.idle hC)
            have R12 := Lib.hid (rng_idle R11.out hC)
            clear hC HO11 R11
            go_wp2_with fail
            go_meet
            exact ⟨n, _, _, pend, by omega, rfl, HO12.out, P1.out, p3, R12.out⟩
          · as_aux_lemma =>
            go_wp2_with fail
            go_meet
            exact ⟨n, _, _, [], by omega, rfl, HO2.out.more, HP.out, by simp, HL0.out⟩
          · as_aux_lemma =>
            go_wp2_with fail
            go_meet
            exact ⟨n, _, _, [], by omega, rfl, HO2.out.more, HP.out, by simp, HL0.out⟩
        case rest => as_aux_lemma =>
          obtain ⟨n', told', S', pend, hn', rfl, hO, hP, hp, hR⟩ := hcut
          clear c0 c1 c2 c3 c4 c5 c6 ZK ZN ZM ZR ZL HO HP hn hq
          have HO := Lib.hid hO
          have HP := Lib.hid (show Pnd S' n' told' (pend.drop 0) by rw [List.drop_zero]; exact hP)
          have HR := Lib.hid hR
          have htl : (tells pend).length = pend.length := by simp [tells]
          rw [htl] at HR
          obtain ⟨Bl, cl, rfl⟩ : ∃ B c, _ = Value.slice B pend.length c := by
            obtain ⟨-, B, c, h, -, -⟩ := Rd.of_owns HR.out
            exact ⟨B, c, h⟩
          obtain ⟨Bt, ct', rfl⟩ : ∃ B c, _ = Value.slice B n' c := by
            obtain ⟨-, B, c, h, -, -⟩ := Rd.of_owns HO.out.row
            exact ⟨B, c, h⟩
          clear hO hP hR htl
          go_wp2_with fail
          go_loopw [11] (fun i wr => ∃ (j : Nat) (told : List Bool), j ≤ pend.length ∧ i = .int .i64 j ∧ Hid (On1 w0 s (k + 2) n' (.slice Bt n' ct') told S' wr) ∧ Hid (Pnd S' n' told (pend.drop j)) ∧ Hid (wr.ownsRow w0.heap.size 49 2 (.slice Bl pend.length cl) pend.length (flat (tells pend)))) (fun i _ => 200 - (intOf i).toNat)
          case atStart => exact ⟨0, _, by omega, rfl, HO, HP, HR⟩
          case round =>
            clear HO HP HR
            obtain ⟨j, told, hj, rfl, HO, HP, HR⟩ := hrel
            by_cases hj2 : j < pend.length
            · obtain ⟨c, hc⟩ : ∃ c, pend[j]? = some c := ⟨_, List.getElem?_eq_getElem hj2⟩
              have hd : pend.drop j = c :: pend.drop (j + 1) := by
                rw [List.drop_eq_getElem_cons hj2]
                rw [List.getElem?_eq_getElem hj2] at hc
                cases hc; rfl
              rw [hd] at HP
              obtain ⟨c0, c1, c2, hP2⟩ := HP.out.step
              obtain ⟨q, rfl⟩ : ∃ q : Nat, c = (q : Int) := ⟨c.toNat, by omega⟩
              rw [Int.toNat_natCast] at c2 hP2
              obtain ⟨gt, ot, cap', e, hgt, m1, m2, m3, m4⟩ := HO.out.mark c2
              injection e with e1 e2 e3
              subst e1
              subst e3
              clear e2
              have hRd := Rd.of_owns HR.out
              obtain ⟨-, Al, cl', e, -, hA⟩ := hRd
              injection e with e1 e2 e3
              obtain ⟨gl, ol, rfl, hgl, hcl⟩ := hA (by omega)
              subst e1
              subst e3
              clear e2
              have hfl := flat_len (tells pend)
              have htl : (tells pend).length = pend.length := by simp [tells]
              have hf := flat_get (tells pend) j ((q : Int), (q : Int) + 1) (by simp [tells, hc])
              have l1 : wr.cell? ⟨gl, ol + j * 2, .none⟩ = some (.int .i64 (q : Int)) := (hcl (j * 2) (by omega)).trans hf.1
              have l2 : wr.cell? ⟨gl, ol + j * 2 + 1, .none⟩ = some (.int .i64 ((q : Int) + 1)) := by
                rw [Nat.add_assoc]
                exact (hcl (j * 2 + 1) (by omega)).trans hf.2
              have HO2 := Lib.hid m3
              have HR2 := Lib.hid (m4 HR.out)
              have HP2 := Lib.hid hP2
              have hqn : decide ((n' : Int) ≤ (q : Int)) = false := decide_eq_false (by omega)
              have hqn2 : q < n' := by omega
              have hq100 : q < 200 := by omega
              clear hcl hf hfl htl hd hc hP2 m3 m4 c2 HP HR HO hA c0 c1
              go_wp2_with fail
              go_roundw
              case rel => exact ⟨j + 1, _, by omega, by go_num, HO2, HP2, HR2⟩
              case measure => simp [intOf]; omega
            · obtain rfl : j = pend.length := by omega
              rw [List.drop_length] at HP
              obtain ⟨u, hu⟩ : ∃ u, under S' 5 = u := ⟨_, rfl⟩
              obtain ⟨x, hx⟩ : ∃ x, window S' 5 = x := ⟨_, rfl⟩
              have hub : decide ((n' : Int) < (u : Int)) = false := decide_eq_false (by have := HP.out.under; omega)
              have hun : u ≤ n' := by have := HP.out.under; omega
              have hub2 : decide (n' < u) = false := decide_eq_false (by omega)
              have hxb := HP.out.window HO.out.sv.is
              rw [hx] at hxb
              have hx1 : decide (x < 2) = false := decide_eq_false (by omega)
              have hx2 : decide (32 < x) = false := decide_eq_false (by omega)
              have HU := Lib.hid hu
              have HX := Lib.hid hx
              clear hu hx hxb HR
              go_wp2_with fail
              refine (underS_any _ _ s _ _ HO.out.sv.is 5 (inI (by omega))).mono ?_
              rw [HU.out]
              rintro e w5 ⟨rfl, hC⟩
              have HO5 := Lib.hid (HO.out.idle hC)
              clear hC HO
              go_wp2_with fail
              refine (windowS_any _ _ s _ _ HO5.out.sv.is 5 (inI (by omega))).mono ?_
              rw [HX.out]
              rintro e w6 ⟨rfl, hC⟩
              have HO6 := Lib.hid (HO5.out.idle hC)
              clear hC HO5
              go_wp2_with fail
              refine (windowS_any _ _ s _ _ HO6.out.sv.is 5 (inI (by omega))).mono ?_
              rw [HX.out]
              rintro e w7 ⟨rfl, hC⟩
              have HO7 := Lib.hid (HO6.out.idle hC)
              clear hC HO6
              go_wp2_with fail
              go_roundw
              case rel => exact ⟨k + 1, n', told, S', by omega, by omega, by omega, by go_num, rfl, HO7, HP⟩
              case measure => simp [intOf]; omega
      · go_wp2_with fail
        go_ret
        exact ⟨rfl, HC0.out.trans' HO.out.sv.chg⟩
    · go_wp2_with fail
      go_ret
      exact ⟨rfl, HC0.out.trans' HO.out.sv.chg⟩
end Go.Proofs.Ytiijnhgafadokaa
