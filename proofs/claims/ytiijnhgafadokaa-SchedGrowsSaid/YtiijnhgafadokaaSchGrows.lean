/-
  SchedGrows, walked: it returns true.
-/
import Derived.Test.YtiijnhgafadokaaSchGrPure
namespace Go.Proofs.Ytiijnhgafadokaa
open Go.RowKit
set_option linter.unusedVariables false

set_option maxHeartbeats 3200000 in
set_option maxRecDepth 100000 in
theorem grows_walk (n : Int) (w : World) (hn : InI n) : Calls Try.prog 11 #[.int .i64 n] w (ShownSTo w) := by
  have HN := Lib.hid hn
  clear hn
  go_enter Try.func11, Try.ntmps11
  go_wp2_with fail
  refine (shownS_any _).mono ?_
  rintro e w0 ⟨rfl, hC0⟩
  have HC0 := Lib.hid hC0
  clear hC0
  go_wp2_with fail
  refine (newS_any _ _).mono ?_
  rintro e w1 ⟨s, rfl, hI, hC⟩
  have H1 := Lib.hid (show Sv w0 s 0 (newS 0) w1 from ⟨hI, hC⟩)
  clear hI hC
  go_wp2_with fail
  refine (openS_any _ _ s 0 _ H1.out.is H1.out.zone (by omega) 3 (inI (by omega))).mono ?_
  rintro e w2 ⟨rfl, hI, hC⟩
  have H2 := Lib.hid (H1.out.step hI hC)
  have V2 := Lib.hid (show (openS (newS 0) 3).op 3 = some ⟨min 32 (4 + ((0 : Nat) : Int)), ((0 : Nat) : Int), []⟩ from rfl)
  clear hI hC H1
  go_wp2_with fail
  refine (kind21_any n 60 _ HN.out (by omega)).mono ?_
  rintro e w' ⟨k, hk, rfl, rfl⟩
  go_wp2_with fail
  go_loopw [6] (fun i wr => ∃ (j : Nat) (S : Sch), j ≤ k ∧ i = .int .i64 j ∧ Hid (Sv w0 s 1 S wr) ∧ Hid (S.op 3 = some ⟨min 32 (4 + (j : Int)), (j : Int), []⟩)) (fun i _ => 60 - (intOf i).toNat)
  case atStart => exact ⟨0, _, by omega, rfl, H2, V2⟩
  case round =>
    clear H2 V2
    obtain ⟨j, S, hj, rfl, H, V⟩ := hrel
    by_cases hj2 : j < k
    · as_aux_lemma =>
      have HU := Lib.hid (show under S 3 < 100000 by unfold under; rw [V.out]; simp)
      go_wp2_with fail
      refine (sent_any _ _ s 1 S H.out.is H.out.zone 3 (j : Int) 10 (inI (by omega)) _ [] (Rd.nil _ 2) (by simp) (fun g o n c' e hm => by cases e) HU.out).mono ?_
      rintro e w7 ⟨cv, rfl, hI, hC⟩
      have H7 := Lib.hid (H.out.step hI hC)
      obtain ⟨g1, g2, g3⟩ := gr_got (gr_sent V.out (by omega) 10 cv [])
      have G1 := Lib.hid g1
      have G2 := Lib.hid g2
      have G3 := Lib.hid g3
      clear hI hC g1 g2 g3
      go_wp2_with fail
      refine (got_any _ _ s 1 _ H7.out.is H7.out.zone 3 (j : Int) 17 (inI (by omega)) (inI (by omega)) _ [] (by simp) (Rd.nil _ 2) (fun h0 => by simp at h0)).mono ?_
      rintro e w9 ⟨vg, rfl, r1, r2, r3⟩
      have H9 := Lib.hid (H7.out.step r2 r3)
      rw [G1.out] at r1
      rw [G2.out]
      obtain ⟨-, Ag, cg, rfl, -, -⟩ := Rd.of_owns r1
      clear r1 r2 r3 H7
      have U := Lib.hid (show under (gotS (sentS S 3 (j : Int) 10 cv []) 3 (j : Int) []) 3 = 0 by unfold under; rw [G3.out]; rfl)
      go_wp2_with fail
      refine (underS_any _ _ s 1 _ H9.out.is 3 (inI (by omega))).mono ?_
      rw [U.out]
      rintro e w11 ⟨rfl, hC⟩
      have H11 := Lib.hid (H9.out.idle hC)
      clear hC H9
      go_wp2_with fail
      go_roundw
      case rel => exact ⟨j + 1, _, by omega, by go_num, H11, Lib.hid (by rw [G3.out]; congr 2; omega)⟩
      case measure => simp [intOf]; omega
    · obtain rfl : j = k := by omega
      clear hj2
      have W1 := Lib.hid (show window S 3 = min 32 (4 + (j : Int)) by unfold window; rw [V.out])
      obtain ⟨x, hx⟩ : ∃ x, x = 4 + (j : Int) := ⟨_, rfl⟩
      have hwr : IntKind.i64.wrap (4 + (j : Int)) = x := by rw [hx]; exact wrapI ⟨by omega, by omega⟩
      have hxb : 4 ≤ x ∧ x < 64 := by omega
      have HX := Lib.hid hx
      rw [← hx] at W1
      clear hx hj
      rcases (by omega : x < 32 ∨ x = 32 ∨ 32 < x) with hh | rfl | hh
      · as_aux_lemma =>
        have W2 := Lib.hid (W1.out.trans (show min 32 x = x by omega))
        go_wp2_with fail
        refine (windowS_any _ _ s 1 _ H.out.is 3 (inI (by omega))).mono ?_
        rw [W2.out]
        rintro e w11 ⟨rfl, hC⟩
        have H11 := Lib.hid (H.out.idle hC)
        have V11 := Lib.hid (show S.op 3 = some ⟨x, ((j + 0 : Nat) : Int), []⟩ by rw [V.out]; congr 2; have := HX.out; omega)
        clear hC H V W1 W2 HX hwr
        go_wp2_with fail
        go_loopw [9, 10] (fun y i wr => ∃ (j2 : Nat) (S : Sch) (y0 : Int), j2 ≤ 7 ∧ y = .int .i64 y0 ∧ 2 ≤ y0 ∧ y0 ≤ 32 ∧ i = .int .i64 j2 ∧ Hid (Sv w0 s 1 S wr) ∧ Hid (S.op 3 = some ⟨y0, ((j + j2 : Nat) : Int), []⟩)) (fun _ i _ => 7 - (intOf i).toNat)
        case atStart => exact ⟨0, _, _, by omega, rfl, by omega, by omega, rfl, H11, V11⟩
        case round =>
          clear H11 V11
          try clear hh
          try clear hxb
          obtain ⟨j2, S2, y0, hj2, rfl, hy0, hy1, rfl, H, V⟩ := hrel
          by_cases hj3 : j2 < 7
          · have HU := Lib.hid (show under S2 3 < 100000 by unfold under; rw [V.out]; simp)
            have HA := Lib.hid (H.out.idle ((Chg.refl Nowhere wr).alloc (.cells #[.int .i64 (j2 : Int), .int .i64 ((j2 : Int) + 1)] 49)))
            obtain ⟨c, hc⟩ : ∃ c : Nat, c = j + j2 := ⟨_, rfl⟩
            have hwc : IntKind.i64.wrap ((j : Int) + (j2 : Int)) = (c : Int) := by rw [hc]; exact wrapI ⟨by omega, by omega⟩
            have hcb : c ≤ 100 := by omega
            rw [← hc] at V
            have HC := Lib.hid hc
            clear hc
            go_wp2_with fail
            refine (sent_any _ _ s 1 S2 HA.out.is HA.out.zone 3 (c : Int) 20 (inI (by omega)) _ [((j2 : Int), (j2 : Int) + 1)] (Rd.lit wr 2 1 [.int .i64 (j2 : Int), .int .i64 ((j2 : Int) + 1)] 49 rfl) (by simp) (fun g o n c' e hm => by
              simp only [Value.slice.injEq, Option.some.injEq, Addr.mk.injEq] at e
              obtain ⟨⟨rfl, -⟩, -⟩ := e
              exact cells_other (alloc_new wr _) (by decide) hm.2) HU.out).mono ?_
            rintro e w7 ⟨cv, rfl, hI, hC⟩
            have H7 := Lib.hid (HA.out.step hI hC)
            obtain ⟨g1, g2⟩ := gr_late (gr_sent V.out (by omega) 20 cv [((j2 : Int), (j2 : Int) + 1)])
            have G1 := Lib.hid g1
            have G2 := Lib.hid g2
            clear hI hC g1 g2 HA HU
            go_wp2_with fail
            refine (late_any _ _ s 1 _ H7.out.is H7.out.zone 3 30 10 (inI (by omega))).mono ?_
            rintro e w8 ⟨vl, rfl, r1, r2, r3⟩
            have H8 := Lib.hid (H7.out.step r2 r3)
            rw [G1.out] at r1
            obtain ⟨-, Al, cl, rfl, -, -⟩ := Rd.of_owns r1
            clear r1 r2 r3 H7
            obtain ⟨z, hz⟩ : ∃ z, y0 / 2 = z := ⟨_, rfl⟩
            have hzb : 1 ≤ z ∧ z ≤ 16 := by omega
            rw [hz] at G2
            have W3 := Lib.hid (show window (lateS (sentS S2 3 (c : Int) 20 cv [((j2 : Int), (j2 : Int) + 1)]) 3 30 10) 3 = max 2 z by unfold window; rw [G2.out])
            rcases (by omega : z < 2 ∨ z = 2 ∨ 2 < z) with hh | rfl | hh
            · rw [show max 2 z = 2 by omega] at W3 G2
              go_wp2_with fail
              refine (windowS_any _ _ s 1 _ H8.out.is 3 (inI (by omega))).mono ?_
              rw [W3.out]
              rintro e w11 ⟨rfl, hC⟩
              have H11 := Lib.hid (H8.out.idle hC)
              clear hC
              go_wp2_with fail
              go_roundw
              case rel => exact ⟨j2 + 1, _, _, by omega, rfl, by omega, by omega, by go_num, H11, Lib.hid (by rw [G2.out, HC.out]; rfl)⟩
              case measure => simp [intOf]; omega
            · rw [show max 2 (2 : Int) = 2 by omega] at W3 G2
              go_wp2_with fail
              refine (windowS_any _ _ s 1 _ H8.out.is 3 (inI (by omega))).mono ?_
              rw [W3.out]
              rintro e w11 ⟨rfl, hC⟩
              have H11 := Lib.hid (H8.out.idle hC)
              clear hC
              go_wp2_with fail
              go_roundw
              case rel => exact ⟨j2 + 1, _, _, by omega, rfl, by omega, by omega, by go_num, H11, Lib.hid (by rw [G2.out, HC.out]; rfl)⟩
              case measure => simp [intOf]; omega
            · rw [show max 2 z = z by omega] at W3 G2
              go_wp2_with fail
              refine (windowS_any _ _ s 1 _ H8.out.is 3 (inI (by omega))).mono ?_
              rw [W3.out]
              rintro e w11 ⟨rfl, hC⟩
              have H11 := Lib.hid (H8.out.idle hC)
              clear hC
              go_wp2_with fail
              go_roundw
              case rel => exact ⟨j2 + 1, _, _, by omega, rfl, by omega, by omega, by go_num, H11, Lib.hid (by rw [G2.out, HC.out]; rfl)⟩
              case measure => simp [intOf]; omega
          · go_wp2_with fail
            go_ret
            exact ⟨rfl, HC0.out.trans' H.out.chg⟩
      · as_aux_lemma =>
        have W2 := Lib.hid (W1.out.trans (show min 32 (32 : Int) = 32 by omega))
        go_wp2_with fail
        refine (windowS_any _ _ s 1 _ H.out.is 3 (inI (by omega))).mono ?_
        rw [W2.out]
        rintro e w11 ⟨rfl, hC⟩
        have H11 := Lib.hid (H.out.idle hC)
        have V11 := Lib.hid (show S.op 3 = some ⟨32, ((j + 0 : Nat) : Int), []⟩ by rw [V.out]; congr 2; have := HX.out; omega)
        clear hC H V W1 W2 HX hwr
        go_wp2_with fail
        go_loopw [9, 10] (fun y i wr => ∃ (j2 : Nat) (S : Sch) (y0 : Int), j2 ≤ 7 ∧ y = .int .i64 y0 ∧ 2 ≤ y0 ∧ y0 ≤ 32 ∧ i = .int .i64 j2 ∧ Hid (Sv w0 s 1 S wr) ∧ Hid (S.op 3 = some ⟨y0, ((j + j2 : Nat) : Int), []⟩)) (fun _ i _ => 7 - (intOf i).toNat)
        case atStart => exact ⟨0, _, _, by omega, rfl, by omega, by omega, rfl, H11, V11⟩
        case round =>
          clear H11 V11
          try clear hh
          try clear hxb
          obtain ⟨j2, S2, y0, hj2, rfl, hy0, hy1, rfl, H, V⟩ := hrel
          by_cases hj3 : j2 < 7
          · have HU := Lib.hid (show under S2 3 < 100000 by unfold under; rw [V.out]; simp)
            have HA := Lib.hid (H.out.idle ((Chg.refl Nowhere wr).alloc (.cells #[.int .i64 (j2 : Int), .int .i64 ((j2 : Int) + 1)] 49)))
            obtain ⟨c, hc⟩ : ∃ c : Nat, c = j + j2 := ⟨_, rfl⟩
            have hwc : IntKind.i64.wrap ((j : Int) + (j2 : Int)) = (c : Int) := by rw [hc]; exact wrapI ⟨by omega, by omega⟩
            have hcb : c ≤ 100 := by omega
            rw [← hc] at V
            have HC := Lib.hid hc
            clear hc
            go_wp2_with fail
            refine (sent_any _ _ s 1 S2 HA.out.is HA.out.zone 3 (c : Int) 20 (inI (by omega)) _ [((j2 : Int), (j2 : Int) + 1)] (Rd.lit wr 2 1 [.int .i64 (j2 : Int), .int .i64 ((j2 : Int) + 1)] 49 rfl) (by simp) (fun g o n c' e hm => by
              simp only [Value.slice.injEq, Option.some.injEq, Addr.mk.injEq] at e
              obtain ⟨⟨rfl, -⟩, -⟩ := e
              exact cells_other (alloc_new wr _) (by decide) hm.2) HU.out).mono ?_
            rintro e w7 ⟨cv, rfl, hI, hC⟩
            have H7 := Lib.hid (HA.out.step hI hC)
            obtain ⟨g1, g2⟩ := gr_late (gr_sent V.out (by omega) 20 cv [((j2 : Int), (j2 : Int) + 1)])
            have G1 := Lib.hid g1
            have G2 := Lib.hid g2
            clear hI hC g1 g2 HA HU
            go_wp2_with fail
            refine (late_any _ _ s 1 _ H7.out.is H7.out.zone 3 30 10 (inI (by omega))).mono ?_
            rintro e w8 ⟨vl, rfl, r1, r2, r3⟩
            have H8 := Lib.hid (H7.out.step r2 r3)
            rw [G1.out] at r1
            obtain ⟨-, Al, cl, rfl, -, -⟩ := Rd.of_owns r1
            clear r1 r2 r3 H7
            obtain ⟨z, hz⟩ : ∃ z, y0 / 2 = z := ⟨_, rfl⟩
            have hzb : 1 ≤ z ∧ z ≤ 16 := by omega
            rw [hz] at G2
            have W3 := Lib.hid (show window (lateS (sentS S2 3 (c : Int) 20 cv [((j2 : Int), (j2 : Int) + 1)]) 3 30 10) 3 = max 2 z by unfold window; rw [G2.out])
            rcases (by omega : z < 2 ∨ z = 2 ∨ 2 < z) with hh | rfl | hh
            · rw [show max 2 z = 2 by omega] at W3 G2
              go_wp2_with fail
              refine (windowS_any _ _ s 1 _ H8.out.is 3 (inI (by omega))).mono ?_
              rw [W3.out]
              rintro e w11 ⟨rfl, hC⟩
              have H11 := Lib.hid (H8.out.idle hC)
              clear hC
              go_wp2_with fail
              go_roundw
              case rel => exact ⟨j2 + 1, _, _, by omega, rfl, by omega, by omega, by go_num, H11, Lib.hid (by rw [G2.out, HC.out]; rfl)⟩
              case measure => simp [intOf]; omega
            · rw [show max 2 (2 : Int) = 2 by omega] at W3 G2
              go_wp2_with fail
              refine (windowS_any _ _ s 1 _ H8.out.is 3 (inI (by omega))).mono ?_
              rw [W3.out]
              rintro e w11 ⟨rfl, hC⟩
              have H11 := Lib.hid (H8.out.idle hC)
              clear hC
              go_wp2_with fail
              go_roundw
              case rel => exact ⟨j2 + 1, _, _, by omega, rfl, by omega, by omega, by go_num, H11, Lib.hid (by rw [G2.out, HC.out]; rfl)⟩
              case measure => simp [intOf]; omega
            · rw [show max 2 z = z by omega] at W3 G2
              go_wp2_with fail
              refine (windowS_any _ _ s 1 _ H8.out.is 3 (inI (by omega))).mono ?_
              rw [W3.out]
              rintro e w11 ⟨rfl, hC⟩
              have H11 := Lib.hid (H8.out.idle hC)
              clear hC
              go_wp2_with fail
              go_roundw
              case rel => exact ⟨j2 + 1, _, _, by omega, rfl, by omega, by omega, by go_num, H11, Lib.hid (by rw [G2.out, HC.out]; rfl)⟩
              case measure => simp [intOf]; omega
          · go_wp2_with fail
            go_ret
            exact ⟨rfl, HC0.out.trans' H.out.chg⟩
      · as_aux_lemma =>
        have W2 := Lib.hid (W1.out.trans (show min 32 x = 32 by omega))
        go_wp2_with fail
        refine (windowS_any _ _ s 1 _ H.out.is 3 (inI (by omega))).mono ?_
        rw [W2.out]
        rintro e w11 ⟨rfl, hC⟩
        have H11 := Lib.hid (H.out.idle hC)
        have V11 := Lib.hid (show S.op 3 = some ⟨32, ((j + 0 : Nat) : Int), []⟩ by rw [V.out]; congr 2; have := HX.out; omega)
        clear hC H V W1 W2 HX hwr
        go_wp2_with fail
        go_loopw [9, 10] (fun y i wr => ∃ (j2 : Nat) (S : Sch) (y0 : Int), j2 ≤ 7 ∧ y = .int .i64 y0 ∧ 2 ≤ y0 ∧ y0 ≤ 32 ∧ i = .int .i64 j2 ∧ Hid (Sv w0 s 1 S wr) ∧ Hid (S.op 3 = some ⟨y0, ((j + j2 : Nat) : Int), []⟩)) (fun _ i _ => 7 - (intOf i).toNat)
        case atStart => exact ⟨0, _, _, by omega, rfl, by omega, by omega, rfl, H11, V11⟩
        case round =>
          clear H11 V11
          try clear hh
          try clear hxb
          obtain ⟨j2, S2, y0, hj2, rfl, hy0, hy1, rfl, H, V⟩ := hrel
          by_cases hj3 : j2 < 7
          · have HU := Lib.hid (show under S2 3 < 100000 by unfold under; rw [V.out]; simp)
            have HA := Lib.hid (H.out.idle ((Chg.refl Nowhere wr).alloc (.cells #[.int .i64 (j2 : Int), .int .i64 ((j2 : Int) + 1)] 49)))
            obtain ⟨c, hc⟩ : ∃ c : Nat, c = j + j2 := ⟨_, rfl⟩
            have hwc : IntKind.i64.wrap ((j : Int) + (j2 : Int)) = (c : Int) := by rw [hc]; exact wrapI ⟨by omega, by omega⟩
            have hcb : c ≤ 100 := by omega
            rw [← hc] at V
            have HC := Lib.hid hc
            clear hc
            go_wp2_with fail
            refine (sent_any _ _ s 1 S2 HA.out.is HA.out.zone 3 (c : Int) 20 (inI (by omega)) _ [((j2 : Int), (j2 : Int) + 1)] (Rd.lit wr 2 1 [.int .i64 (j2 : Int), .int .i64 ((j2 : Int) + 1)] 49 rfl) (by simp) (fun g o n c' e hm => by
              simp only [Value.slice.injEq, Option.some.injEq, Addr.mk.injEq] at e
              obtain ⟨⟨rfl, -⟩, -⟩ := e
              exact cells_other (alloc_new wr _) (by decide) hm.2) HU.out).mono ?_
            rintro e w7 ⟨cv, rfl, hI, hC⟩
            have H7 := Lib.hid (HA.out.step hI hC)
            obtain ⟨g1, g2⟩ := gr_late (gr_sent V.out (by omega) 20 cv [((j2 : Int), (j2 : Int) + 1)])
            have G1 := Lib.hid g1
            have G2 := Lib.hid g2
            clear hI hC g1 g2 HA HU
            go_wp2_with fail
            refine (late_any _ _ s 1 _ H7.out.is H7.out.zone 3 30 10 (inI (by omega))).mono ?_
            rintro e w8 ⟨vl, rfl, r1, r2, r3⟩
            have H8 := Lib.hid (H7.out.step r2 r3)
            rw [G1.out] at r1
            obtain ⟨-, Al, cl, rfl, -, -⟩ := Rd.of_owns r1
            clear r1 r2 r3 H7
            obtain ⟨z, hz⟩ : ∃ z, y0 / 2 = z := ⟨_, rfl⟩
            have hzb : 1 ≤ z ∧ z ≤ 16 := by omega
            rw [hz] at G2
            have W3 := Lib.hid (show window (lateS (sentS S2 3 (c : Int) 20 cv [((j2 : Int), (j2 : Int) + 1)]) 3 30 10) 3 = max 2 z by unfold window; rw [G2.out])
            rcases (by omega : z < 2 ∨ z = 2 ∨ 2 < z) with hh | rfl | hh
            · rw [show max 2 z = 2 by omega] at W3 G2
              go_wp2_with fail
              refine (windowS_any _ _ s 1 _ H8.out.is 3 (inI (by omega))).mono ?_
              rw [W3.out]
              rintro e w11 ⟨rfl, hC⟩
              have H11 := Lib.hid (H8.out.idle hC)
              clear hC
              go_wp2_with fail
              go_roundw
              case rel => exact ⟨j2 + 1, _, _, by omega, rfl, by omega, by omega, by go_num, H11, Lib.hid (by rw [G2.out, HC.out]; rfl)⟩
              case measure => simp [intOf]; omega
            · rw [show max 2 (2 : Int) = 2 by omega] at W3 G2
              go_wp2_with fail
              refine (windowS_any _ _ s 1 _ H8.out.is 3 (inI (by omega))).mono ?_
              rw [W3.out]
              rintro e w11 ⟨rfl, hC⟩
              have H11 := Lib.hid (H8.out.idle hC)
              clear hC
              go_wp2_with fail
              go_roundw
              case rel => exact ⟨j2 + 1, _, _, by omega, rfl, by omega, by omega, by go_num, H11, Lib.hid (by rw [G2.out, HC.out]; rfl)⟩
              case measure => simp [intOf]; omega
            · rw [show max 2 z = z by omega] at W3 G2
              go_wp2_with fail
              refine (windowS_any _ _ s 1 _ H8.out.is 3 (inI (by omega))).mono ?_
              rw [W3.out]
              rintro e w11 ⟨rfl, hC⟩
              have H11 := Lib.hid (H8.out.idle hC)
              clear hC
              go_wp2_with fail
              go_roundw
              case rel => exact ⟨j2 + 1, _, _, by omega, rfl, by omega, by omega, by go_num, H11, Lib.hid (by rw [G2.out, HC.out]; rfl)⟩
              case measure => simp [intOf]; omega
          · go_wp2_with fail
            go_ret
            exact ⟨rfl, HC0.out.trans' H.out.chg⟩
end Go.Proofs.Ytiijnhgafadokaa
