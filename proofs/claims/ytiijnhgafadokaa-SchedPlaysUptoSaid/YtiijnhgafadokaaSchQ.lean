/-
  The document's examples of layer 21, walked: shown.
-/
import Derived.Test.YtiijnhgafadokaaSchP
namespace Go.Proofs.Ytiijnhgafadokaa
open Go.RowKit
set_option linter.unusedVariables false

theorem inI {k : Int} (h : -9223372036854775808 ≤ k ∧ k ≤ 9223372036854775807) : InI k := h
theorem pick12 (w0 : World) (s N : Nat) (S : Sch) (x : Int) (w : World) (H : Sv w0 s N S w) (hV : View S x (some ⟨4, 0, []⟩) (some ⟨4, 0, []⟩)) (hx : x = -1 ∨ x = 1 ∨ x = 2) (y : Int) (hy : y = if x = 1 then 2 else 1) :
    Calls Try.prog 44 #[.pointer (some ⟨s, 0, .none⟩), .slice (some ⟨w.heap.size, 0, .none⟩) 2 2, .slice .none 0 0] (w.alloc (.cells #[.int .i64 1, .int .i64 2] 3))
      fun e w' => e = .returned (.tuple #[.int .i64 y, .bool true]) ∧ ∃ S', Sv w0 s N S' w' ∧ View S' y (some ⟨4, 0, []⟩) (some ⟨4, 0, []⟩) := by
  have H' := H.idle ((Chg.refl Nowhere w).alloc (.cells #[.int .i64 1, .int .i64 2] 3))
  obtain ⟨p1, p2⟩ := hV.pick hx
  refine (pick_any _ _ s N S H'.is _ _ [1, 2] [] (Rd.lit w 1 2 [.int .i64 1, .int .i64 2] 3 rfl) (Rd.nil _ 1) (fun q hq => by
    simp at hq; rcases hq with rfl | rfl <;> exact inI (by omega)) (by simp) (by simp)).mono ?_
  rintro e w' ⟨h1, h2, h3⟩
  simp only [List.length_cons, List.length_nil, Nat.zero_add] at h1 h2
  rw [show (1 + 1 : Nat) = 2 from rfl, p1, ← hy] at h1 h2
  rw [← hy] at p2
  have hy0 : y = 1 ∨ y = 2 := by rw [hy]; split <;> simp
  refine ⟨?_, _, H'.step h2 h3, p2⟩
  rw [h1]
  rcases hy0 with rfl | rfl <;> rfl
theorem pick1 (w0 : World) (s N : Nat) (S : Sch) (w : World) (H : Sv w0 s N S w) {l : List Rec} {x : Int} {o : Option Fl} (hV : View S x (some ⟨4, ((5 : Nat) : Int), l⟩) o) {v0 v1 v2 v3 v4 : Value} (hl : l = five v0 v1 v2 v3 v4 := by rfl) :
    Calls Try.prog 44 #[.pointer (some ⟨s, 0, .none⟩), .slice (some ⟨w.heap.size, 0, .none⟩) 1 1, .slice .none 0 0] (w.alloc (.cells #[.int .i64 1] 3))
      fun e w' => e = .returned (.tuple #[.int .i64 0, .bool false]) ∧ Sv w0 s N S w' := by
  have H' := H.idle ((Chg.refl Nowhere w).alloc (.cells #[.int .i64 1] 3))
  have e : (pkTo S [1] [] 1).1 = -1 := by
    simp only [pkTo, List.getElem?_cons_zero, pkStep, hV.p1]
    rw [hl]; rfl
  refine (pick_any _ _ s N S H'.is _ _ [1] [] (Rd.lit w 1 1 [.int .i64 1] 3 rfl) (Rd.nil _ 1) (fun q hq => by
    simp at hq; subst hq; exact inI (by omega)) (by simp) (by simp)).mono ?_
  rintro e' w' ⟨h1, h2, h3⟩
  simp only [List.length_cons, List.length_nil, Nat.zero_add] at h1 h2
  rw [e] at h1 h2
  exact ⟨by rw [h1]; rfl, H'.step h2 h3⟩
set_option maxHeartbeats 3200000 in
set_option maxRecDepth 100000 in
theorem shownS_any (w : World) : Calls Try.prog 40 #[] w (ShownSTo w) := by
  go_enter Try.func40, Try.ntmps40
  go_wp2_with fail
  refine (newS_any _ _).mono ?_
  rintro e w1 ⟨s, rfl, hI, hC⟩
  have H1 := Lib.hid (show Sv w s 0 (newS 1) w1 from ⟨hI, hC⟩)
  clear hI hC
  go_wp2_with fail
  refine (openS_any _ _ s 0 _ H1.out.is H1.out.zone (by omega) 1 (inI (by omega))).mono ?_
  rintro e w2 ⟨rfl, hI, hC⟩
  have H2 := Lib.hid (H1.out.step hI hC)
  have V2 := Lib.hid view_new.open1
  clear hI hC H1
  go_wp2_with fail
  refine (openS_any _ _ s _ _ H2.out.is H2.out.zone (by omega) 2 (inI (by omega))).mono ?_
  rintro e w3 ⟨rfl, hI, hC⟩
  have H3 := Lib.hid (H2.out.step hI hC)
  have V3 := Lib.hid V2.out.open2
  clear hI hC H2 V2
  go_wp2_with fail
  refine (pick12 w s _ _ (-1) w3 H3.out V3.out (.inl rfl) 1 rfl).mono ?_
  rintro e w4 ⟨rfl, S4, h4, v4⟩
  have H4 := Lib.hid h4
  have V4 := Lib.hid v4
  clear h4 v4 H3 V3
  go_wp2_with fail
  refine (pick12 w s _ _ 1 w4 H4.out V4.out (.inr (.inl rfl)) 2 rfl).mono ?_
  rintro e w5 ⟨rfl, S5, h5, v5⟩
  have H5 := Lib.hid h5
  have V5 := Lib.hid v5
  clear h5 v5 H4 V4
  go_wp2_with fail
  refine (pick12 w s _ _ 2 w5 H5.out V5.out (.inr (.inr rfl)) 1 rfl).mono ?_
  rintro e w6 ⟨rfl, S6, h6, v6⟩
  have H6 := Lib.hid h6
  have V6 := Lib.hid v6
  clear h6 v6 H5 V5
  go_wp2_with fail
  go_loopw [8] (fun i wr => ∃ (k : Nat) (S : Sch) (l : List Rec), k ≤ 5 ∧ i = .int .i64 k ∧ Hid (Sv w s 2 S wr) ∧ Hid (View S 1 (some ⟨4, (k : Int), l⟩) (some ⟨4, 0, []⟩)) ∧ Hid (FiveTo k l)) (fun i _ => 5 - (intOf i).toNat)
  case atStart => exact ⟨0, S6, [], by omega, rfl, H6, V6, Lib.hid rfl⟩
  case round =>
    clear H6 V6
    obtain ⟨k, S, l, hk, rfl, H, V, HF⟩ := hrel
    by_cases hk2 : k < 5
    · have HU := Lib.hid (show under S 1 < 100000 by unfold under; rw [V.out.p1]; simp only; rw [fiveTo_len k l HF.out]; omega)
      have HA := Lib.hid (H.out.idle ((Chg.refl Nowhere wr).alloc (.cells #[.int .i64 (k : Int), .int .i64 ((k : Int) + 1)] 49)))
      go_wp2_with fail
      refine (sent_any _ _ s 2 S HA.out.is HA.out.zone 1 (k : Int) 10 (inI (by omega)) _ [((k : Int), (k : Int) + 1)] (Rd.lit wr 2 1 [.int .i64 (k : Int), .int .i64 ((k : Int) + 1)] 49 rfl) (by simp) (fun g o n c' e hm => by
        simp only [Value.slice.injEq, Option.some.injEq, Addr.mk.injEq] at e
        obtain ⟨⟨rfl, -⟩, -⟩ := e
        exact cells_other (alloc_new wr _) (by decide) hm.2) HU.out).mono ?_
      rintro e w7 ⟨cv, rfl, hI, hC⟩
      have H7 := Lib.hid (HA.out.step hI hC)
      have V7 := Lib.hid (V.out.sent hk2 cv)
      have F7 := Lib.hid (show FiveTo (k + 1) (l ++ [⟨(k : Int), 10, cv, [((k : Int), (k : Int) + 1)]⟩]) from ⟨l, cv, HF.out, rfl⟩)
      clear hI hC
      go_wp2_with fail
      go_roundw
      case rel => exact ⟨k + 1, _, _, by omega, by go_num, H7, V7, F7⟩
      case measure => simp [intOf]; omega
    · obtain rfl : k = 5 := by omega
      obtain ⟨v0, v1, v2, v3, v4, rfl⟩ := five_all HF.out
      have HU := Lib.hid (show under S 1 = 5 by unfold under; rw [V.out.p1]; rfl)
      go_wp2_with fail
      refine (underS_any _ _ s 2 S H.out.is 1 (inI (by omega))).mono ?_
      rw [HU.out]
      rintro e w7 ⟨rfl, hC⟩
      have H7 := Lib.hid (H.out.idle hC)
      clear hC
      go_wp2_with fail
      refine (pick1 w s _ _ w7 H7.out V.out (v0 := v0) (v1 := v1) (v2 := v2) (v3 := v3) (v4 := v4)).mono ?_
      rintro e w8 ⟨rfl, h8⟩
      have H8 := Lib.hid h8
      clear h8 H7 H
      obtain ⟨q1, q2, q3⟩ := sh_got V.out.p1
      have Q1 := Lib.hid q1
      have Q2 := Lib.hid q2
      have Q3 := Lib.hid q3
      clear q1 q2 q3
      go_wp2_with fail
      have HA := Lib.hid (H8.out.idle ((Chg.refl Nowhere w8).alloc (.cells #[.int .i64 3, .int .i64 4] 49)))
      refine (got_any _ _ s 2 S HA.out.is HA.out.zone 1 4 25 (inI (by omega)) (inI (by omega)) _ [(3, 4)] (by simp) (Rd.lit w8 2 1 [.int .i64 3, .int .i64 4] 49 rfl) (fun _ g o n c' e hm => by
        simp only [Value.slice.injEq, Option.some.injEq, Addr.mk.injEq] at e
        obtain ⟨⟨rfl, -⟩, -⟩ := e
        exact cells_other (alloc_new w8 _) (by decide) hm.2)).mono ?_
      rintro e w9 ⟨vg, rfl, r1, r2, r3⟩
      have H9 := Lib.hid (HA.out.step r2 r3)
      rw [Q1.out] at r1
      rw [Q2.out]
      have R1 := Lib.hid (Rd.of_owns r1)
      clear r1 r2 r3 HA H8
      go_wp2_with fail
      refine (same_any _ _ [(0, 1), (1, 2)] [(0, 1), (1, 2)] _ (R1.out.same ((Chg.refl _ _).alloc _)) (Rd.lit w9 2 2 [.int .i64 0, .int .i64 1, .int .i64 1, .int .i64 2] 49 rfl) (by simp) (by simp)).mono ?_
      rw [show decide ([((0 : Int), (1 : Int)), (1, 2)] = [(0, 1), (1, 2)]) = true from by simp]
      rintro e w10 ⟨rfl, hC⟩
      have H10 := Lib.hid ((H9.out.idle ((Chg.refl _ _).alloc _)).idle hC)
      clear hC R1 H9
      have U1 := Lib.hid (show under (gotS S 1 4 [(3, 4)]) 1 = 1 by unfold under; rw [Q3.out]; rfl)
      have W1 := Lib.hid (show window (gotS S 1 4 [(3, 4)]) 1 = 3 by unfold window; rw [Q3.out])
      obtain ⟨l1, l2, l3, l4⟩ := sh_late Q3.out
      obtain ⟨-, -, l5, l6⟩ := sh_late l2
      have L1 := Lib.hid l1
      have L2 := Lib.hid l2
      have L5 := Lib.hid l5
      have L6 := Lib.hid l6
      clear l1 l2 l3 l4 l5 l6
      go_wp2_with fail
      refine (underS_any _ _ s 2 _ H10.out.is 1 (inI (by omega))).mono ?_
      rw [U1.out]
      rintro e w11 ⟨rfl, hC⟩
      have H11 := Lib.hid (H10.out.idle hC)
      clear hC H10
      go_wp2_with fail
      refine (windowS_any _ _ s 2 _ H11.out.is 1 (inI (by omega))).mono ?_
      rw [W1.out]
      rintro e w12 ⟨rfl, hC⟩
      have H12 := Lib.hid (H11.out.idle hC)
      clear hC H11
      go_wp2_with fail
      refine (late_any _ _ s 2 _ H12.out.is H12.out.zone 1 20 11 (inI (by omega))).mono ?_
      rintro e w13 ⟨vb, rfl, r1, r2, r3⟩
      have H13 := Lib.hid (H12.out.step r2 r3)
      rw [L1.out] at r1
      obtain ⟨-, Ab, cb, rfl, -, -⟩ := Rd.of_owns r1
      clear r1 r2 r3 H12
      go_wp2_with fail
      refine (late_any _ _ s 2 _ H13.out.is H13.out.zone 1 20 10 (inI (by omega))).mono ?_
      rintro e w14 ⟨vc, rfl, r1, r2, r3⟩
      have H14 := Lib.hid (H13.out.step r2 r3)
      rw [L5.out] at r1
      have R1 := Lib.hid (Rd.of_owns r1)
      clear r1 r2 r3 H13
      go_wp2_with fail
      refine (same_any _ _ [(2, 3)] [(2, 3)] _ (R1.out.same ((Chg.refl _ _).alloc _)) (Rd.lit w14 2 1 [.int .i64 2, .int .i64 3] 49 rfl) (by simp) (by simp)).mono ?_
      rw [show decide ([((2 : Int), (3 : Int))] = [(2, 3)]) = true from by simp]
      rintro e w15 ⟨rfl, hC⟩
      have H15 := Lib.hid ((H14.out.idle ((Chg.refl _ _).alloc _)).idle hC)
      have U2 := Lib.hid (show under (lateS (lateS (gotS S 1 4 [(3, 4)]) 1 20 11) 1 20 10) 1 = 0 by unfold under; rw [L6.out]; rfl)
      have W2 := Lib.hid (show window (lateS (lateS (gotS S 1 4 [(3, 4)]) 1 20 11) 1 20 10) 1 = 2 by unfold window; rw [L6.out])
      clear hC R1 H14
      go_wp2_with fail
      refine (underS_any _ _ s 2 _ H15.out.is 1 (inI (by omega))).mono ?_
      rw [U2.out]
      rintro e w16 ⟨rfl, hC⟩
      have H16 := Lib.hid (H15.out.idle hC)
      clear hC H15
      go_wp2_with fail
      refine (windowS_any _ _ s 2 _ H16.out.is 1 (inI (by omega))).mono ?_
      rw [W2.out]
      rintro e w17 ⟨rfl, hC⟩
      have H17 := Lib.hid (H16.out.idle hC)
      clear hC H16
      go_wp2_with fail
      go_ret
      exact ⟨rfl, H17.out.chg⟩
end Go.Proofs.Ytiijnhgafadokaa
