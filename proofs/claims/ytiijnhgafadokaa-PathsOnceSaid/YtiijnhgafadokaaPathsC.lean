/-
  The calls of the table of paths (layer 20), third part: an answer.
-/
import Derived.Test.YtiijnhgafadokaaPathsB
namespace Go.Proofs.Ytiijnhgafadokaa
open Go.RowKit Paths

/-- A token as a value. -/
def tokV (t : List Int) : Value := .agg (t.map (Value.int .u8)).toArray

theorem info5 : ∃ i, Try.prog.info? 5 = some i := info_of_underlying Try.underlying5
theorem tok_eq (a0 a1 a2 a3 a4 a5 a6 a7 b0 b1 b2 b3 b4 b5 b6 b7 : Int) (w : World) :
    (Op.equalIn 10000 27 (.agg #[.int .u8 a0, .int .u8 a1, .int .u8 a2, .int .u8 a3, .int .u8 a4, .int .u8 a5, .int .u8 a6, .int .u8 a7])
      (.agg #[.int .u8 b0, .int .u8 b1, .int .u8 b2, .int .u8 b3, .int .u8 b4, .int .u8 b5, .int .u8 b6, .int .u8 b7])).run Try.prog w =
      .ok (decide ([a0, a1, a2, a3, a4, a5, a6, a7] = [b0, b1, b2, b3, b4, b5, b6, b7])) w := by
  obtain ⟨i, hi⟩ := info5
  exact run_equalIn_ints w 9998 Try.underlying27 Try.underlying5 hi (by kernel_rfl) [a0, a1, a2, a3, a4, a5, a6, a7] [b0, b1, b2, b3, b4, b5, b6, b7] rfl rfl

theorem eight {l : List Int} (h : l.length = 8) : ∃ a0 a1 a2 a3 a4 a5 a6 a7, l = [a0, a1, a2, a3, a4, a5, a6, a7] := by
  match l, h with
  | [a0, a1, a2, a3, a4, a5, a6, a7], _ => exact ⟨_, _, _, _, _, _, _, _, rfl⟩

set_option maxHeartbeats 800000 in
theorem answer_any (b : Nat) (id : Int) (a0 a1 a2 a3 a4 a5 a6 a7 : Int) (T : Tab) (w : World) (hT : TabAt w b T) :
    Calls Try.prog 21 #[.pointer (some ⟨b, 0, .none⟩), .int .i64 id, .agg #[.int .u8 a0, .int .u8 a1, .int .u8 a2, .int .u8 a3, .int .u8 a4, .int .u8 a5, .int .u8 a6, .int .u8 a7]] w fun e w' =>
      e = .returned (.bool (answers T id [a0, a1, a2, a3, a4, a5, a6, a7])) ∧ Chg (At b) w w' ∧ TabAt w' b (answer T id [a0, a1, a2, a3, a4, a5, a6, a7]) := by
  rcases in_or_out id with ⟨h0, h1⟩ | h
  · have hc := hT.st (i := id.toNat) (by omega)
    have hz := hT.fz (id.toNat * 12)
    obtain ⟨b0, b1, b2, b3, b4, b5, b6, b7, hb⟩ := eight (hT.ok id.toNat).tok
    have k0 := hT.tok (i := id.toNat) (k := 0) (by omega) (by omega)
    have k1 := hT.tok (i := id.toNat) (k := 1) (by omega) (by omega)
    have k2 := hT.tok (i := id.toNat) (k := 2) (by omega) (by omega)
    have k3 := hT.tok (i := id.toNat) (k := 3) (by omega) (by omega)
    have k4 := hT.tok (i := id.toNat) (k := 4) (by omega) (by omega)
    have k5 := hT.tok (i := id.toNat) (k := 5) (by omega) (by omega)
    have k6 := hT.tok (i := id.toNat) (k := 6) (by omega) (by omega)
    have k7 := hT.tok (i := id.toNat) (k := 7) (by omega) (by omega)
    rw [hb] at k0 k1 k2 k3 k4 k5 k6 k7
    simp at k0 k1 k2 k3 k4 k5 k6 k7
    have HT := Lib.hid hT
    have HB := Lib.hid hb
    have hlt := hT.lt
    clear hT hb
    by_cases c : (T id.toNat).st = 1
    · have c1 : ((T id.toNat).st != 1) = false := by simp [c]
      have q := fun w => tok_eq b0 b1 b2 b3 b4 b5 b6 b7 a0 a1 a2 a3 a4 a5 a6 a7 w
      by_cases d : [b0, b1, b2, b3, b4, b5, b6, b7] = [a0, a1, a2, a3, a4, a5, a6, a7]
      · have R := Lib.hid (show answers T id [a0, a1, a2, a3, a4, a5, a6, a7] = true by simp only [answers, inR_yes h0 h1, c, HB.out, d]; rfl)
        rw [decide_eq_true d] at q
        clear c d
        go_enter Try.func21, Try.ntmps21
        go_wp2_with (go_at_call 66; refine (at_in _ _ _ h0 h1).mono ?_; rintro e w' ⟨rfl, rfl⟩)
        go_quiet (fail)
        go_wp2
        go_ret
        have hC : Chg Nowhere w ((w.alloc (.cells #[.int .u8 a0, .int .u8 a1, .int .u8 a2, .int .u8 a3, .int .u8 a4, .int .u8 a5, .int .u8 a6, .int .u8 a7] 27)).drewN nq) := ((Chg.refl _ _).alloc _).drewN _
        refine ⟨by rw [R.out]; rfl, ((Chg.refl _ _).then_none hC).putAt, ?_⟩
        rw [answer, if_pos R.out]
        exact (HT.out.chg hC (not_nowhere _)).set (i := id.toNat) (by omega) 0 (by omega) 2 _ (ok_st (HT.out.ok _) 2) rfl rfl rfl rfl rfl
      · have R := Lib.hid (show answers T id [a0, a1, a2, a3, a4, a5, a6, a7] = false by simp only [answers, inR_yes h0 h1, c, HB.out, d, decide_false, Bool.and_false])
        rw [decide_eq_false d] at q
        clear c d
        go_enter Try.func21, Try.ntmps21
        go_wp2_with (go_at_call 66; refine (at_in _ _ _ h0 h1).mono ?_; rintro e w' ⟨rfl, rfl⟩)
        go_quiet (fail)
        go_wp2
        go_ret
        have hC : Chg Nowhere w ((w.alloc (.cells #[.int .u8 a0, .int .u8 a1, .int .u8 a2, .int .u8 a3, .int .u8 a4, .int .u8 a5, .int .u8 a6, .int .u8 a7] 27)).drewN nq) := ((Chg.refl _ _).alloc _).drewN _
        refine ⟨by rw [R.out]; rfl, (Chg.refl _ _).then_none hC, ?_⟩
        rw [answer, if_neg (by simp [R.out])]
        exact HT.out.chg hC (not_nowhere _)
    · have c1 : ((T id.toNat).st != 1) = true := by simp [c]
      have R := Lib.hid (show answers T id [a0, a1, a2, a3, a4, a5, a6, a7] = false by simp [answers, c])
      clear c
      go_enter Try.func21, Try.ntmps21
      go_wp2_with (go_at_call 66; refine (at_in _ _ _ h0 h1).mono ?_; rintro e w' ⟨rfl, rfl⟩)
      go_quiet (fail)
      go_wp2
      go_ret
      have hC : Chg Nowhere w ((w.alloc (.cells #[.int .u8 a0, .int .u8 a1, .int .u8 a2, .int .u8 a3, .int .u8 a4, .int .u8 a5, .int .u8 a6, .int .u8 a7] 27)).drewN nq) := ((Chg.refl _ _).alloc _).drewN _
      refine ⟨by rw [R.out]; rfl, (Chg.refl _ _).then_none hC, ?_⟩
      rw [answer, if_neg (by simp [R.out])]
      exact HT.out.chg hC (not_nowhere _)
  · have R := Lib.hid (show answers T id [a0, a1, a2, a3, a4, a5, a6, a7] = false by simp [answers, inR_no h])
    have HT := Lib.hid hT
    clear hT
    go_enter Try.func21, Try.ntmps21
    go_wp2_with (go_at_call 66; refine (at_out _ _ _ h).mono ?_; rintro e w' ⟨z, rfl, z0, z1, hC⟩)
    go_quiet (fail)
    go_wp2
    go_ret
    have hC' : Chg Nowhere w (w'.drewN nq) := ((Chg.refl Nowhere _).alloc _).trans' (hC.drewN _)
    refine ⟨by rw [R.out]; rfl, (Chg.refl _ _).then_none hC', ?_⟩
    rw [answer, if_neg (by simp [R.out])]
    exact HT.out.chg hC' (not_nowhere _)
end Go.Proofs.Ytiijnhgafadokaa
