/-
  The calls of the table of paths (layer 20), second part: state, estimate, answer, remove, sample.
-/
import Derived.Test.YtiijnhgafadokaaPathsA
namespace Go.Proofs.Ytiijnhgafadokaa
open Go.RowKit Paths

theorem inR_yes {id : Int} (h0 : 0 ≤ id) (h1 : id < 256) : inR id = true := by simp [inR, h0, h1]
theorem inR_no {id : Int} (h : id < 0 ∨ 256 ≤ id) : inR id = false := by simp [inR]; omega
theorem in_or_out (id : Int) : (0 ≤ id ∧ id < 256) ∨ (id < 0 ∨ 256 ≤ id) := by omega

set_option maxHeartbeats 400000 in
theorem state_any (b : Nat) (id : Int) (T : Tab) (w : World) (hT : TabAt w b T) :
    Calls Try.prog 23 #[.pointer (some ⟨b, 0, .none⟩), .int .i64 id] w fun e w' => e = .returned (.int .i64 (stOf T id)) ∧ Chg Nowhere w w' := by
  rcases in_or_out id with ⟨h0, h1⟩ | h
  · have hc := hT.st (i := id.toNat) (by omega)
    have E : Hid (stOf T id = (T id.toNat).st) := by show _ = _; simp [stOf, inR_yes h0 h1]
    clear hT
    go_enter Try.func23, Try.ntmps23
    go_wp2_with (go_at_call 66; refine (at_in _ _ _ h0 h1).mono ?_; rintro e w' ⟨rfl, rfl⟩)
    go_ret
    exact ⟨by rw [E.out]; rfl, Chg.refl _ _⟩
  · have E : Hid (stOf T id = 0) := by show _ = _; simp [stOf, inR_no h]
    clear hT
    go_enter Try.func23, Try.ntmps23
    go_wp2_with (go_at_call 66; refine (at_out _ _ _ h).mono ?_; rintro e w' ⟨z, rfl, z0, z1, hC⟩)
    go_ret
    exact ⟨by rw [E.out]; rfl, hC⟩

set_option maxHeartbeats 400000 in
theorem rtt_any (b : Nat) (id : Int) (T : Tab) (w : World) (hT : TabAt w b T) :
    Calls Try.prog 24 #[.pointer (some ⟨b, 0, .none⟩), .int .i64 id] w fun e w' => e = .returned (.int .i64 (rttOf T id)) ∧ Chg Nowhere w w' := by
  rcases in_or_out id with ⟨h0, h1⟩ | h
  · have hc := hT.rtt (i := id.toNat) (by omega)
    have E : Hid (rttOf T id = (T id.toNat).rtt) := by show _ = _; simp [rttOf, inR_yes h0 h1]
    clear hT
    go_enter Try.func24, Try.ntmps24
    go_wp2_with (go_at_call 66; refine (at_in _ _ _ h0 h1).mono ?_; rintro e w' ⟨rfl, rfl⟩)
    go_ret
    exact ⟨by rw [E.out]; rfl, Chg.refl _ _⟩
  · have E : Hid (rttOf T id = 0) := by show _ = _; simp [rttOf, inR_no h]
    clear hT
    go_enter Try.func24, Try.ntmps24
    go_wp2_with (go_at_call 66; refine (at_out _ _ _ h).mono ?_; rintro e w' ⟨z, rfl, z0, z1, hC⟩)
    go_ret
    exact ⟨by rw [E.out]; rfl, hC⟩

set_option maxHeartbeats 400000 in
theorem remove_any (b : Nat) (id : Int) (T : Tab) (w : World) (hT : TabAt w b T) :
    Calls Try.prog 22 #[.pointer (some ⟨b, 0, .none⟩), .int .i64 id] w fun e w' =>
      e = .returned (.int .i64 (rmCode T id)) ∧ Chg (At b) w w' ∧ TabAt w' b (remove T id) := by
  rcases in_or_out id with ⟨h0, h1⟩ | h
  · have hc := hT.st (i := id.toNat) (by omega)
    have hz := hT.fz (id.toNat * 12)
    have E : stOf T id = (T id.toNat).st := by simp [stOf, inR_yes h0 h1]
    have HT := Lib.hid hT
    clear hT
    by_cases c : (T id.toNat).st = 1 ∨ (T id.toNat).st = 2
    · have R : removes T id = true := by simp [removes, E, c]
      have HR := Lib.hid R
      have c1 : ((T id.toNat).st != 1 && (T id.toNat).st != 2) = false := by simp; omega
      clear E c R
      go_enter Try.func22, Try.ntmps22
      go_wp2_with (go_at_call 66; refine (at_in _ _ _ h0 h1).mono ?_; rintro e w' ⟨rfl, rfl⟩)
      all_goals
        go_ret
        refine ⟨ret_int (by simp [rmCode, HR.out]), (Chg.refl _ _).putAt, ?_⟩
        rw [remove, if_pos HR.out]
        exact HT.out.set (i := id.toNat) (by omega) 0 (by omega) 3 _ (ok_st (HT.out.ok _) 3) rfl rfl rfl rfl rfl
    · have R : removes T id = false := by simp [removes, E]; omega
      have HR := Lib.hid R
      have c1 : ((T id.toNat).st != 1) = true := by simp; omega
      have c2 : ((T id.toNat).st != 2) = true := by simp; omega
      clear E c R
      go_enter Try.func22, Try.ntmps22
      go_wp2_with (go_at_call 66; refine (at_in _ _ _ h0 h1).mono ?_; rintro e w' ⟨rfl, rfl⟩)
      go_ret
      refine ⟨ret_int (by simp [rmCode, HR.out]), Chg.refl _ _, ?_⟩
      rw [remove, if_neg (by simp [HR.out])]
      exact HT.out
  · have E : stOf T id = 0 := by simp [stOf, inR_no h]
    have HR := Lib.hid (show removes T id = false by simp [removes, E])
    have HT := Lib.hid hT
    clear hT E
    go_enter Try.func22, Try.ntmps22
    go_wp2_with (go_at_call 66; refine (at_out _ _ _ h).mono ?_; rintro e w' ⟨z, rfl, z0, z1, hC⟩)
    go_ret
    refine ⟨ret_int (by simp [rmCode, HR.out]), (Chg.refl _ _).then_none hC, ?_⟩
    rw [remove, if_neg (by simp [HR.out])]
    exact HT.out.chg hC (not_nowhere _)

def SampleTo (w : World) (b : Nat) (T : Tab) (e : Ending) (w' : World) : Prop := e = .returned (.tuple #[]) ∧ Chg (At b) w w' ∧ TabAt w' b T
set_option maxHeartbeats 400000 in
theorem sample_any (b : Nat) (id ticks : Int) (T : Tab) (w : World) (hT : TabAt w b T) :
    Calls Try.prog 25 #[.pointer (some ⟨b, 0, .none⟩), .int .i64 id, .int .i64 ticks] w (SampleTo w b (sample T id ticks)) := by
  rcases in_or_out id with ⟨h0, h1⟩ | h
  · have hc := hT.st (i := id.toNat) (by omega)
    have hc1 := hT.rtt (i := id.toNat) (by omega)
    have hz := hT.fz (id.toNat * 12 + 1)
    have E : stOf T id = (T id.toNat).st := by simp [stOf, inR_yes h0 h1]
    have b0 := (hT.ok id.toNat).rtt0
    have b1 := (hT.ok id.toNat).rtt1
    have HT := Lib.hid hT
    clear hT
    by_cases c : (T id.toNat).st = 2
    · have c1 : ((T id.toNat).st == 2) = true := by simp [c]
      by_cases d : 0 ≤ ticks
      · have HR := Lib.hid (show stOf T id = 2 ∧ 0 ≤ ticks from ⟨E.trans c, d⟩)
        clear E c
        go_enter Try.func25, Try.ntmps25
        go_wp2_with (go_at_call 66; refine (at_in _ _ _ h0 h1).mono ?_; rintro e w' ⟨rfl, rfl⟩)
        all_goals
          go_end0
          refine ⟨rfl, (Chg.refl _ _).putAt, ?_⟩
          rw [sample, if_pos HR.out]
          refine HT.out.set (i := id.toNat) (by omega) 1 (by omega) _ _ (ok_rtt (HT.out.ok _) ticks) rfl ?_ rfl rfl rfl
          show newRtt _ _ = _
          unfold newRtt
          omega
      · have HR := Lib.hid (show ¬ (stOf T id = 2 ∧ 0 ≤ ticks) from fun h => d h.2)
        clear E c
        have d' : decide (0 ≤ ticks) = false := by simpa using d
        go_enter Try.func25, Try.ntmps25
        go_wp2_with (go_at_call 66; refine (at_in _ _ _ h0 h1).mono ?_; rintro e w' ⟨rfl, rfl⟩)
        go_end0
        refine ⟨rfl, Chg.refl _ _, ?_⟩
        rw [sample, if_neg HR.out]
        exact HT.out
    · have c1 : ((T id.toNat).st == 2) = false := by simp [c]
      have HR := Lib.hid (show ¬ (stOf T id = 2 ∧ 0 ≤ ticks) from fun h => c (E ▸ h.1))
      clear E c
      go_enter Try.func25, Try.ntmps25
      go_wp2_with (go_at_call 66; refine (at_in _ _ _ h0 h1).mono ?_; rintro e w' ⟨rfl, rfl⟩)
      go_end0
      refine ⟨rfl, Chg.refl _ _, ?_⟩
      rw [sample, if_neg HR.out]
      exact HT.out
  · have E : stOf T id = 0 := by simp [stOf, inR_no h]
    have HR := Lib.hid (show ¬ (stOf T id = 2 ∧ 0 ≤ ticks) by rw [E]; omega)
    have HT := Lib.hid hT
    clear hT E
    go_enter Try.func25, Try.ntmps25
    go_wp2_with (go_at_call 66; refine (at_out _ _ _ h).mono ?_; rintro e w' ⟨z, rfl, z0, z1, hC⟩)
    go_end0
    refine ⟨rfl, (Chg.refl _ _).then_none hC, ?_⟩
    rw [sample, if_neg HR.out]
    exact HT.out.chg hC (not_nowhere _)
end Go.Proofs.Ytiijnhgafadokaa
