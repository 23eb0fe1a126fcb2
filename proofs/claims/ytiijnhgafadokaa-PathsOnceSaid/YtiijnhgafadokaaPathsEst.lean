/-
  PathsEstimates, walked: it returns true.
-/
import Derived.Test.YtiijnhgafadokaaPathsH
import Derived.Test.YtiijnhgafadokaaPathsEstPure
namespace Go.Proofs.Ytiijnhgafadokaa
open Go.RowKit Paths

theorem stOf_in {T : Tab} {id : Int} (h0 : 0 ≤ id) (h1 : id < 256) : stOf T id = (T id.toNat).st := by simp [stOf, inR_yes h0 h1]
theorem rttOf_in {T : Tab} {id : Int} (h0 : 0 ≤ id) (h1 : id < 256) : rttOf T id = (T id.toNat).rtt := by simp [rttOf, inR_yes h0 h1]
theorem begins7 : code new 7 = 0 := by decide +kernel

/-- Behind k tellings: the world, and what stands in the table's block. -/
structure Est (w : World) (b : Nat) (n : Int) (k : Nat) (T : Tab) (wr : World) : Prop where
  tab : TabAt wr b T
  st : stOf T 7 = 2
  rtt : rttOf T 7 = est n k
  chg : Chg Nowhere w wr
  new : w.heap.size ≤ b
theorem Est.idle {w wr w' : World} {b : Nat} {n : Int} {k : Nat} {T : Tab} (h : Est w b n k T wr) (hc : Chg Nowhere wr w') : Est w b n k T w' :=
  ⟨h.tab.chg hc (not_nowhere _), h.st, h.rtt, h.chg.trans' hc, h.new⟩
theorem Est.next {w wr w' : World} {b : Nat} {n : Int} {k : Nat} {T : Tab} (h : Est w b n k T wr) (h0 : 0 ≤ n) (hc : Chg (At b) wr w') (ht : TabAt w' b (sample T 7 n)) : Est w b n (k + 1) (sample T 7 n) w' := by
  have e : sample T 7 n = upd T 7 { T 7 with rtt := newRtt (T 7).rtt n } := by rw [sample, if_pos ⟨h.st, h0⟩]; rfl
  refine ⟨ht, ?_, ?_, h.chg.trans hc (fun i hi e => by have : i = b := e; have := h.new; omega), h.new⟩
  · rw [e, stOf_in (by decide) (by decide)]; have := h.st; rw [stOf_in (by decide) (by decide)] at this; exact this
  · rw [e, rttOf_in (by decide) (by decide)]
    have := h.rtt; rw [rttOf_in (by decide) (by decide)] at this
    show newRtt (T 7).rtt n = newRtt (est n k) n
    rw [← this]; rfl

set_option maxHeartbeats 1600000 in
set_option maxRecDepth 100000 in
theorem est_walk (a : Int) (w : World) (hc0 : -9223372036854775808 ≤ a) (hc : a ≤ 9223372036854775807) :
    Calls Try.prog 5 #[.int .i64 a] w (ShownTo w) := by
  go_enter Try.func5, Try.ntmps5
  go_wp2_with fail
  refine (shown_any _).mono ?_
  rintro e w1 ⟨rfl, hC1⟩
  have HC1 := Lib.hid hC1; clear hC1
  go_wp2_with fail
  refine (new_any _).mono ?_
  rintro e w2 ⟨b, rfl, hT, hC, hb⟩
  have HC2 := Lib.hid (HC1.out.trans' hC)
  have HT := Lib.hid hT
  have hb2 := Nat.le_trans HC1.out.size hb
  clear hC hT hb HC1
  go_wp2_with fail
  refine (Begin_any _ _ _ _ HT.out).mono ?_
  rw [begins7]
  rintro e w3 ⟨rfl, hC, hT3⟩
  have n0 := kind_lo a 1000001 (by decide)
  have n1 := kind_hi a 1000001 (by decide)
  generalize hn : kindOf a 1000001 = n at n0 n1
  have HN := Lib.hid hn; clear hn
  have HE := Lib.hid (show Est w b n 0 _ w3 from ⟨hT3, by decide +kernel, by rw [show est n 0 = 100 from rfl]; decide +kernel, HC2.out.trans hC (fun i hi e => by have : i = b := e; omega), hb2⟩)
  generalize begins new 7 ⟨2, 0, 0, 0, [0, 0, 0, 0, 0, 0, 0, 0]⟩ = T at HE
  clear hC hT3 HC2 HT
  go_wp2_with fail
  refine (kind_any _ _ _ hc0 hc (by decide) (by decide)).mono ?_
  rw [HN.out]
  rintro e w' ⟨rfl, rfl⟩
  go_wp2_with fail
  refine (rtt_any _ _ _ _ HE.out.tab).mono ?_
  rw [HE.out.rtt]
  rintro e w4 ⟨rfl, hC⟩
  replace HE := Lib.hid (HE.out.idle hC)
  clear hC
  go_wp2_with fail
  go_loopw [6, 7] (fun r i wr => ∃ k : Nat, ∃ T, k ≤ 200 ∧ i = .int .i64 k ∧ r = .int .i64 (est n k) ∧ Est w b n k T wr) (fun _ i _ => 200 - (intOf i).toNat)
  case atStart => exact ⟨0, T, by omega, rfl, rfl, HE.out⟩
  case round =>
    obtain ⟨k, T, hk, rfl, rfl, HE'⟩ := hrel
    replace HE := Lib.hid HE'
    clear HE'
    have ⟨e0, e1⟩ := est_bd (n := n) k
    by_cases hk' : k < 200
    · go_wp2_with fail
      refine (sample_any _ _ _ _ _ HE.out.tab).mono ?_
      rintro e w5 ⟨rfl, hC, hT⟩
      replace HE := Lib.hid (HE.out.next n0 hC hT)
      clear hC hT
      go_wp2_with fail
      refine (rtt_any _ _ _ _ HE.out.tab).mono ?_
      rw [HE.out.rtt]
      rintro e w6 ⟨rfl, hC⟩
      replace HE := Lib.hid (HE.out.idle hC)
      clear hC
      have f0 := newRtt_ge (r := est n k) n0 (by omega)
      have f1 := newRtt_le (r := est n k) n0 (by omega)
      have ⟨g0, g1⟩ := est_bd (n := n) (k + 1)
      have EQ := Lib.hid (show newRtt (est n k) n = est n (k + 1) from rfl)
      rw [EQ.out] at f0 f1
      generalize est n (k + 1) = x' at f0 f1 g0 g1 HE EQ ⊢
      go_wp2_with fail
      all_goals
        go_roundw
        case rel => exact ⟨k + 1, _, by omega, by go_num, by rw [show est n (k + 1) = x' from EQ.out], HE.out⟩
        case measure => simp [intOf]; omega
    · obtain rfl : k = 200 := by omega
      have ⟨f0, f1⟩ := est_end n0 (by omega)
      generalize est n 200 = x at f0 f1 e0 e1 ⊢
      clear hk hk'
      go_wp2_with fail
      all_goals
        go_ret
        exact ⟨rfl, HE.out.chg⟩
end Go.Proofs.Ytiijnhgafadokaa
