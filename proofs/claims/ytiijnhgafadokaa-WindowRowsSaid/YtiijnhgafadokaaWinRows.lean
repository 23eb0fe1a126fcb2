/-
  WindowRows, walked: it returns true.
-/
import Derived.Test.YtiijnhgafadokaaWinSees
namespace Go.Proofs.Ytiijnhgafadokaa
open Go.RowKit Wins
set_option linter.unusedVariables false

def RowWb (w0 : World) (b a k : Nat) (w : World) : Prop := ∃ W, Wb w0 b W w ∧ RowWin W a k

set_option maxHeartbeats 3200000 in
set_option maxRecDepth 100000 in
theorem rowsW_walk (f x : Int) (w : World) (hf : -9223372036854775808 ≤ f ∧ f ≤ 9223372036854775807) (hx : -9223372036854775808 ≤ x ∧ x ≤ 9223372036854775807) :
    Calls Try.prog 7 #[.int .i64 f, .int .i64 x] w (ShownWTo w) := by
  go_enter Try.func7, Try.ntmps7
  go_wp2_with fail
  refine (shownW_any _).mono ?_
  rintro e w1 ⟨rfl, hC1⟩
  have HC1 := Lib.hid hC1
  clear hC1
  go_wp2_with fail
  refine (newW_any _).mono ?_
  rintro e w2 ⟨b, rfl, hW, hC, hb⟩
  have H := Lib.hid (show Wb w b Wins.new w2 from ⟨hW, HC1.out.trans' hC, Nat.le_trans HC1.out.size hb⟩)
  clear hW hC hb HC1
  by_cases hout : f < 0 ∨ 281474976707655 < f
  · rcases (by omega : f < 0 ∨ 0 ≤ f) with h0 | h0
    · clear hout
      go_wp2_with fail
      go_ret
      exact ⟨rfl, H.out.chg⟩
    · have h1 : 281474976707655 < f := by omega
      clear hout
      go_wp2_with fail
      go_ret
      exact ⟨rfl, H.out.chg⟩
  · obtain ⟨a, rfl⟩ : ∃ a : Nat, f = (a : Int) := ⟨f.toNat, by omega⟩
    have ha : (a : Int) ≤ 281474976707655 := by omega
    clear hout hf
    have hn : ∃ n : Nat, 2 ≤ n ∧ n ≤ 2001 ∧ (x < 0 → wrap64 (2 + -(x + 1).tmod 2000) = (n : Int)) ∧ (0 ≤ x → 2 + x % 2000 = (n : Int)) := by
      rcases (by omega : x < 0 ∨ 0 ≤ x) with h0 | h0
      · obtain ⟨z, hz⟩ : ∃ z : Nat, x + 1 = -(z : Int) := ⟨(-(x + 1)).toNat, by omega⟩
        refine ⟨2 + z % 2000, by omega, by omega, fun _ => ?_, fun _ => by omega⟩
        rw [hz, Int.neg_tmod, Int.neg_neg, Int.tmod_eq_emod_of_nonneg (by omega), Go.IntWalk.wrap64_in _ (by omega)]
        omega
      · exact ⟨(2 + x % 2000).toNat, by omega, by omega, fun _ => by omega, fun _ => by omega⟩
    obtain ⟨n, hn0, hn1, e1, e2⟩ := hn
    by_cases hneg : x < 0
    all_goals
      first | (have e := e1 hneg) | (have e := e2 (by omega))
      clear e1 e2
      go_wp2_with fail
      try rw [e]
      clear e hneg hx
      go_loopw [8] (fun i wr => ∃ k : Nat, k ≤ n ∧ i = .int .i64 k ∧ RowWb w b a k wr) (fun i _ => 2001 - (intOf i).toNat)
      case atStart => exact ⟨0, by omega, rfl, _, H.out, rowWin_new a⟩
      case round =>
        obtain ⟨k, hk, rfl, W, hH, hR⟩ := hrel
        replace H := Lib.hid hH
        have R := Lib.hid hR
        clear hH hR
        by_cases hk' : k < n
        · have HC := Lib.hid (R.out.chk (by omega))
          have HS := Lib.hid (R.out.step (by omega))
          go_wp2_with fail
          refine (mark_any _ _ _ _ H.out.win).mono ?_
          rw [HC.out]
          rintro e w5 ⟨rfl, hC, hW⟩
          replace H := Lib.hid (H.out.step hC hW)
          clear hC hW
          go_wp2_with fail
          go_roundw
          case rel => exact ⟨k + 1, by omega, by go_num, _, H.out, HS.out⟩
          case measure => simp [intOf]; omega
        · obtain rfl : k = n := by omega
          clear hk hk'
          have hnx := R.out.next
          rw [if_neg (by omega)] at hnx
          have T1 := Lib.hid (show (W.next : Int) - 1 = (a : Int) + k - 1 by omega)
          have T2 := Lib.hid (R.out.count (by omega))
          have T3 := Lib.hid (R.out.told hn0)
          have T4 := Lib.hid (show 1024 ≤ (a : Int) + k - 1 → chk W ((a : Int) + k - 1 - 1024) = 140 by
            intro h
            rw [chk, if_neg (by omega), if_pos (.inl (by omega))])
          clear hnx
          have hm : ∃ m : Nat, min k 1024 = m ∧ m ≤ k ∧ m ≤ 1024 ∧ (k ≤ 1024 ∧ k = m ∨ 1024 < k ∧ m = 1024) := ⟨_, rfl, by omega, by omega, by omega⟩
          obtain ⟨m, hm, hm1, hm2, hm3⟩ := hm
          rw [hm] at T2 T3
          clear hm
          go_wp2_with fail
          refine (below_any _ _ _ _ H.out.win).mono ?_
          rw [T3.out]
          rintro e w6 ⟨v, rfl, hO, hC⟩
          have hbx := H.out.win.lt
          replace H := Lib.hid (H.out.idle hC)
          clear hC
          rcases hO.2 with ⟨_, h0⟩ | ⟨g, cap, cur, rfl, hgb, _, _, _, _, _⟩
          · exact absurd h0 (by simp)
          have c0 := hO.cellAt 0 (by simp)
          have c1 := hO.cellAt 1 (by simp)
          clear hO
          simp only [flat, rcells, List.flatMap_cons, List.cons_append, List.nil_append, List.flatMap_nil, List.getElem?_cons_zero, List.getElem?_cons_succ, List.length_singleton] at c0 c1 ⊢
          have L1 := Lib.hid (show (W.next : Int) ≤ 281474976710656 from by have := H.out.win.le; omega)
          have E1 := Lib.hid (show (a : Int) + k - 1 - m + 1 = a + k - m by omega)
          rcases hm3 with ⟨hk3, rfl⟩ | ⟨hk3, rfl⟩
          all_goals
            by_cases ht : (a : Int) + k - 1 < 1024
            all_goals
              go_wp2_with fail
              all_goals
                refine (top_any _ _ _ H.out.win).mono ?_
                rw [T1.out]
                rintro e w' ⟨rfl, rfl⟩
                go_wp2_with fail
                refine (count_any _ _ _ H.out.win).mono ?_
                rw [T2.out]
                rintro e w' ⟨rfl, rfl⟩
                go_wp2_with fail
                all_goals
                  first
                  | (refine (chk_any _ _ _ _ H.out.win).mono ?_
                     rw [T4.out (by omega)]
                     rintro e w' ⟨rfl, rfl⟩
                     go_wp2_with fail
                     go_ret
                     exact ⟨rfl, H.out.chg⟩)
                  | (go_ret
                     exact ⟨rfl, H.out.chg⟩)
end Go.Proofs.Ytiijnhgafadokaa
