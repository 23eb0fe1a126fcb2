/-
  The laws' own helpers (layer 21): kind, same.
-/
import Derived.Test.YtiijnhgafadokaaSchL
namespace Go.Proofs.Ytiijnhgafadokaa
open Go.RowKit
set_option linter.unusedVariables false

def Kind21To (n : Int) (w : World) (e : Ending) (w' : World) : Prop := ∃ k : Nat, (k : Int) < n ∧ e = .returned (.int .i64 (k : Int)) ∧ w = w'
set_option maxHeartbeats 800000 in
theorem kind21_any (c n : Int) (w : World) (hc : InI c) (hn : n = 4 ∨ n = 8 ∨ n = 60) : Calls Try.prog 43 #[.int .i64 c, .int .i64 n] w (Kind21To n w) := by
  unfold InI at hc
  have hK : ∃ k : Nat, (k : Int) < n ∧ (c < 0 → -(c + 1).tmod n = (k : Int)) ∧ (0 ≤ c → c % n = (k : Int)) := by
    rcases (by omega : c < 0 ∨ 0 ≤ c) with h0 | h0
    · obtain ⟨y, hy⟩ : ∃ y : Nat, c + 1 = -(y : Int) := ⟨(-(c + 1)).toNat, by omega⟩
      refine ⟨((y : Int) % n).toNat, by rcases hn with rfl | rfl | rfl <;> omega, fun _ => ?_, fun _ => by omega⟩
      rw [hy, Int.neg_tmod, Int.neg_neg, Int.tmod_eq_emod_of_nonneg (by omega)]
      rcases hn with rfl | rfl | rfl <;> omega
    · exact ⟨(c % n).toNat, by rcases hn with rfl | rfl | rfl <;> omega, fun _ => by omega, fun _ => by rcases hn with rfl | rfl | rfl <;> omega⟩
  obtain ⟨k, hk, e1, e2⟩ := hK
  by_cases hneg : c < 0
  all_goals
    first | (have e := e1 hneg) | (have e := e2 (by omega))
    have HE := Lib.hid e
    clear e1 e2 e
    rcases hn with rfl | rfl | rfl
    all_goals
      go_enter Try.func43, Try.ntmps43
      go_wp2_with fail
      go_ret
      first
      | (rw [HE.out]; exact ⟨k, hk, rfl, rfl⟩)
      | exact ⟨k, hk, by rw [← HE.out]; rfl, rfl⟩

set_option maxHeartbeats 1600000 in
theorem same_any (va vb : Value) (la lb : List (Int × Int)) (w : World) (ha : Rd w va 2 la.length (flat la)) (hb : Rd w vb 2 lb.length (flat lb)) (hl : la.length ≤ 1000000000000) (hl2 : lb.length ≤ 1000000000000) :
    Calls Try.prog 53 #[va, vb] w fun e w' => e = .returned (.bool (decide (la = lb))) ∧ Chg Nowhere w w' := by
  obtain ⟨-, A, cp, rfl, -, hA⟩ := ha
  obtain ⟨-, B, cq, rfl, -, hB⟩ := hb
  have HA := Lib.hid hA
  have HB := Lib.hid hB
  clear hA hB
  by_cases hlen : la.length = lb.length
  · have HL := Lib.hid hlen
    rw [← hlen]
    clear hlen hl2
    go_enter Try.func53, Try.ntmps53
    go_wp2_with fail
    go_loopw [5] (fun i wr => ∃ k : Nat, k ≤ la.length ∧ i = .int .i64 k ∧ Hid (la.take k = lb.take k) ∧ Chg Nowhere w wr) (fun i _ => la.length - (intOf i).toNat)
    case atStart => exact ⟨0, by omega, rfl, Lib.hid rfl, Chg.refl _ _⟩
    case round =>
      obtain ⟨k, hk, rfl, HK, hC⟩ := hrel
      have HC := Lib.hid hC
      by_cases hk2 : k < la.length
      · obtain ⟨x, hx⟩ : ∃ x, la[k]? = some x := ⟨_, List.getElem?_eq_getElem hk2⟩
        obtain ⟨y, hy⟩ : ∃ y, lb[k]? = some y := ⟨_, List.getElem?_eq_getElem (by rw [← HL.out]; exact hk2)⟩
        obtain ⟨g, o, rfl, hg, hcell⟩ := HA.out (by omega)
        obtain ⟨g', o', rfl, hg', hcell'⟩ := HB.out (by rw [← HL.out]; omega)
        have hl1 := flat_len la
        have hl3 : (flat lb).length = la.length * 2 := by rw [flat_len, HL.out]
        have a0 : wr.cell? ⟨g, o + k * 2, .none⟩ = _ := (hC.cell (p := ⟨g, o + k * 2, .none⟩) hg (not_nowhere _)).trans ((hcell (k * 2) (by omega)).trans (flat_get _ _ _ hx).1)
        have a1 : wr.cell? ⟨g, o + k * 2 + 1, .none⟩ = _ := (hC.cell (p := ⟨g, o + k * 2 + 1, .none⟩) hg (not_nowhere _)).trans ((hcell (k * 2 + 1) (by omega)).trans (flat_get _ _ _ hx).2)
        have b0 : wr.cell? ⟨g', o' + k * 2, .none⟩ = _ := (hC.cell (p := ⟨g', o' + k * 2, .none⟩) hg' (not_nowhere _)).trans ((hcell' (k * 2) (by omega)).trans (flat_get _ _ _ hy).1)
        have b1 : wr.cell? ⟨g', o' + k * 2 + 1, .none⟩ = _ := (hC.cell (p := ⟨g', o' + k * 2 + 1, .none⟩) hg' (not_nowhere _)).trans ((hcell' (k * 2 + 1) (by omega)).trans (flat_get _ _ _ hy).2)
        have HXY := Lib.hid (show x = y → la.take (k + 1) = lb.take (k + 1) from fun e => by rw [List.take_add_one, List.take_add_one, hx, hy, HK.out, e])
        have HNE := Lib.hid (show x ≠ y → la ≠ lb from fun e e2 => e (by rw [e2, hy] at hx; exact (Option.some.inj hx).symm))
        clear hcell hcell' hx hy hl1 hl3
        obtain ⟨x1, x2⟩ := x
        obtain ⟨y1, y2⟩ := y
        simp only at a0 a1 b0 b1
        by_cases h1 : x1 = y1
        · subst h1
          by_cases h2 : x2 = y2
          · subst h2
            have HT := Lib.hid (HXY.out rfl)
            clear HNE
            go_wp2_with fail
            go_quiet (fail)
            go_wp2_with fail
            go_roundw
            case rel => exact ⟨k + 1, by omega, by go_num, HT, HC.out.drewN _⟩
            case measure => simp [intOf]; omega
          · have E := Lib.hid (show decide (la = lb) = false from decide_eq_false (HNE.out (by simpa using h2)))
            have t2 : (x2 == y2) = false := by simpa using h2
            clear hC h2 HNE HXY
            go_wp2_with fail
            go_quiet (fail)
            go_wp2_with fail
            go_ret
            rw [E.out]
            exact ⟨rfl, HC.out.drewN _⟩
        · have E := Lib.hid (show decide (la = lb) = false from decide_eq_false (HNE.out (by simp [h1])))
          have t1 : (x1 == y1) = false := by simpa using h1
          clear hC h1 HNE HXY
          go_wp2_with fail
          go_quiet (fail)
          go_wp2_with fail
          go_ret
          rw [E.out]
          exact ⟨rfl, HC.out.drewN _⟩
      · obtain rfl : k = la.length := by omega
        have E := Lib.hid (show decide (la = lb) = true by
          have := HK.out
          rw [List.take_length, HL.out, List.take_length] at this
          exact decide_eq_true this)
        go_wp2_with fail
        go_ret
        rw [E.out]
        exact ⟨rfl, HC.out⟩
  · have E := Lib.hid (show decide (la = lb) = false from decide_eq_false (fun e => hlen (by rw [e])))
    have t1 : (((la.length : Nat) : Int) == ((lb.length : Nat) : Int)) = false := by simp; omega
    have t2 : (((la.length : Nat) : Int) != ((lb.length : Nat) : Int)) = true := by simp; omega
    go_enter Try.func53, Try.ntmps53
    go_wp2_with fail
    go_ret
    rw [E.out]
    exact ⟨rfl, Chg.refl _ _⟩
end Go.Proofs.Ytiijnhgafadokaa
