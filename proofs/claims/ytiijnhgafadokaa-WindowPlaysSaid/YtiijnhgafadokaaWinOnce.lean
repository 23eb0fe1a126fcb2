/-
  WindowOnce, walked: it returns true.
-/
import Derived.Test.YtiijnhgafadokaaWinG
namespace Go.Proofs.Ytiijnhgafadokaa
open Go.RowKit Wins
set_option linter.unusedVariables false

theorem chk_zero {W : Win} {n : Int} (h : chk W n = 0) : 0 ≤ n ∧ n ≤ 281474976710655 ∧ (W.next : Int) - 1024 ≤ n ∧ hasB W n.toNat = false := by
  unfold chk at h
  split at h
  · exact absurd h (by decide)
  · split at h
    · exact absurd h (by decide)
    · rename_i h1 h2
      have h3 : ¬ hasB W n.toNat = true := fun e => h2 (.inr e)
      exact ⟨by omega, by omega, by omega, by simpa using h3⟩
/-- What was marked is old. -/
theorem chk_put {W : Win} {n : Int} (h : chk W n = 0) : chk (marks W n) n = 140 := by
  obtain ⟨h0, h1, h2, _⟩ := chk_zero h
  rw [marks, if_pos h, chk, if_neg (by omega), if_pos]
  refine .inr ?_
  unfold hasB put
  simp
  omega
theorem marks_again {W : Win} {n : Int} (h : chk W n = 0) : marks (marks W n) n = marks W n := by
  rw [marks, if_neg (by rw [chk_put h]; decide)]
/-- What is old stays old. -/
theorem chk_stays {W : Win} {n : Int} (m : Int) (h : chk W n ≠ 0) : chk (marks W m) n ≠ 0 := by
  by_cases hm : chk W m = 0
  · obtain ⟨m0, m1, m2, mh⟩ := chk_zero hm
    rw [marks, if_pos hm]
    intro hz
    obtain ⟨n0, n1, n2, nh⟩ := chk_zero hz
    apply h
    have hnext : (put W m.toNat).next = max W.next (m.toNat + 1) := rfl
    rw [hnext] at n2
    rw [chk, if_neg (by omega), if_neg]
    intro hc
    rcases hc with hc | hc
    · omega
    · unfold hasB at hc nh
      simp only [Bool.and_eq_true, decide_eq_true_eq] at hc
      rw [hnext] at nh
      have hd : decide (n.toNat < max W.next (m.toNat + 1)) = true := by simp; omega
      rw [hd, Bool.true_and] at nh
      unfold put at nh
      simp only at nh
      split at nh
      · exact absurd nh (by decide)
      · unfold clearTo at nh
        split at nh
        · rename_i hex
          obtain ⟨j, hj, he⟩ := hex
          unfold sight at hj
          omega
        · rw [hc.2] at nh; exact absurd nh (by decide)
  · rw [marks, if_neg hm]; exact h

set_option maxHeartbeats 3200000 in
set_option maxRecDepth 100000 in
theorem onceW_walk (A : Option Addr) (cap : Nat) (zs : List Int) (w : World) (hcap : zs.length ≤ 9223372036854775807)
    (hz : 0 < zs.length → ∃ g o, A = some ⟨g, o, none⟩ ∧ g < w.heap.size ∧ ∀ (i : Nat) z, zs[i]? = some z → w.cell? ⟨g, o + i, none⟩ = some (.int .i64 z)) :
    Calls Try.prog 6 #[.slice A zs.length cap] w (ShownWTo w) := by
  have HZ := Lib.hid hz; clear hz
  go_enter Try.func6, Try.ntmps6
  go_wp2_with fail
  refine (shownW_any _).mono ?_
  rintro e w1 ⟨rfl, hC1⟩
  have HC1 := Lib.hid hC1
  clear hC1
  go_wp2_with fail
  refine (newW_any _).mono ?_
  rintro e w2 ⟨b, rfl, hW, hC, hb⟩
  have H := Lib.hid (show Wb w b Wins.new w2 from ⟨hW, HC1.out.trans' hC, Nat.le_trans HC1.out.size hb⟩)
  clear hW hC hb HC1
  go_wp2_with fail
  go_loopw [5] (fun i wr => ∃ (k : Nat) (W : Win), k ≤ zs.length ∧ k ≤ 300 ∧ i = .int .i64 k ∧ (∀ j z, j < k → zs[j]? = some z → chk W z ≠ 0) ∧ Wb w b W wr) (fun i _ => 300 - (intOf i).toNat)
  case atStart => exact ⟨0, _, by omega, by omega, rfl, fun j z hj => absurd hj (by omega), H.out⟩
  case round =>
    obtain ⟨k, W, hk, hk3, rfl, hold, hH⟩ := hrel
    replace H := Lib.hid hH
    have HOLD := Lib.hid hold
    clear hH hold
    by_cases hend : k < zs.length ∧ k < 300
    · obtain ⟨hk1, hk2⟩ := hend
      obtain ⟨g, o, rfl, hg, hcell⟩ := HZ.out (by omega)
      obtain ⟨z, hzk⟩ : ∃ z, zs[k]? = some z := ⟨_, List.getElem?_eq_getElem hk1⟩
      have HZK := Lib.hid hzk
      have hc0 := hcell k z hzk
      have HC0 := Lib.hid hc0
      have hgb : g < b := Nat.lt_of_lt_of_le hg H.out.new
      have c := (H.out.chg.cell (p := ⟨g, o + k, none⟩) hg (not_nowhere _)).trans hc0
      clear hzk hc0 hcell
      by_cases hc : chk W z = 0
      · have R1 := Lib.hid (chk_put hc)
        have R2 := Lib.hid (marks_again hc)
        have HK := Lib.hid hc
        clear hc
        go_wp2_with fail
        refine (chk_any _ _ _ _ H.out.win).mono ?_
        rw [HK.out]
        rintro e w' ⟨rfl, rfl⟩
        go_wp2_with fail
        refine (mark_any _ _ _ _ H.out.win).mono ?_
        rw [HK.out]
        rintro e w5 ⟨rfl, hC, hW⟩
        replace H := Lib.hid (H.out.step hC hW)
        replace c := (H.out.chg.cell (p := ⟨g, o + k, none⟩) hg (not_nowhere _)).trans HC0.out
        clear hC hW
        go_wp2_with fail
        refine (mark_any _ _ _ _ H.out.win).mono ?_
        rw [R1.out, R2.out]
        rintro e w6 ⟨rfl, hC, hW⟩
        replace H := Lib.hid (H.out.step hC hW)
        clear hC hW c
        go_wp2_with fail
        go_roundw
        case rel => exact ⟨k + 1, _, by omega, by omega, by go_num, fun j y hj hy => by
          by_cases hjk : j = k
          · subst hjk
            have e : y = z := by have := HZK.out; rw [hy] at this; exact Option.some.inj this
            rw [e, R1.out]; decide
          · exact chk_stays z (HOLD.out j y (by omega) hy), H.out⟩
        case measure => simp [intOf]; omega
      · have t1 : (chk W z == 0) = false := by simpa using hc
        have HK := Lib.hid hc
        have EM := Lib.hid (show marks W z = W by rw [marks, if_neg hc])
        clear hc
        go_wp2_with fail
        refine (chk_any _ _ _ _ H.out.win).mono ?_
        rintro e w' ⟨rfl, rfl⟩
        go_wp2_with fail
        refine (mark_any _ _ _ _ H.out.win).mono ?_
        rw [EM.out]
        rintro e w5 ⟨rfl, hC, hW⟩
        replace H := Lib.hid (H.out.step hC hW)
        clear hC hW c
        go_wp2_with fail
        go_roundw
        case rel => exact ⟨k + 1, _, by omega, by omega, by go_num, fun j y hj hy => by
          by_cases hjk : j = k
          · subst hjk
            have e : y = z := by have := HZK.out; rw [hy] at this; exact Option.some.inj this
            rw [e]; exact HK.out
          · exact HOLD.out j y (by omega) hy, H.out⟩
        case measure => simp [intOf]; omega
    · have hend2 : zs.length ≤ k ∨ 300 ≤ k := by omega
      have hall : ∀ j z, j < 300 → zs[j]? = some z → chk W z ≠ 0 := fun j z hj hz => by
        have := (List.getElem?_eq_some_iff.1 hz).1
        exact HOLD.out j z (by omega) hz
      have HALL := Lib.hid hall
      clear hall hend HOLD
      have hcase : k = zs.length ∨ k < zs.length ∧ k = 300 := by omega
      rcases hcase with rfl | ⟨hkl, rfl⟩
      all_goals
        clear hend2
        go_wp2_with fail
        go_loopw [8] (fun i wr => ∃ k : Nat, k ≤ zs.length ∧ k ≤ 300 ∧ i = .int .i64 k ∧ Wb w b W wr) (fun i _ => 300 - (intOf i).toNat)
        case atStart => exact ⟨0, by omega, by omega, rfl, H.out⟩
        case round =>
          obtain ⟨k, hk, hk3, rfl, hH⟩ := hrel
          have H2 := Lib.hid hH
          clear hH
          by_cases hend : k < zs.length ∧ k < 300
          · obtain ⟨hk1, hk2⟩ := hend
            obtain ⟨g, o, rfl, hg, hcell⟩ := HZ.out (by omega)
            obtain ⟨z, hzk⟩ : ∃ z, zs[k]? = some z := ⟨_, List.getElem?_eq_getElem hk1⟩
            have c := (H2.out.chg.cell (p := ⟨g, o + k, none⟩) hg (not_nowhere _)).trans (hcell k z hzk)
            have t1 : (chk W z == 0) = false := by have := HALL.out k z hk2 hzk; simpa using this
            clear hzk hcell
            go_wp2_with fail
            refine (chk_any _ _ _ _ H2.out.win).mono ?_
            rintro e w' ⟨rfl, rfl⟩
            go_wp2_with fail
            go_roundw
            case rel => exact ⟨k + 1, by omega, by omega, by go_num, H2.out⟩
            case measure => simp [intOf]; omega
          · have hcase : k = zs.length ∨ k < zs.length ∧ k = 300 := by omega
            clear hend
            rcases hcase with rfl | ⟨hkl2, rfl⟩
            all_goals
              go_wp2_with fail
              all_goals
                go_ret
                exact ⟨rfl, H2.out.chg⟩

theorem onceW_walk' (A : Option Addr) (cap : Nat) (zs : List Int) (w : World) (hle : zs.length ≤ cap) (hcap : cap ≤ maxLen)
    (hz : 0 < zs.length → ∃ g o, A = some ⟨g, o, none⟩ ∧ g < w.heap.size ∧ ∀ (i : Nat) z, zs[i]? = some z → ∀ j u, ([Value.int .i64 z])[j]? = some u → w.cell? ⟨g, o + (i * 1 + j), none⟩ = some u) :
    Calls Try.prog 6 #[.slice A zs.length cap] w (ShownWTo w) := by
  refine onceW_walk A cap zs w (by unfold maxLen at hcap; omega) fun h0 => ?_
  obtain ⟨g, o, h1, h2, h3⟩ := hz h0
  exact ⟨g, o, h1, h2, fun i z hi => by have := h3 i z hi 0 _ rfl; rwa [Nat.mul_one, Nat.add_zero] at this⟩
def intR (z : Int) : List Value := [.int .i64 z]
theorem int_read {H : Type} {enc : TypeId × Value → H} {w : World} {base : Nat} {spare : Nat → Bool} {held : Bool} {m : Nat} {cs : List Value} {y : DataW H × List MemPlace}
    (h : DataW.trod enc Try.prog w base spare held m 3 cs = some y) : ∃ z, cs = intR z := by
  obtain ⟨n0, h0, _, w0⟩ := DataW.trod_int Try.underlying3 h
  exact ⟨n0, h0⟩
end Go.Proofs.Ytiijnhgafadokaa
