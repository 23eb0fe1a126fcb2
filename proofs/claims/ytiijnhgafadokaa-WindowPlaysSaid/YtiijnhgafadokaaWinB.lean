/-
  The calls of a window (layer 14): Mark.
-/
import Derived.Test.YtiijnhgafadokaaWinA
namespace Go.Proofs.Ytiijnhgafadokaa
open Go.RowKit Wins
set_option linter.unusedVariables false

theorem WinArr.set {arr : Array Value} {W : Win} (h : WinArr arr W) {at_ : Nat} (ha : at_ < 1024) (y : Nat) (hy : y < 18446744073709551616) (v : Bool)
    (hb : ∀ j, j < 64 → y.testBit j = if j = at_ % 64 then v else W.m (64 * (at_ / 64) + j)) :
    WinArr (arr.setIfInBounds (at_ / 64) (.int .u64 (y : Int))) ⟨fun i => if i = at_ then v else W.m i, W.next⟩ := by
  obtain ⟨hs, hw, hn⟩ := h
  refine ⟨by simpa using hs, fun i hi => ?_, ?_⟩
  · rw [Array.getElem?_setIfInBounds]
    by_cases e : at_ / 64 = i
    · subst e
      refine ⟨y, hy, by rw [if_pos rfl, if_pos (by omega)], fun j hj => ?_⟩
      rw [hb j hj]
      by_cases hj' : j = at_ % 64
      · rw [if_pos hj']; show v = if 64 * (at_ / 64) + j = at_ then v else _; rw [if_pos (by omega)]
      · rw [if_neg hj']; show _ = if 64 * (at_ / 64) + j = at_ then v else _; rw [if_neg (by omega)]
    · obtain ⟨x, hx, h1, h2⟩ := hw i hi
      refine ⟨x, hx, by rw [if_neg e]; exact h1, fun j hj => ?_⟩
      rw [h2 j hj]
      show _ = if 64 * i + j = at_ then v else W.m (64 * i + j)
      rw [if_neg (by omega)]
  · rw [Array.getElem?_setIfInBounds, if_neg (by omega)]; exact hn
theorem WinAt.set {w : World} {b : Nat} {W : Win} (h : WinAt w b W) {at_ : Nat} (ha : at_ < 1024) (y : Nat) (hy : y < 18446744073709551616) (v : Bool)
    (hb : ∀ j, j < 64 → y.testBit j = if j = at_ % 64 then v else W.m (64 * (at_ / 64) + j)) :
    WinAt (w.setCell ⟨b, at_ / 64, none⟩ (.int .u64 (y : Int))) b ⟨fun i => if i = at_ then v else W.m i, W.next⟩ := by
  obtain ⟨⟨arr, ha', hW⟩, hl⟩ := h
  exact ⟨⟨_, set_blk _ ha', hW.set ha y hy v hb⟩, hl⟩
theorem WinAt.setNext {w : World} {b : Nat} {W : Win} (h : WinAt w b W) (m : Nat) (hm : m ≤ 281474976710656) : WinAt (w.setCell ⟨b, 16, none⟩ (.int .i64 (m : Int))) b ⟨W.m, m⟩ := by
  obtain ⟨⟨arr, ha', hs, hw, hn⟩, hl⟩ := h
  refine ⟨⟨_, set_blk _ ha', by simpa using hs, fun i hi => ?_, ?_⟩, hm⟩
  · rw [Array.getElem?_setIfInBounds, if_neg (by omega)]; exact hw i hi
  · rw [Array.getElem?_setIfInBounds, if_pos rfl, if_pos (by omega)]

theorem clear_succ (W : Win) (n k : Nat) : (fun i => if i = (n - k) % 1024 then false else clearTo W n k i) = clearTo W n (k + 1) := by
  funext i
  unfold clearTo
  by_cases h : i = (n - k) % 1024
  · rw [if_pos h, if_pos ⟨k, by omega, h⟩]
  · rw [if_neg h]
    by_cases h2 : ∃ j, j < k ∧ i = (n - j) % 1024
    · obtain ⟨j, h3, h4⟩ := h2
      rw [if_pos ⟨j, h3, h4⟩, if_pos ⟨j, by omega, h4⟩]
    · rw [if_neg h2, if_neg]
      rintro ⟨j, h3, h4⟩
      by_cases hjk : j = k
      · subst hjk; exact h h4
      · exact h2 ⟨j, by omega, h4⟩
theorem clear_zero (W : Win) (n : Nat) : clearTo W n 0 = W.m := by
  funext i
  unfold clearTo
  rw [if_neg]
  rintro ⟨j, h, _⟩
  omega

def MarkTo (w : World) (b : Nat) (c : Int) (W : Win) (e : Ending) (w' : World) : Prop := e = .returned (.int .i64 c) ∧ Chg (At b) w w' ∧ WinAt w' b W

set_option maxHeartbeats 1600000 in
set_option maxRecDepth 100000 in
theorem mark_any (b : Nat) (n : Int) (W : Win) (w : World) (hW : WinAt w b W) :
    Calls Try.prog 29 #[.pointer (some ⟨b, 0, none⟩), .int .i64 n] w (MarkTo w b (chk W n) (marks W n)) := by
  have HW := Lib.hid hW
  have hle := hW.le
  have hnx := hW.nx
  clear hW
  by_cases hc : chk W n = 0
  · have hn : 0 ≤ n ∧ n ≤ 281474976710655 := by
      unfold chk at hc; split at hc
      · exact absurd hc (by decide)
      · omega
    obtain ⟨k, rfl⟩ := Int.eq_ofNat_of_zero_le hn.1
    have hk : k ≤ 281474976710655 := by omega
    have EM := Lib.hid (show marks W (k : Int) = put W k by rw [marks, if_pos hc, Int.toNat_natCast])
    have HK := Lib.hid hc
    clear hc hn
    go_enter Try.func29, Try.ntmps29
    go_wp2_with (go_at_call 28; refine (chk_any _ _ _ _ HW.out).mono ?_; rw [HK.out]; rintro e w' ⟨rfl, rfl⟩)
    all_goals
      obtain ⟨S, hS⟩ : ∃ S, S = sight W k := ⟨_, rfl⟩
      have hS1 : S ≤ 1024 := by rw [hS, sight]; omega
      have hS2 : S ≤ k + 1 - W.next := by rw [hS, sight]; omega
      have hS3 : S = 1024 ∨ S = k + 1 - W.next := by rw [hS, sight]; omega
      have HS := Lib.hid hS
      clear hS
      go_loopw [22] (fun i wr => ∃ j : Nat, j ≤ S ∧ i = .int .i64 j ∧ Chg (At b) w wr ∧ WinAt wr b ⟨clearTo W k j, W.next⟩) (fun i _ => 1024 - (intOf i).toNat)
      case atStart => exact ⟨0, by omega, rfl, Chg.refl _ _, by rw [clear_zero]; exact HW.out⟩
      case round =>
        obtain ⟨j, hj, rfl, hC, hWj⟩ := hrel
        have HC := Lib.hid hC
        have HWj := Lib.hid hWj
        clear hC hWj
        by_cases hj' : j < S
        · obtain ⟨x, hx, hcell, hbit⟩ := HWj.out.word (i := (k - j) % 1024 / 64) (by omega)
          have HB := Lib.hid hbit
          clear hbit
          have hfz := HWj.out.fz ((k - j) % 1024 / 64)
          go_wp2_with fail
          go_region
          rw [clear_bit hx (by omega)]
          have D := Lib.hid (HWj.out.set (at_ := (k - j) % 1024) (by omega) (less x (2 ^ ((k - j) % 64))) (less_lt hx) false (fun j' h' => by rw [less_pow, HB.out j' h', show (k - j) % 1024 % 64 = (k - j) % 64 by omega]))
          rw [clear_succ] at D
          go_wp2_with fail
          go_roundw
          case rel => exact ⟨j + 1, by omega, by go_num, HC.out.putAt.drew, D.out.keep rfl⟩
          case measure => simp [intOf]; omega
        · obtain rfl : j = S := by omega
          have h1 := HWj.out.nx
          have f16 := HWj.out.fz 16
          have f2 := HWj.out.fz (k % 1024 / 64)
          have hM : max W.next (k + 1) ≤ 281474976710656 := by omega
          have hW2 := HWj.out.setNext (max W.next (k + 1)) hM
          obtain ⟨x, hx, hcell, hbit⟩ := HWj.out.word (i := k % 1024 / 64) (by omega)
          have hW3 := hW2.set (at_ := k % 1024) (by omega) (x ||| 2 ^ (k % 64)) (or_lt hx (two_pow_lt (by omega))) true (fun j' h' => by rw [or_pow, hbit j' h', show k % 1024 % 64 = k % 64 by omega])
          have HW3 := Lib.hid hW3
          clear hbit hW2 hW3
          by_cases hmx : k + 1 ≤ W.next
          · rw [Nat.max_eq_left hmx] at HW3
            have hEM : put W k = ⟨fun i => if i = k % 1024 then true else clearTo W k j i, W.next⟩ := by
              rw [put, Nat.max_eq_left hmx, ← HS.out]
            have HEM := Lib.hid hEM
            clear hEM
            go_wp2_with fail
            all_goals
              go_region
              rw [put_bit hx (by omega)]
              go_wp2_with fail
              go_ret
              refine ⟨by rw [HK.out]; rfl, ?_, ?_⟩
              · exact ((HC.out.putAt).putAt).drew
              · rw [EM.out, HEM.out]
                exact HW3.out.keep rfl
          · rw [Nat.max_eq_right (by omega)] at HW3
            have hEM : put W k = ⟨fun i => if i = k % 1024 then true else clearTo W k j i, k + 1⟩ := by
              rw [put, Nat.max_eq_right (by omega), ← HS.out]
            have HEM := Lib.hid hEM
            clear hEM
            go_wp2_with fail
            all_goals
              go_region
              rw [put_bit hx (by omega)]
              go_wp2_with fail
              go_ret
              refine ⟨by rw [HK.out]; rfl, ?_, ?_⟩
              · exact ((HC.out.putAt).putAt).drew
              · rw [EM.out, HEM.out]
                exact HW3.out.keep rfl
  · have h1 : (chk W n != 0) = true := by simpa using hc
    have EM := Lib.hid (show marks W n = W by rw [marks, if_neg hc])
    clear hc
    go_enter Try.func29, Try.ntmps29
    go_wp2_with (go_at_call 28; refine (chk_any _ _ _ _ HW.out).mono ?_; rintro e w' ⟨rfl, rfl⟩)
    go_ret
    exact ⟨rfl, Chg.refl _ _, by rw [EM.out]; exact HW.out⟩
end Go.Proofs.Ytiijnhgafadokaa
