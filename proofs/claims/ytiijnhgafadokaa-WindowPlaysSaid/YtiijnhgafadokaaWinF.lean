/-
  The calls of a window (layer 14): Below.
-/
import Derived.Test.YtiijnhgafadokaaWinE
namespace Go.Proofs.Ytiijnhgafadokaa
open Go.RowKit Wins
set_option linter.unusedVariables false

/-- What Below gathers, from lo + d - 1 down, behind L. -/
def bel (W : Win) (most : Int) (lo : Nat) : Nat → List (Int × Int) → List (Int × Int)
  | 0, L => L
  | d + 1, L =>
    if hasB W (lo + d) = false then bel W most lo d L
    else match L.getLast? with
      | some r => if r.1 = ((lo + d : Nat) : Int) + 1 then bel W most lo d (L.set (L.length - 1) (((lo + d : Nat) : Int), r.2))
        else if most ≤ L.length then L else bel W most lo d (L ++ [(((lo + d : Nat) : Int), ((lo + d : Nat) : Int) + 1)])
      | none => if most ≤ L.length then L else bel W most lo d (L ++ [(((lo + d : Nat) : Int), ((lo + d : Nat) : Int) + 1)])
def lowest (W : Win) : Nat := W.next - 1024
def below (W : Win) (most : Int) : List (Int × Int) := (bel W most (lowest W) (W.next - 1 - lowest W) []).reverse

def BelowTo (w : World) (l : List (Int × Int)) (e : Ending) (w' : World) : Prop :=
  ∃ v, e = .returned v ∧ w'.ownsRow w.heap.size 49 2 v l.length (flat l) ∧ Chg Nowhere w w'

theorem infoRange : (Try.prog.info? 49).map (fun i => (i.zero, i.size, i.bytes)) = some (some (.agg #[.int .i64 0, .int .i64 0]), 2, 16) := by kernel_rfl

theorem new2 (w : World) (x y : Value) (t : TypeId) : ∀ j u, [x, y][j]? = some u → (w.alloc (.cells #[x, y] t)).cell? ((⟨w.heap.size, 0, none⟩ : Addr).add j) = some u := by
  intro j u h
  match j, h with
  | 0, h =>
    have e : (⟨w.heap.size, 0, none⟩ : Addr).add 0 = ⟨w.heap.size, 0, none⟩ := rfl
    rw [e, cell_blk (alloc_new w (.cells #[x, y] t))]; simpa using h
  | 1, h =>
    have e : (⟨w.heap.size, 0, none⟩ : Addr).add 1 = ⟨w.heap.size, 1, none⟩ := rfl
    rw [e, cell_blk (alloc_new w (.cells #[x, y] t))]; simpa using h

theorem reverse_n (base : Nat) (v : Value) (l : List (Int × Int)) (n : Nat) (w : World) (h : w.ownsRow base 49 2 v n (flat l)) (hn : l.length = n) (hl : n ≤ 1000000) :
    Calls Try.prog 68 #[v] w (RevTo w base v l) := by
  subst hn
  exact reverse_any base v l w h hl
theorem has_int (b : Nat) (x : Int) (m : Nat) (W : Win) (w : World) (e : Hid (x = (m : Int))) (hW : WinAt w b W) (hn : m ≤ 281474976710656) :
    Calls Try.prog 67 #[.pointer (some ⟨b, 0, none⟩), .int .i64 x] w fun e w' => e = .returned (.bool (hasB W m)) ∧ w = w' := by
  have h : x = (m : Int) := e.out
  rw [h]
  exact has_any b m W w hW hn

set_option maxHeartbeats 1600000 in
set_option maxRecDepth 100000 in
theorem below_any (b : Nat) (most : Int) (W : Win) (w : World) (hW : WinAt w b W) :
    Calls Try.prog 30 #[.pointer (some ⟨b, 0, none⟩), .int .i64 most] w (BelowTo w (below W most)) := by
  have HW := Lib.hid hW
  have hle := hW.le
  have hnx := hW.nx
  have hbl := hW.lt
  clear hW
  obtain ⟨i0, hi, hz0, hz1, hz2⟩ := info_parts infoRange
  obtain ⟨F, hF⟩ : ∃ F, F = bel W most (lowest W) (W.next - 1 - lowest W) [] := ⟨_, rfl⟩
  have EF := Lib.hid (show below W most = F.reverse by rw [below, hF])
  have HF := Lib.hid hF
  clear hF
  go_enter Try.func30, Try.ntmps30
  go_wp2_with fail
  go_step3
  go_wp2_with fail
  go_step3
  go_wp2_with fail
  have lo1 : W.next ≤ lowest W + 1024 := by unfold lowest; omega
  have lo2 : lowest W ≤ W.next := by unfold lowest; omega
  have lo3 : lowest W = 0 ∨ lowest W + 1024 = W.next := by unfold lowest; omega
  go_loopw [5, 6] (fun v n wr => ∃ (d : Nat) (L : List (Int × Int)) (x : Int), n = .int .i64 x ∧ (d = 0 ∧ x < lowest W ∨ 0 < d ∧ x = (lowest W : Int) + d - 1 ∧ lowest W + d + 1 ≤ W.next) ∧ -3 ≤ x ∧ bel W most (lowest W) d L = F ∧ L.length + d ≤ 1024 ∧ wr.ownsRow w.heap.size 49 2 v L.length (flat L) ∧ Chg Nowhere w wr) (fun _ n _ => ((intOf n) + 1 - lowest W).toNat)
  case atStart => exact ⟨W.next - 1 - lowest W, [], _, rfl, by omega, by omega, HF.out.symm, by simp; omega, World.ownsRow_nil _ _ _ _, Chg.refl _ _⟩
  case round =>
    obtain ⟨d, L, x, rfl, hx, hx3, hbel, hlen, hO, hC⟩ := hrel
    have HO := Lib.hid hO
    have HC := Lib.hid hC
    have hcn := (hC.cell (p := ⟨b, 16, none⟩) hbl (not_nowhere _)).trans hnx
    have HWr := Lib.hid (HW.out.chg hC (not_nowhere _))
    obtain ⟨_, A, cap, rfl, _, _⟩ := Rd.of_owns hO
    clear hO hC
    rcases hx with ⟨rfl, hx⟩ | ⟨hd, hx, hx2⟩
    · have HFL := Lib.hid (show L = F from hbel)
      clear hbel
      have Q := Lib.hid (show below W most = L.reverse by rw [EF.out, ← HFL.out])
      go_wp2_with (go_at_call 68; refine (reverse_any w.heap.size _ L _ HO.out (by omega)).mono ?_; rintro e w5 ⟨rfl, hR, hC5⟩)
      all_goals
        go_ret
        exact ⟨_, rfl, by rw [Q.out, List.length_reverse]; exact hR, HC.out.trans hC5 (fun i hi e => absurd (HO.out.lt i e).1 (by omega))⟩
    · obtain ⟨d, rfl⟩ : ∃ e, d = e + 1 := ⟨d - 1, by omega⟩
      have HX := Lib.hid (show x = ((lowest W + d : Nat) : Int) by omega)
      have hx4 : 0 ≤ x := by omega
      have hxl : (lowest W : Int) ≤ x := by omega
      have hm : lowest W + d ≤ 281474976710656 := by omega
      have hxu : x ≤ 281474976710656 := by omega
      have HX2 := Lib.hid hx
      clear hx hd
      rw [bel] at hbel
      cases hh : hasB W (lowest W + d) with
      | false =>
        rw [if_pos hh] at hbel
        have HB := Lib.hid hbel
        have HH := Lib.hid hh
        clear hbel hh
        go_wp2_with (go_at_call 67; refine (has_int _ _ _ _ _ HX HWr.out hm).mono ?_; rw [HH.out]; rintro e w' ⟨rfl, rfl⟩)
        go_roundw
        case rel => exact ⟨d, L, x - 1, rfl, (by have := HX.out; omega), (by omega), HB.out, (by omega), HO.out, HC.out⟩
        case measure => simp [intOf]; omega
      | true =>
        rw [if_neg (by rw [hh]; decide)] at hbel
        have HH := Lib.hid hh
        clear hh
        rw [← HX.out] at hbel
        rcases List.eq_nil_or_concat L with rfl | ⟨L0, r, rfl⟩
        · simp only [List.getLast?_nil, List.length_nil, List.nil_append] at hbel
          by_cases hm0 : most ≤ 0
          · rw [if_pos (by simpa using hm0)] at hbel
            have HFL := Lib.hid hbel
            clear hbel
            have Q := Lib.hid (show below W most = (([] : List (Int × Int))).reverse by rw [EF.out, ← HFL.out])
            go_wp2_with (first | (go_at_call 67; refine (has_int _ _ _ _ _ HX HWr.out hm).mono ?_; rw [HH.out]; rintro e w' ⟨rfl, rfl⟩) | (go_at_call 68; refine (reverse_n w.heap.size _ ([] : List (Int × Int)) 0 _ HO.out (by simp) (by omega)).mono ?_; rintro e w5 ⟨rfl, hR, hC5⟩))
            all_goals
              go_ret
              exact ⟨_, rfl, by rw [Q.out, List.length_reverse]; exact hR, HC.out.trans hC5 (fun i hi e => absurd (HO.out.lt i e).1 (by omega))⟩
          · rw [if_neg (by simpa using hm0)] at hbel
            have HB := Lib.hid hbel
            clear hbel
            have hs := HC.out.size
            go_wp2_with (first | (go_at_call 67; refine (has_int _ _ _ _ _ HX HWr.out hm).mono ?_; rw [HH.out]; rintro e w' ⟨rfl, rfl⟩) | (at_builtin; refine wpList_append_own _ rfl _ _ 45 rfl w.heap.size 49 i0 (.agg #[.int .i64 0, .int .i64 0]) 2 16 Try.underlying45 hi hz0 hz1 hz2 rfl (by decide) _ _ _ rfl (HO.out.alloc _) ⟨wr.heap.size, 0, none⟩ 1 1 [.int .i64 x, .int .i64 (x + 1)] rfl rfl (new2 _ _ _ _) (fun y hy => by simp at hy; rcases hy with rfl | rfl <;> rfl) (by unfold maxLen; omega) (by omega) (by simp; omega) ?_; intro v' w3 hown' hgrow3 hnil3))
            have hC3 : Chg Nowhere w w3 := (HC.out.alloc _).grown hgrow3 (fun k hk => .inl (HO.out.lt k hk).1)
            go_roundw
            case rel => exact ⟨d, ([] : List (Int × Int)) ++ [(x, x + 1)], x - 1, rfl, (by have := HX.out; omega), (by omega), HB.out, (by simp at hlen ⊢; omega), (by rw [flat_append]; simpa [flat_one] using hown'), hC3⟩
            case measure => simp [intOf]; omega
        · rw [List.concat_eq_append] at *
          simp only [List.getLast?_append, List.getLast?_singleton, Option.some_or, List.length_append, List.length_singleton] at hbel hlen HO
          rcases HO.out.2 with ⟨_, h0⟩ | ⟨g, cap', cur, hv, hgb, _, _, _, _, _⟩
          · omega
          · simp only [Value.slice.injEq, true_and] at hv
            obtain ⟨rfl, rfl⟩ := hv
            have hr : (L0 ++ [r])[L0.length]? = some r := by simp
            have hcell := (HO.out.cellAt (L0.length * 2) (by omega)).trans (flat_get _ _ _ hr).1
            have hfz := HO.out.frozenAt (L0.length * 2)
            have HR0 := Lib.hid hr
            clear hr
            by_cases hr1 : r.1 = x + 1
            · rw [if_pos hr1] at hbel
              have t1 : (r.1 == x + 1) = true := by simp [hr1]
              have HB := Lib.hid (show bel W most (lowest W) d ((L0 ++ [r]).set L0.length (x, r.2)) = F from hbel)
              have hst := (HO.out.stored (L0.length * 2) (.int .i64 x)).1
              rw [flat_set1 _ _ r x HR0.out] at hst
              have HST := Lib.hid hst
              clear hbel hr1 hst
              go_wp2_with (first | (go_at_call 67; refine (has_int _ _ _ _ _ HX HWr.out hm).mono ?_; rw [HH.out]; rintro e w' ⟨rfl, rfl⟩) | fail)
              go_roundw
              case rel => exact ⟨d, (L0 ++ [r]).set L0.length (x, r.2), x - 1, rfl, (by have := HX.out; omega), (by omega), HB.out, (by simp at hlen ⊢; omega), (by simpa using HST.out), HC.out.put (.inr hgb)⟩
              case measure => simp [intOf]; omega
            · rw [if_neg hr1] at hbel
              have t1 : (r.1 == x + 1) = false := by simpa using hr1
              clear hr1
              by_cases hm0 : most ≤ ((L0.length + 1 : Nat) : Int)
              · rw [if_pos hm0] at hbel
                have hm1 : most ≤ (L0.length : Int) + 1 := by omega
                have HFL := Lib.hid hbel
                clear hbel hm0
                have Q := Lib.hid (show below W most = (L0 ++ [r]).reverse by rw [EF.out, ← HFL.out])
                go_wp2_with (first | (go_at_call 67; refine (has_int _ _ _ _ _ HX HWr.out hm).mono ?_; rw [HH.out]; rintro e w' ⟨rfl, rfl⟩) | (go_at_call 68; refine (reverse_n w.heap.size _ (L0 ++ [r]) (L0.length + 1) _ HO.out (by simp) (by omega)).mono ?_; rintro e w5 ⟨rfl, hR, hC5⟩))
                all_goals
                  go_ret
                  exact ⟨_, rfl, by rw [Q.out, List.length_reverse]; exact hR, HC.out.trans hC5 (fun i hi e => absurd (HO.out.lt i e).1 (by omega))⟩
              · rw [if_neg hm0] at hbel
                have hm1 : ¬ most ≤ (L0.length : Int) + 1 := by omega
                have HB := Lib.hid hbel
                clear hbel hm0
                have hs := HC.out.size
                go_wp2_with (first | (go_at_call 67; refine (has_int _ _ _ _ _ HX HWr.out hm).mono ?_; rw [HH.out]; rintro e w' ⟨rfl, rfl⟩) | (at_builtin; refine wpList_append_own _ rfl _ _ 45 rfl w.heap.size 49 i0 (.agg #[.int .i64 0, .int .i64 0]) 2 16 Try.underlying45 hi hz0 hz1 hz2 rfl (by decide) _ _ _ rfl (HO.out.alloc _) ⟨wr.heap.size, 0, none⟩ 1 1 [.int .i64 x, .int .i64 (x + 1)] rfl rfl (new2 _ _ _ _) (fun y hy => by simp at hy; rcases hy with rfl | rfl <;> rfl) (by unfold maxLen; omega) (by omega) (by simp; omega) ?_; intro v' w3 hown' hgrow3 hnil3))
                have hC3 : Chg Nowhere w w3 := (HC.out.alloc _).grown hgrow3 (fun k hk => .inl (HO.out.lt k hk).1)
                go_roundw
                case rel => exact ⟨d, L0 ++ [r] ++ [(x, x + 1)], x - 1, rfl, (by have := HX.out; omega), (by omega), HB.out, (by simp at hlen ⊢; omega), (by rw [flat_append]; simpa [flat_one] using hown'), hC3⟩
                case measure => simp [intOf]; omega
end Go.Proofs.Ytiijnhgafadokaa
