/-
  RangesOrder: the walk.
-/
import Derived.Test.YtlkbfacdaelbfaaRaO
import Derived.StillTailTactics
import Derived.Deep.DeepCutAuto
import Derived.Deep.CutBlock
namespace Go.Proofs.Ytlkbfacdaelbfaa
open Go.RowKit
set_option linter.unusedVariables false

/-- What the loop knows behind i rounds. -/
structure Ord (w0 : World) (l : List Op3) (n a b i : Nat) (w : World) : Prop where
  is : ∃ La Lb, Two w0 a b La Lb w ∧ (∀ x, Ra.mem La x ↔ cov (l.take i) x) ∧ (∀ x, Ra.mem Lb x ↔ cov ((l.take n).drop (n - i)) x) ∧ La.length ≤ i ∧ Lb.length ≤ 2 * i
def OrdA (w0 : World) (l : List Op3) (n a b i : Nat) : Ending → World → Prop := fun e w' => (∃ r, e = .returned (.int .i64 r)) ∧ ∃ La Lb, Two w0 a b La Lb w' ∧ (∀ x, Ra.mem La x ↔ cov (l.take (i + 1)) x) ∧ (∀ x, Ra.mem Lb x ↔ cov ((l.take n).drop (n - i)) x) ∧ La.length ≤ i + 1 ∧ Lb.length ≤ 2 * i
theorem Ord.a {w0 : World} {l : List Op3} {n a b i : Nat} {w : World} (h : Ord w0 l n a b i w) {z : Op3} (hz : l[i]? = some z) (hi : i ≤ 40) : Calls Try.prog 16 #[.pointer (some ⟨a, 0, none⟩), .int .i64 z.2.1, .int .i64 z.2.2] w (OrdA w0 l n a b i) := by
  obtain ⟨La, Lb, h1, h2, h3, h4, h5⟩ := h.is
  refine (h1.add (by omega) _ _).mono ?_
  rintro e w' ⟨L', rfl, q1, q2, q3, -⟩
  exact ⟨⟨_, rfl⟩, L', Lb, q3, fun x => by rw [q1, h2, cov_take hz], h3, by omega, h5⟩
/-- Once more: the second object, the row of the call that lies at the other end. -/
structure OrdB (w0 : World) (l : List Op3) (n a b i : Nat) (P : Int → Prop) (k : Nat) (w : World) : Prop where
  is : ∃ La Lb, Two w0 a b La Lb w ∧ (∀ x, Ra.mem La x ↔ cov (l.take (i + 1)) x) ∧ (∀ x, Ra.mem Lb x ↔ cov ((l.take n).drop (n - i)) x ∨ P x) ∧ La.length ≤ i + 1 ∧ Lb.length ≤ 2 * i + k
theorem OrdB.idle {w0 : World} {l : List Op3} {n a b i k : Nat} {P : Int → Prop} {w w' : World} (h : OrdB w0 l n a b i P k w) (hc : Chg Nowhere w w') : OrdB w0 l n a b i P k w' := by
  obtain ⟨La, Lb, h1, h2⟩ := h.is
  exact ⟨La, Lb, h1.idle hc, h2⟩
theorem OrdB.chg {w0 : World} {l : List Op3} {n a b i k : Nat} {P : Int → Prop} {w : World} (h : OrdB w0 l n a b i P k w) : Chg Nowhere w0 w := by
  obtain ⟨La, Lb, h1, h2⟩ := h.is
  exact h1.chg
def OrdBTo (w0 w : World) (l : List Op3) (n a b i : Nat) (P : Int → Prop) (k : Nat) : Ending → World → Prop := fun e w' => (∃ r, e = .returned (.int .i64 r)) ∧ OrdB w0 l n a b i P k w' ∧ Keeps w w'
theorem OrdB.b {w0 : World} {l : List Op3} {n a b i k : Nat} {P : Int → Prop} {w : World} (h : OrdB w0 l n a b i P k w) (f t : Int) (hi : i ≤ 40) (hk : k ≤ 2) : Calls Try.prog 16 #[.pointer (some ⟨b, 0, none⟩), .int .i64 f, .int .i64 t] w (OrdBTo w0 w l n a b i (fun x => P x ∨ (max f 0 ≤ x ∧ x < min t Ra.M)) (k + 1)) := by
  obtain ⟨La, Lb, h1, h2, h3, h4, h5⟩ := h.is
  refine (h1.swap.add (by omega) f t).mono ?_
  rintro e w' ⟨L', rfl, q1, q2, q3, q4⟩
  exact ⟨⟨_, rfl⟩, ⟨La, L', q3.swap, h2, fun x => by rw [q1, h3, or_assoc], h4, by omega⟩, q4⟩
theorem OrdB.next {w0 : World} {l : List Op3} {n a b i k : Nat} {P : Int → Prop} {w : World} (h : OrdB w0 l n a b i P k w) (hk : k ≤ 2) (hin : i < n) (hn : n ≤ l.length) {z : Op3} (hz : l[n - 1 - i]? = some z) (hP : ∀ x, P x ↔ (max z.2.1 0 ≤ x ∧ x < min z.2.2 Ra.M)) : Ord w0 l n a b (i + 1) w := by
  obtain ⟨La, Lb, h1, h2, h3, h4, h5⟩ := h.is
  have hz2 : (l.take n)[n - (i + 1)]? = some z := by rw [List.getElem?_take, if_pos (by omega), show n - (i + 1) = n - 1 - i by omega]; exact hz
  refine ⟨La, Lb, h1, h2, fun x => ?_, h4, by omega⟩
  rw [h3, cov_drop hz2, show n - (i + 1) + 1 = n - i by omega, hP]
  exact or_comm
/-- At the end both hold the same rows. -/
theorem Ord.done {w0 : World} {l : List Op3} {n a b : Nat} {w : World} (h : Ord w0 l n a b n w) : ∃ L, Two w0 a b L L w ∧ L.length ≤ n := by
  obtain ⟨La, Lb, h1, h2, h3, h4, h5⟩ := h.is
  have e : La = Lb := Ra.good_unique h1.ga h1.gb fun x => by rw [h2, h3, Nat.sub_self, List.drop_zero]
  subst e
  exact ⟨La, h1, h4⟩
set_option maxHeartbeats 4000000 in
set_option maxRecDepth 100000 in
theorem rangesOrder_walk (s s2 : Option Addr) (cap cap2 : Nat) (l : List Op3) (cuts : List Int) (w : World) (hl : OpsAt w s cap l) (hc : IntsAt w s2 cap2 cuts) :
    Calls Try.prog 3 #[.slice s l.length cap, .slice s2 cuts.length cap2] w (Gives w (.bool true)) := by
  have HL := Lib.hid hl
  have HCU := Lib.hid hc
  have hb1 : (l.length : Int) ≤ 9223372036854775807 := by have := hl.fits; have := hl.small; unfold maxLen at this; omega
  have hb2 : (cuts.length : Int) ≤ 9223372036854775807 := by have := hc.fits; have := hc.small; unfold maxLen at this; omega
  obtain ⟨N, hN⟩ : ∃ N, N = l.length := ⟨_, rfl⟩
  obtain ⟨m, hm⟩ : ∃ N, N = cuts.length := ⟨_, rfl⟩
  rw [← hN, ← hm]
  rw [← hN] at hb1
  rw [← hm] at hb2
  have HN := Lib.hid hN
  have HM := Lib.hid hm
  obtain ⟨n, hn⟩ : ∃ n, n = min N 40 := ⟨_, rfl⟩
  have hn1 : n ≤ 40 := by omega
  have HNN := Lib.hid (show n ≤ N by omega)
  have E := Lib.hid (show (if (40 : Int) < (N : Int) then (40 : Int) else (N : Int)) = (n : Int) by split <;> omega)
  clear hl hc hN hm hn
  go_enter Try.func3, Try.ntmps3
  go_upto_region 3 with (first
    | (go_at_call 14; refine (shownRa_any w).mono ?_; rintro e w1 ⟨rfl, h1⟩; have H1 := Lib.hid h1; clear h1)
    | (go_at_call 15; refine (Rn.new_ w _ H1.out).mono ?_; rintro e w2 ⟨a, rfl, hR⟩; have HA := Lib.hid hR; clear hR))
  go_upto_region 6 with (first
    | (go_at_call 15; refine (HA.out.new2).mono ?_; rintro e w3 ⟨b, rfl, hR⟩; have HT := Lib.hid hR; clear hR))
  go_cut [8] (fun t wx => t = .int .i64 (n : Int) ∧ Two w a b [] [] wx)
  case first =>
    rcases (by omega : (40 : Int) < (N : Int) ∨ ¬ ((40 : Int) < (N : Int))) with h | h
    all_goals
      have e := E.out
      simp only [h, if_true, if_false] at e
      clear E
      go_wp2_with fail
      go_meet
      exact ⟨by rw [← e], HT.out⟩
  case rest =>
    obtain ⟨rfl, hT⟩ := hcut
    have HT0 := Lib.hid (show Ord w l n a b 0 wc from ⟨[], [], hT, fun x => ⟨fun h => absurd h (Ra.mem_nil x), fun h => absurd h (cov_nil x)⟩, fun x => ⟨fun h => absurd h (Ra.mem_nil x), fun h => by rw [Nat.sub_zero, List.drop_eq_nil_of_le (by rw [List.length_take]; omega)] at h; exact absurd h (cov_nil x)⟩, by simp, by simp⟩)
    clear hT HT E
    go_wp2_with fail
    go_loopw [9] (fun i wr => ∃ k : Nat, k ≤ n ∧ i = .int .i64 (k : Int) ∧ Ord w l n a b k wr) (fun i _ => n - (intOf i).toNat)
    case atStart => exact ⟨0, by omega, rfl, HT0.out⟩
    case round =>
      obtain ⟨k, hk, rfl, hO⟩ := hrel
      have HO := Lib.hid hO
      clear hO
      by_cases hk2 : k < n
      · have HC := Lib.hid (show Chg Nowhere w wr by obtain ⟨La, Lb, h1, h2⟩ := HO.out.is; exact h1.chg)
        have hd : decide ((k : Int) < (n : Int)) = true := decide_eq_true (by omega)
        obtain ⟨g, o, rfl, hg, hx⟩ := HL.out.cells (by rw [← HN.out]; have := HNN.out; omega)
        obtain ⟨⟨z0, z1, z2⟩, hz⟩ : ∃ z, l[k]? = some z := ⟨_, List.getElem?_eq_getElem (by rw [← HN.out]; have := HNN.out; omega)⟩
        obtain ⟨⟨y0, y1, y2⟩, hy⟩ : ∃ z, l[n - 1 - k]? = some z := ⟨_, List.getElem?_eq_getElem (by rw [← HN.out]; have := HNN.out; omega)⟩
        have CX := Lib.hid (fun wx (hx2 : Chg Nowhere w wx) => show wx.cell? ⟨g, o + k * 3 + 1, none⟩ = some (.int .i64 z1) ∧ wx.cell? ⟨g, o + k * 3 + 2, none⟩ = some (.int .i64 z2) from ⟨(hx2.cell (p := ⟨g, o + k * 3 + 1, none⟩) hg (not_nowhere _)).trans (hx _ _ hz).2.1, (hx2.cell (p := ⟨g, o + k * 3 + 2, none⟩) hg (not_nowhere _)).trans (hx _ _ hz).2.2⟩)
        have CY := Lib.hid (fun wx (hx2 : Chg Nowhere w wx) => show wx.cell? ⟨g, o + (n - 1 - k) * 3, none⟩ = some (.int .i64 y0) ∧ wx.cell? ⟨g, o + (n - 1 - k) * 3 + 1, none⟩ = some (.int .i64 y1) ∧ wx.cell? ⟨g, o + (n - 1 - k) * 3 + 2, none⟩ = some (.int .i64 y2) from ⟨(hx2.cell (p := ⟨g, o + (n - 1 - k) * 3, none⟩) hg (not_nowhere _)).trans (hx _ _ hy).1, (hx2.cell (p := ⟨g, o + (n - 1 - k) * 3 + 1, none⟩) hg (not_nowhere _)).trans (hx _ _ hy).2.1, (hx2.cell (p := ⟨g, o + (n - 1 - k) * 3 + 2, none⟩) hg (not_nowhere _)).trans (hx _ _ hy).2.2⟩)
        have HZ := Lib.hid hz
        have HY := Lib.hid hy
        clear hx hz hy
        have hkN : (k : Int) < (N : Int) := by have := HNN.out; omega
        have hkN2 : k < N := by have := HNN.out; omega
        obtain ⟨c1, c2⟩ := CX.out wr HC.out
        go_upto_region 10 with fail
        go_still_tail 11, (by kernel_rfl)
        change wpList _ _ _ _ _ wr.drew
        have HO2 := Lib.hid (show Ord w l n a b k wr.drew from by
          obtain ⟨La, Lb, h1, h2⟩ := HO.out.is
          exact ⟨La, Lb, h1.idle ((Chg.refl Nowhere wr).drew), h2⟩)
        generalize wr.drew = wa at HO2 ⊢
        clear HO c1 c2 HC
        have hq : (n : Int) - 1 - (k : Int) = ((n - 1 - k : Nat) : Int) := by omega
        obtain ⟨q, hqq⟩ : ∃ q, q = n - 1 - k := ⟨_, rfl⟩
        rw [← hqq] at hq CY HY
        have HQ := Lib.hid hqq
        have hqN : q < N := by have := HNN.out; omega
        clear hqq
        go_upto_region 11 with (go_at_call 16; refine (HO2.out.a HZ.out (by omega)).mono ?_; rintro e wb ⟨⟨r1, rfl⟩, hB⟩; have HB := Lib.hid (show OrdB w l n a b k (fun _ => False) 0 wb from by obtain ⟨La, Lb, h1, h2, h3, h4, h5⟩ := hB; exact ⟨La, Lb, h1, h2, fun x => by rw [h3]; simp, h4, by omega⟩); clear hB)
        obtain ⟨d0, d1, d2⟩ := CY.out wb HB.out.chg
        go_upto_region 12 with fail
        have HB5 := Lib.hid (HB.out.idle ((Chg.refl Nowhere wb).alloc (Obj.cells #[.int .i64 y0, .int .i64 y1, .int .i64 y2] 29)))
        have HV5 := Lib.hid (alloc_new wb (Obj.cells #[.int .i64 y0, .int .i64 y1, .int .i64 y2] 29))
        obtain ⟨zb, hzb⟩ : ∃ x, x = wb.heap.size := ⟨_, rfl⟩
        rw [← hzb] at HV5 ⊢
        generalize wb.alloc (Obj.cells #[.int .i64 y0, .int .i64 y1, .int .i64 y2] 29) = w5 at HB5 HV5 ⊢
        clear hzb HB HO2 d0 d1 d2
        have VC := Lib.hid (fun (wx : World) (h : wx.heap[zb]? = some (.cells #[.int .i64 y0, .int .i64 y1, .int .i64 y2] 29 (0, 0))) => show wx.cell? ⟨zb, 1, none⟩ = some (.int .i64 y1) ∧ wx.cell? ⟨zb, 2, none⟩ = some (.int .i64 y2) from ⟨by rw [cell_blk h]; rfl, by rw [cell_blk h]; rfl⟩)
        obtain ⟨f1, f2⟩ := VC.out w5 HV5.out
        by_cases hkm : k < m
        · have hd1 : decide ((k : Int) < (m : Int)) = true := decide_eq_true (by omega)
          have hkm2 : (k : Int) < (m : Int) := by omega
          obtain ⟨g2, o2, rfl, hg2, hx2⟩ := HCU.out.cells (by rw [← HM.out]; omega)
          obtain ⟨c, hcc⟩ : ∃ z, cuts[k]? = some z := ⟨_, List.getElem?_eq_getElem (by rw [← HM.out]; omega)⟩
          have CC := Lib.hid (fun wx (h : Chg Nowhere w wx) => show wx.cell? ⟨g2, o2 + k, none⟩ = some (.int .i64 c) from (h.cell (p := ⟨g2, o2 + k, none⟩) hg2 (not_nowhere _)).trans (hx2 _ _ hcc))
          have e1 := CC.out w5 HB5.out.chg
          clear hx2 hcc
          by_cases hc1 : y1 < c
          · have hd2 : decide (y1 < c) = true := decide_eq_true hc1
            by_cases hc2 : c < y2
            · have hd3 : decide (c < y2) = true := decide_eq_true hc2
              go_quiet (fail)
              have HB6 := Lib.hid (HB5.out.idle ((Chg.refl Nowhere w5).drewN nq))
              have HV6 := Lib.hid (show (w5.drewN nq).heap[zb]? = some (.cells #[.int .i64 y0, .int .i64 y1, .int .i64 y2] 29 (0, 0)) from HV5.out)
              generalize w5.drewN nq = w6 at HB6 HV6 ⊢
              clear HB5 HV5 f1 f2 e1
              obtain ⟨f1, f2⟩ := VC.out w6 HV6.out
              have e1 := CC.out w6 HB6.out.chg
              go_upto_region 13 with fail
              go_still_tail 7, (by kernel_rfl)
              change wpList _ _ _ _ _ w6.drew
              have HB7 := Lib.hid (HB6.out.idle ((Chg.refl Nowhere w6).drew))
              have HV7 := Lib.hid (show (w6.drew).heap[zb]? = some (.cells #[.int .i64 y0, .int .i64 y1, .int .i64 y2] 29 (0, 0)) from HV6.out)
              generalize w6.drew = w7 at HB7 HV7 ⊢
              clear HB6 HV6 f1 f2 e1
              go_upto_region 14 with (go_at_call 16; refine (HB7.out.b c y2 (by omega) (by omega)).mono ?_; rintro e w8 ⟨⟨r8, rfl⟩, hB, hK⟩; have HB8 := Lib.hid hB; have HV8 := Lib.hid (hK _ _ _ (by decide) (by decide) HV7.out); clear hB hK)
              obtain ⟨f1, f2⟩ := VC.out w8 HV8.out
              have e1 := CC.out w8 HB8.out.chg
              go_still_tail 7, (by kernel_rfl)
              change wpList _ _ _ _ _ w8.drew
              have HB9 := Lib.hid (HB8.out.idle ((Chg.refl Nowhere w8).drew))
              generalize w8.drew = w9 at HB9 ⊢
              clear HB8 HV8 f1 f2 e1 HB7 HV7
              go_wp2_with (go_at_call 16; refine (HB9.out.b y1 c (by omega) (by omega)).mono ?_; rintro e wz ⟨⟨r9, rfl⟩, hB, -⟩; have HBz := Lib.hid hB; clear hB)
              go_roundw
              case rel => exact ⟨k + 1, by omega, by go_num, HBz.out.next (by omega) hk2 (by rw [← HN.out]; exact HNN.out) (by rw [← HQ.out]; exact HY.out) (fun x => by simp only [false_or, Ra.M]; omega)⟩
              case measure => simp [intOf]; omega
            · have hd3 : decide (c < y2) = false := decide_eq_false hc2
              go_quiet (fail)
              have HB6 := Lib.hid (HB5.out.idle ((Chg.refl Nowhere w5).drewN nq))
              have HV6 := Lib.hid (show (w5.drewN nq).heap[zb]? = some (.cells #[.int .i64 y0, .int .i64 y1, .int .i64 y2] 29 (0, 0)) from HV5.out)
              generalize w5.drewN nq = w6 at HB6 HV6 ⊢
              clear HB5 HV5 f1 f2
              obtain ⟨f1, f2⟩ := VC.out w6 HV6.out
              go_wp2_with (go_at_call 16; refine (HB6.out.b y1 y2 (by omega) (by omega)).mono ?_; rintro e w8 ⟨⟨r8, rfl⟩, hB, -⟩; have HB8 := Lib.hid hB; clear hB)
              go_roundw
              case rel => exact ⟨k + 1, by omega, by go_num, HB8.out.next (by omega) hk2 (by rw [← HN.out]; exact HNN.out) (by rw [← HQ.out]; exact HY.out) (fun x => by simp only [false_or])⟩
              case measure => simp [intOf]; omega
          · have hd2 : decide (y1 < c) = false := decide_eq_false hc1
            go_quiet (fail)
            have HB6 := Lib.hid (HB5.out.idle ((Chg.refl Nowhere w5).drewN nq))
            have HV6 := Lib.hid (show (w5.drewN nq).heap[zb]? = some (.cells #[.int .i64 y0, .int .i64 y1, .int .i64 y2] 29 (0, 0)) from HV5.out)
            generalize w5.drewN nq = w6 at HB6 HV6 ⊢
            clear HB5 HV5 f1 f2
            obtain ⟨f1, f2⟩ := VC.out w6 HV6.out
            go_wp2_with (go_at_call 16; refine (HB6.out.b y1 y2 (by omega) (by omega)).mono ?_; rintro e w8 ⟨⟨r8, rfl⟩, hB, -⟩; have HB8 := Lib.hid hB; clear hB)
            go_roundw
            case rel => exact ⟨k + 1, by omega, by go_num, HB8.out.next (by omega) hk2 (by rw [← HN.out]; exact HNN.out) (by rw [← HQ.out]; exact HY.out) (fun x => by simp only [false_or])⟩
            case measure => simp [intOf]; omega
        · have hd1 : decide ((k : Int) < (m : Int)) = false := decide_eq_false (by omega)
          have hkm2 : ¬ ((k : Int) < (m : Int)) := by omega
          go_quiet (fail)
          have HB6 := Lib.hid (HB5.out.idle ((Chg.refl Nowhere w5).drewN nq))
          have HV6 := Lib.hid (show (w5.drewN nq).heap[zb]? = some (.cells #[.int .i64 y0, .int .i64 y1, .int .i64 y2] 29 (0, 0)) from HV5.out)
          generalize w5.drewN nq = w6 at HB6 HV6 ⊢
          clear HB5 HV5 f1 f2
          obtain ⟨f1, f2⟩ := VC.out w6 HV6.out
          go_wp2_with (go_at_call 16; refine (HB6.out.b y1 y2 (by omega) (by omega)).mono ?_; rintro e w8 ⟨⟨r8, rfl⟩, hB, -⟩; have HB8 := Lib.hid hB; clear hB)
          go_roundw
          case rel => exact ⟨k + 1, by omega, by go_num, HB8.out.next (by omega) hk2 (by rw [← HN.out]; exact HNN.out) (by rw [← HQ.out]; exact HY.out) (fun x => by simp only [false_or])⟩
          case measure => simp [intOf]; omega
      · obtain rfl : k = n := by omega
        have hd : decide ((k : Int) < (k : Int)) = false := decide_eq_false (by omega)
        obtain ⟨K, hT2, hKl⟩ := HO.out.done
        have HT2 := Lib.hid hT2
        clear hT2 HO
        go_upto_region 17 with (go_at_call 17; refine (HT2.out.a.list (by omega)).mono ?_; rintro e w5 ⟨v5, rfl, q1, q2, q3⟩; obtain ⟨A5, c5, rfl⟩ := ownR_shape q1; have HV := Lib.hid q1; have HT5 := Lib.hid (HT2.out.idle q2); clear q1 q2 q3)
        obtain ⟨r, hr⟩ : ∃ r, r = K.length := ⟨_, rfl⟩
        have HRL := Lib.hid hr
        have hrb : r ≤ 40 := by omega
        have HRD := Lib.hid (Rd.of_owns HV.out)
        rw [← hr] at HRD ⊢
        clear hr hKl
        go_wp2_with fail
        go_loopw [12] (fun i wr => ∃ j : Nat, 1 ≤ j ∧ i = .int .i64 (j : Int) ∧ Chg Nowhere w5 wr) (fun i _ => r + 1 - (intOf i).toNat)
        case atStart => exact ⟨1, by omega, rfl, Chg.refl _ _⟩
        case round =>
          obtain ⟨j, hj, rfl, hC⟩ := hrel
          have HC := Lib.hid hC
          clear hC
          by_cases hjr : j < r
          · have hd : decide ((j : Int) < (r : Int)) = true := decide_eq_true (by omega)
            have hjr2 : (j : Int) < (r : Int) := by omega
            obtain ⟨-, A6, c6, hv6, -, hx⟩ := HRD.out
            simp only [Value.slice.injEq] at hv6
            obtain ⟨rfl, -, rfl⟩ := hv6
            obtain ⟨g, o, rfl, hg, hx⟩ := hx (by omega)
            obtain ⟨x1, hx1⟩ : ∃ a, a = (K.getD j (0, 0)).1 := ⟨_, rfl⟩
            obtain ⟨x2, hx2⟩ : ∃ a, a = (K.getD j (0, 0)).2 := ⟨_, rfl⟩
            obtain ⟨p1, hp1⟩ : ∃ a, a = j - 1 := ⟨_, rfl⟩
            obtain ⟨x3, hx3⟩ : ∃ a, a = (K.getD p1 (0, 0)).2 := ⟨_, rfl⟩
            have hjK : j < K.length := by rw [← HRL.out]; exact hjr
            have hpK : p1 < K.length := by omega
            have g1 := flat_get K j _ (some_getD (d := (0, 0)) hjK)
            have g2 := flat_get K p1 _ (some_getD (d := (0, 0)) hpK)
            have hfl := flat_len K
            have a0 : wr.cell? ⟨g, o + j * 2, none⟩ = some (.int .i64 x1) := (HC.out.cell (p := ⟨g, o + j * 2, none⟩) hg (not_nowhere _)).trans ((hx _ (by omega)).trans (by rw [hx1]; exact g1.1))
            have a1 : wr.cell? ⟨g, o + j * 2 + 1, none⟩ = some (.int .i64 x2) := (HC.out.cell (p := ⟨g, o + j * 2 + 1, none⟩) hg (not_nowhere _)).trans ((hx (j * 2 + 1) (by omega)).trans (by rw [hx2]; exact g1.2))
            have a2 : wr.cell? ⟨g, o + p1 * 2 + 1, none⟩ = some (.int .i64 x3) := (HC.out.cell (p := ⟨g, o + p1 * 2 + 1, none⟩) hg (not_nowhere _)).trans ((hx (p1 * 2 + 1) (by omega)).trans (by rw [hx3]; exact g2.2))
            have l1 := HT5.out.ga.lt (j := p1) (k := j) (by omega) hjK
            have l2 := HT5.out.ga.getD hjK
            rw [← hx1, ← hx3] at l1
            rw [← hx1, ← hx2] at l2
            have t1 : decide (x1 ≤ x3) = false := decide_eq_false (by omega)
            have t2 : decide (x2 ≤ x1) = false := decide_eq_false (by omega)
            have t3 : ¬ (x1 ≤ x3) := by omega
            have t4 : ¬ (x2 ≤ x1) := by omega
            have jp : (j : Int) - 1 = (p1 : Int) := by omega
            have jpw : IntKind.i64.wrap (p1 : Int) = (p1 : Int) := by rw [IntKind.wrap_i64]; omega
            have jpr : p1 < r := by omega
            have jpr2 : (p1 : Int) < (r : Int) := by omega
            clear hx hx1 hx2 hx3 hp1 g1 g2 hfl l1 l2 hjK hpK
            go_upto_region 20 with fail
            go_quiet (fail)
            clear jp jpw a0 a1 a2
            go_wp2_with fail
            go_roundw
            case rel => exact ⟨j + 1, by omega, by go_num, HC.out.drewN _⟩
            case measure => simp [intOf]; omega
          · have hd : decide ((j : Int) < (r : Int)) = false := decide_eq_false (by omega)
            have hjr2 : ¬ ((j : Int) < (r : Int)) := by omega
            have HT6 := Lib.hid (HT5.out.idle HC.out)
            have HV6 := Lib.hid (own_chg HV.out HC.out (fun _ _ => not_nowhere _))
            go_wp2_with (first
              | (go_at_call 17; refine (HT6.out.swap.a.list (by have := HRL.out; omega)).mono ?_; rintro e w7 ⟨v7, rfl, q1, q2, q3⟩; have HV7 := Lib.hid q1; have HW7 := Lib.hid (own_chg HV6.out q2 (fun _ _ => not_nowhere _)); have HT7 := Lib.hid (HT6.out.idle q2); clear q1 q2 q3)
              | (go_at_call 18; rw [HRL.out]; refine (same17_any _ _ K K _ (Rd.of_owns HW7.out) (Rd.of_owns HV7.out) (by have := HRL.out; omega) (by have := HRL.out; omega)).mono ?_; rintro e w8 ⟨rfl, q2⟩; have HT8 := Lib.hid (HT7.out.idle q2); clear q2))
            go_ret
            exact ⟨by simp, HT8.out.chg⟩
end Go.Proofs.Ytlkbfacdaelbfaa
