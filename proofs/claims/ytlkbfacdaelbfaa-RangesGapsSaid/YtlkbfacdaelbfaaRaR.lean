/-
  RangesGaps: the walk.
-/
import Derived.Test.YtlkbfacdaelbfaaRaQ
namespace Go.Proofs.Ytlkbfacdaelbfaa
open Go.RowKit
set_option linter.unusedVariables false

def hasB (L : List Ra.Row) (n : Int) : Bool := L.any (fun r => decide (r.1 ≤ n) && decide (n < r.2))
theorem hasB_iff (L : List Ra.Row) (n : Int) : hasB L n = true ↔ Ra.mem L n := (Ra.mem_at L n).symm
/-- How many of k numbers are there. -/
def cn (L : List Ra.Row) (a : Nat) : Nat → Nat
  | 0 => 0
  | k + 1 => cn L a k + if hasB L ((a + k : Nat) : Int) then 1 else 0
theorem cn_all {L : List Ra.Row} {a k : Nat} : ∀ {m : Nat}, (∀ x : Nat, a + k ≤ x → x < a + k + m → Ra.mem L (x : Int)) → cn L a (k + m) = cn L a k + m
  | 0, _ => rfl
  | m + 1, h => by
    have ih := cn_all (k := k) (m := m) fun x h1 h2 => h x h1 (by omega)
    have e : hasB L ((a + (k + m) : Nat) : Int) = true := (hasB_iff _ _).2 (h (a + (k + m)) (by omega) (by omega))
    rw [← Nat.add_assoc k m 1, cn, ih, e]
    simp; omega
theorem cn_none {L : List Ra.Row} {a k : Nat} : ∀ {m : Nat}, (∀ x : Nat, a + k ≤ x → x < a + k + m → ¬ Ra.mem L (x : Int)) → cn L a (k + m) = cn L a k
  | 0, _ => rfl
  | m + 1, h => by
    have ih := cn_none (k := k) (m := m) fun x h1 h2 => h x h1 (by omega)
    have e : hasB L ((a + (k + m) : Nat) : Int) = false := by
      cases hq : hasB L ((a + (k + m) : Nat) : Int) with
      | false => rfl
      | true => exact absurd ((hasB_iff _ _).1 hq) (h (a + (k + m)) (by omega) (by omega))
    rw [← Nat.add_assoc k m 1, cn, ih, e]
    simp
/-- What the gaps come to, up to x. -/
structure GapSum (L : List Ra.Row) (f t x gz q : Nat) : Prop where
  fx : f ≤ x
  xt : x ≤ t ∨ x = f
  sum : gz + cn L f (x - f) = x - f
  iq : q ≤ x - f
theorem GapSum.start (L : List Ra.Row) (f t : Nat) : GapSum L f t f 0 0 := ⟨Nat.le_refl _, .inr rfl, by rw [Nat.sub_self]; rfl, by omega⟩
theorem GapSum.gap {L : List Ra.Row} {f t x gz q : Nat} (h : GapSum L f t x gz q) (hx : x < t) {g : Ra.Row} (hg : GapIs L (x : Int) (t : Int) g true) (ht : t ≤ 2001) :
    ∃ a b : Nat, g = ((a : Int), (b : Int)) ∧ x ≤ a ∧ a < b ∧ b ≤ t ∧ ¬ Ra.mem L (a : Int) ∧ ¬ Ra.mem L ((b : Int) - 1) ∧ GapSum L f t b (gz + (b - a)) (q + 1) := by
  obtain ⟨h1, h2, h3, h4⟩ := hg.yes rfl
  obtain ⟨g1, g2⟩ := g
  simp only [Ra.M] at h1 h2 h3 h4
  obtain ⟨a, rfl⟩ : ∃ a : Nat, g1 = (a : Int) := ⟨g1.toNat, by omega⟩
  obtain ⟨b, rfl⟩ : ∃ a : Nat, g2 = (a : Int) := ⟨g2.toNat, by omega⟩
  have e1 : cn L f (a - f) = cn L f (x - f) + (a - x) := by
    have := cn_all (L := L) (a := f) (k := x - f) (m := a - x) fun y q1 q2 => h2 y (by have := h.fx; omega) (by have := h.fx; omega)
    rw [← this]; have := h.fx; congr 1; omega
  have e2 : cn L f (b - f) = cn L f (a - f) := by
    have := cn_none (L := L) (a := f) (k := a - f) (m := b - a) fun y q1 q2 => h3 y (by have := h.fx; omega) (by have := h.fx; omega)
    rw [← this]; have := h.fx; congr 1; omega
  have hf := h.fx
  have hs := h.sum
  have hq := h.iq
  refine ⟨a, b, rfl, by omega, by omega, by omega, h3 a (by omega) (by omega), h3 ((b : Int) - 1) (by omega) (by omega), ⟨by omega, .inl (by omega), by rw [e2, e1]; omega, by omega⟩⟩
theorem GapSum.none {L : List Ra.Row} {f t x gz q : Nat} (h : GapSum L f t x gz q) (hx : x < t) {g : Ra.Row} (hg : GapIs L (x : Int) (t : Int) g false) (ht : t ≤ 2001) : gz + cn L f (t - f) = t - f := by
  have h2 := (hg.no rfl).2
  simp only [Ra.M] at h2
  have hf := h.fx
  have hs := h.sum
  have := cn_all (L := L) (a := f) (k := x - f) (m := t - x) fun y q1 q2 => h2 y (by omega) (by omega)
  rw [show x - f + (t - x) = t - f by omega] at this
  omega
theorem GapSum.over {L : List Ra.Row} {f t x gz q : Nat} (h : GapSum L f t x gz q) (hx : ¬ x < t) : gz + cn L f (t - f) = t - f := by
  have hs := h.sum
  have hf := h.fx
  rcases h.xt with h1 | h1
  · obtain rfl : x = t := by omega
    exact hs
  · subst h1
    rw [Nat.sub_self] at hs
    rw [show t - x = 0 by omega]
    exact hs
set_option maxHeartbeats 4000000 in
set_option maxRecDepth 100000 in
theorem rangesGaps_walk (s : Option Addr) (cap : Nat) (l : List Op3) (fr tt : Int) (w : World) (hl : OpsAt w s cap l) (hf : -9223372036854775808 ≤ fr ∧ fr ≤ 9223372036854775807) (ht : -9223372036854775808 ≤ tt ∧ tt ≤ 9223372036854775807) :
    Calls Try.prog 4 #[.slice s l.length cap, .int .i64 fr, .int .i64 tt] w (Gives w (.bool true)) := by
  have HL := Lib.hid hl
  have HF := Lib.hid hf
  have HTO := Lib.hid ht
  have hb1 : (l.length : Int) ≤ 9223372036854775807 := by have := hl.fits; have := hl.small; unfold maxLen at this; omega
  obtain ⟨N, hN⟩ : ∃ N, N = l.length := ⟨_, rfl⟩
  rw [← hN]
  rw [← hN] at hb1
  have HN := Lib.hid hN
  clear hl hN hf ht
  go_enter Try.func4, Try.ntmps4
  go_upto_region 5 with (first
    | (go_at_call 14; refine (shownRa_any w).mono ?_; rintro e w1 ⟨rfl, h1⟩; have H1 := Lib.hid h1; clear h1)
    | (go_at_call 15; refine (Rn.new_ w _ H1.out).mono ?_; rintro e w2 ⟨a, rfl, hR⟩; have HA := Lib.hid hR; clear hR))
  go_upto_region 6 with (go_at_call 19; refine (kind17_any fr 2001 _ HF.out (.inr rfl)).mono ?_; rintro e w3 ⟨f, hf3, rfl, rfl⟩)
  go_upto_region 7 with (go_at_call 19; refine (kind17_any tt 2001 _ HTO.out (.inr rfl)).mono ?_; rintro e w3 ⟨t, ht3, rfl, rfl⟩)
  have hfb : f ≤ 2000 := by omega
  have htb : t ≤ 2000 := by omega
  clear hf3 ht3
  go_wp2_with fail
  go_loopw [9] (fun i wr => ∃ k : Nat, i = .int .i64 (k : Int) ∧ k ≤ 40 ∧ k ≤ N ∧ ∃ L, Rn w a L wr ∧ L.length ≤ k) (fun i _ => 40 - (intOf i).toNat)
  case atStart => exact ⟨0, rfl, by omega, by omega, [], HA.out, by simp⟩
  case round =>
    obtain ⟨k, rfl, hk, hkN, L, hR, hLk⟩ := hrel
    have HR := Lib.hid hR
    clear hR
    by_cases hin : k < N ∧ k < 40
    · obtain ⟨hk1, hk2⟩ := hin
      have hd : decide ((k : Int) < (N : Int)) = true := decide_eq_true (by omega)
      have hd2 : decide ((k : Int) < 40) = true := decide_eq_true (by omega)
      have hk3 : (k : Int) < (N : Int) := by omega
      have hk4 : (k : Int) < 40 := by omega
      obtain ⟨g, o, rfl, hg, hx⟩ := HL.out.cells (by rw [← HN.out]; omega)
      obtain ⟨⟨z0, z1, z2⟩, hz⟩ : ∃ z, l[k]? = some z := ⟨_, List.getElem?_eq_getElem (by rw [← HN.out]; omega)⟩
      have c1 : wr.cell? ⟨g, o + k * 3 + 1, none⟩ = some (.int .i64 z1) := (HR.out.chg.cell (p := ⟨g, o + k * 3 + 1, none⟩) hg (not_nowhere _)).trans (hx _ _ hz).2.1
      have c2 : wr.cell? ⟨g, o + k * 3 + 2, none⟩ = some (.int .i64 z2) := (HR.out.chg.cell (p := ⟨g, o + k * 3 + 2, none⟩) hg (not_nowhere _)).trans (hx _ _ hz).2.2
      clear hx hz
      go_upto_region 10 with fail
      go_still_tail 11, (by kernel_rfl)
      change wpList _ _ _ _ _ wr.drew
      have HR2 := Lib.hid (HR.out.idle ((Chg.refl Nowhere wr).drew))
      generalize wr.drew = wa at HR2 ⊢
      clear HR c1 c2
      go_wp2_with (go_at_call 16; refine (HR2.out.add (by omega) z1 z2).mono ?_; rintro e wb ⟨L', rfl, -, q2, q3, -⟩; have HB := Lib.hid q3; have HBL := Lib.hid q2; clear q2 q3)
      go_roundw
      case rel => exact ⟨k + 1, by go_num, by omega, by omega, L', HB.out, by have := HBL.out; omega⟩
      case measure => simp [intOf]; omega
    · have HEX := Lib.hid hin
      by_cases hk1 : k < N
      · have hd : decide ((k : Int) < (N : Int)) = true := decide_eq_true (by omega)
        have hd2 : decide ((k : Int) < 40) = false := decide_eq_false (by omega)
        have hk3 : (k : Int) < (N : Int) := by omega
        have hk4 : ¬ ((k : Int) < 40) := by omega
        clear hin
        have hLb : L.length ≤ 1000000 := by omega
        go_wp2_with fail
        go_loopw [10, 11, 12] (fun gp at_ i wq => ∃ x gz q : Nat, i = .int .i64 (q : Int) ∧ at_ = .int .i64 (x : Int) ∧ gp = .int .i64 (gz : Int) ∧ Hid (GapSum L f t x gz q) ∧ Hid (Rn w a L wq)) (fun _ _ i _ => 2001 - (intOf i).toNat)
        case atStart => exact ⟨f, 0, 0, rfl, rfl, rfl, Lib.hid (GapSum.start L f t), HR⟩
        case round =>
          obtain ⟨x, gz, q, rfl, rfl, rfl, HG, HW⟩ := hrel
          have hxb : x ≤ 2000 := by have := HG.out.xt; omega
          have hqb : q < 2001 := by have := HG.out.iq; omega
          have hgb : gz ≤ 2000 := by have := HG.out.sum; omega
          have hq1 : decide ((q : Int) < 2001) = true := decide_eq_true (by omega)
          have hq2 : (q : Int) < 2001 := by omega
          by_cases hxt : x < t
          · have hx1 : decide ((x : Int) < (t : Int)) = true := decide_eq_true (by omega)
            have hx2 : (x : Int) < (t : Int) := by omega
            go_upto_region 17 with (go_at_call 20; refine (HW.out.gap hLb (x : Int) (t : Int)).mono ?_; rintro e w5 ⟨g9, b9, rfl, q1, q2⟩; have HGI := Lib.hid q1; have HW5 := Lib.hid (HW.out.idle q2); clear q1 q2)
            cases b9 with
            | true =>
              obtain ⟨ga, gb, rfl, p1, p2, p3, p4, p5, p6⟩ := HG.out.gap hxt HGI.out (by omega)
              have HG2 := Lib.hid p6
              have P4 := Lib.hid p4
              have P5 := Lib.hid p5
              have HW6 := Lib.hid (HW5.out.idle ((Chg.refl Nowhere w5).alloc (Obj.cells #[.int .i64 (ga : Int), .int .i64 (gb : Int)] 33)))
              have HV6 := Lib.hid (alloc_new w5 (Obj.cells #[.int .i64 (ga : Int), .int .i64 (gb : Int)] 33))
              clear p4 p5 p6 HGI
              obtain ⟨zb, hzb⟩ : ∃ x, x = w5.heap.size := ⟨_, rfl⟩
              simp only at HW6 HV6 ⊢
              rw [← hzb] at HV6 ⊢
              generalize w5.alloc (Obj.cells #[.int .i64 (ga : Int), .int .i64 (gb : Int)] 33) = w6 at HW6 HV6 ⊢
              clear hzb HW5
              have v0 : w6.cell? ⟨zb, 0, none⟩ = some (.int .i64 (ga : Int)) := by rw [cell_blk HV6.out]; rfl
              have v1 : w6.cell? ⟨zb, 1, none⟩ = some (.int .i64 (gb : Int)) := by rw [cell_blk HV6.out]; rfl
              have s1 : ¬ ((ga : Int) < (x : Int)) := by omega
              have s2 : ¬ ((gb : Int) ≤ (ga : Int)) := by omega
              have s3 : ¬ ((t : Int) < (gb : Int)) := by omega
              have s1' : decide ((ga : Int) < (x : Int)) = false := decide_eq_false s1
              have s2' : decide ((gb : Int) ≤ (ga : Int)) = false := decide_eq_false s2
              have s3' : decide ((t : Int) < (gb : Int)) = false := decide_eq_false s3
              obtain ⟨gs, hgs⟩ : ∃ y, y = gz + (gb - ga) := ⟨_, rfl⟩
              rw [← hgs] at HG2
              have HGS1 := Lib.hid (show (gz : Int) + (gb : Int) - (ga : Int) = (gs : Int) by omega)
              have hgbb : gb ≤ 2000 := by omega
              have hgsb : gs ≤ 2000 := by have := HG2.out.sum; omega
              clear hgs
              go_upto_region 20 with (first
                | (go_at_call 21; refine (HW7.out.has hLb ((gb : Int) - 1)).mono ?_; rintro e w8 ⟨b8, rfl, q1, q2⟩; obtain rfl : b8 = false := (by cases b8 with | false => rfl | true => exact absurd (q1.1 rfl) P5.out); have HW8 := Lib.hid (HW7.out.idle q2); have HV8 := Lib.hid (q2.same HV7.out); have y0 : w8.cell? ⟨zb, 0, none⟩ = some (.int .i64 (ga : Int)) := (by rw [cell_blk HV8.out]; rfl); have y1 : w8.cell? ⟨zb, 1, none⟩ = some (.int .i64 (gb : Int)) := (by rw [cell_blk HV8.out]; rfl); clear q1 q2)
                | (go_at_call 21; refine (HW6.out.has hLb (ga : Int)).mono ?_; rintro e w7 ⟨b7, rfl, q1, q2⟩; obtain rfl : b7 = false := (by cases b7 with | false => rfl | true => exact absurd (q1.1 rfl) P4.out); have HW7 := Lib.hid (HW6.out.idle q2); have HV7 := Lib.hid (q2.same HV6.out); have u0 : w7.cell? ⟨zb, 0, none⟩ = some (.int .i64 (ga : Int)) := (by rw [cell_blk HV7.out]; rfl); have u1 : w7.cell? ⟨zb, 1, none⟩ = some (.int .i64 (gb : Int)) := (by rw [cell_blk HV7.out]; rfl); clear q1 q2))
              clear s1 s2 s3 s1' s2' s3'
              go_wp2_with fail
              go_roundw
              case rel => exact ⟨gb, gs, q + 1, by go_num, rfl, by have := HGS1.out; first | rfl | (congr 1), HG2, HW8⟩
              case measure => simp [intOf]; omega
            | false =>
              have HSUM := Lib.hid (HG.out.none hxt HGI.out (by omega))
              have HW6 := Lib.hid (HW5.out.idle ((Chg.refl Nowhere w5).alloc (Obj.cells #[.int .i64 g9.1, .int .i64 g9.2] 33)))
              clear HGI HG HW
              go_wp2_with fail
              go_loopw [15, 16] (fun th n wz => ∃ c y : Nat, n = .int .i64 (y : Int) ∧ th = .int .i64 (c : Int) ∧ f ≤ y ∧ (y ≤ t ∨ y = f) ∧ Hid (c = cn L f (y - f)) ∧ c ≤ y - f ∧ Hid (Rn w a L wz)) (fun _ n _ => t - (intOf n).toNat)
              case atStart => exact ⟨0, f, rfl, rfl, Nat.le_refl _, .inr rfl, Lib.hid (by rw [Nat.sub_self]; rfl), by omega, HW6⟩
              case round =>
                obtain ⟨c, y, rfl, rfl, hfy, hyt, HC, hcy, HZ⟩ := hrel
                have hyb : y ≤ 2000 := by omega
                have hcb : c ≤ 2000 := by omega
                by_cases hy : y < t
                · have hy1 : decide ((y : Int) < (t : Int)) = true := decide_eq_true (by omega)
                  have hy2 : (y : Int) < (t : Int) := by omega
                  go_wp2_with (go_at_call 21; refine (HZ.out.has hLb (y : Int)).mono ?_; rintro e w9 ⟨b9, rfl, q1, q2⟩; have HB9 := Lib.hid q1; have HW9 := Lib.hid (HZ.out.idle q2); clear q1 q2; cases b9)
                  · go_roundw
                    case rel => exact ⟨c, y + 1, by go_num, rfl, by omega, .inl (by omega), Lib.hid (by rw [show y + 1 - f = (y - f) + 1 by omega, cn, show f + (y - f) = y by omega, show hasB L (y : Int) = false from (by cases hq : hasB L (y : Int) with | false => rfl | true => have := HB9.out.2 ((hasB_iff _ _).1 hq); cases this), ← HC.out]; simp), by omega, HW9⟩
                    case measure => simp [intOf]; omega
                  · go_roundw
                    case rel => exact ⟨c + 1, y + 1, by go_num, by go_num, by omega, .inl (by omega), Lib.hid (by rw [show y + 1 - f = (y - f) + 1 by omega, cn, show f + (y - f) = y by omega, (hasB_iff L (y : Int)).2 (HB9.out.1 (by simp)), ← HC.out]; simp), by omega, HW9⟩
                    case measure => simp [intOf]; omega
                · have hy1 : decide ((y : Int) < (t : Int)) = false := decide_eq_false (by omega)
                  have hy2 : ¬ ((y : Int) < (t : Int)) := by omega
                  have hfin : gz + c = t - f := by
                    rw [HC.out]
                    have := HSUM.out
                    rcases hyt with h | h
                    · obtain rfl : y = t := by omega
                      exact this
                    · subst h
                      rw [show t - y = y - y by omega] at this
                      rw [this]
                      omega
                  rcases (by omega : f < t ∨ ¬ (f < t)) with hft | hft
                  · have hm1 : (0 : Int) < (t : Int) - (f : Int) := by omega
                    have hm2 : (gz : Int) + (c : Int) = (t : Int) - (f : Int) := by omega
                    clear hfin
                    go_wp2_with fail
                    go_ret
                    exact ⟨by simp, HZ.out.chg⟩
                  · have hm1 : ¬ ((0 : Int) < (t : Int) - (f : Int)) := by omega
                    have hm2 : (gz : Int) + (c : Int) = 0 := by omega
                    clear hfin
                    go_wp2_with fail
                    go_ret
                    exact ⟨by simp, HZ.out.chg⟩
          · have hx1 : decide ((x : Int) < (t : Int)) = false := decide_eq_false (by omega)
            have hx2 : ¬ ((x : Int) < (t : Int)) := by omega
            have HSUM := Lib.hid (HG.out.over hxt)
            have HW6 := HW
            clear HG HW
            go_wp2_with fail
            go_loopw [15, 16] (fun th n wz => ∃ c y : Nat, n = .int .i64 (y : Int) ∧ th = .int .i64 (c : Int) ∧ f ≤ y ∧ (y ≤ t ∨ y = f) ∧ Hid (c = cn L f (y - f)) ∧ c ≤ y - f ∧ Hid (Rn w a L wz)) (fun _ n _ => t - (intOf n).toNat)
            case atStart => exact ⟨0, f, rfl, rfl, Nat.le_refl _, .inr rfl, Lib.hid (by rw [Nat.sub_self]; rfl), by omega, HW6⟩
            case round =>
              obtain ⟨c, y, rfl, rfl, hfy, hyt, HC, hcy, HZ⟩ := hrel
              have hyb : y ≤ 2000 := by omega
              have hcb : c ≤ 2000 := by omega
              by_cases hy : y < t
              · have hy1 : decide ((y : Int) < (t : Int)) = true := decide_eq_true (by omega)
                have hy2 : (y : Int) < (t : Int) := by omega
                go_wp2_with (go_at_call 21; refine (HZ.out.has hLb (y : Int)).mono ?_; rintro e w9 ⟨b9, rfl, q1, q2⟩; have HB9 := Lib.hid q1; have HW9 := Lib.hid (HZ.out.idle q2); clear q1 q2; cases b9)
                · go_roundw
                  case rel => exact ⟨c, y + 1, by go_num, rfl, by omega, .inl (by omega), Lib.hid (by rw [show y + 1 - f = (y - f) + 1 by omega, cn, show f + (y - f) = y by omega, show hasB L (y : Int) = false from (by cases hq : hasB L (y : Int) with | false => rfl | true => have := HB9.out.2 ((hasB_iff _ _).1 hq); cases this), ← HC.out]; simp), by omega, HW9⟩
                  case measure => simp [intOf]; omega
                · go_roundw
                  case rel => exact ⟨c + 1, y + 1, by go_num, by go_num, by omega, .inl (by omega), Lib.hid (by rw [show y + 1 - f = (y - f) + 1 by omega, cn, show f + (y - f) = y by omega, (hasB_iff L (y : Int)).2 (HB9.out.1 (by simp)), ← HC.out]; simp), by omega, HW9⟩
                  case measure => simp [intOf]; omega
              · have hy1 : decide ((y : Int) < (t : Int)) = false := decide_eq_false (by omega)
                have hy2 : ¬ ((y : Int) < (t : Int)) := by omega
                have hfin : gz + c = t - f := by
                  rw [HC.out]
                  have := HSUM.out
                  rcases hyt with h | h
                  · obtain rfl : y = t := by omega
                    exact this
                  · subst h
                    rw [show t - y = y - y by omega] at this
                    rw [this]
                    omega
                rcases (by omega : f < t ∨ ¬ (f < t)) with hft | hft
                · have hm1 : (0 : Int) < (t : Int) - (f : Int) := by omega
                  have hm2 : (gz : Int) + (c : Int) = (t : Int) - (f : Int) := by omega
                  clear hfin
                  go_wp2_with fail
                  go_ret
                  exact ⟨by simp, HZ.out.chg⟩
                · have hm1 : ¬ ((0 : Int) < (t : Int) - (f : Int)) := by omega
                  have hm2 : (gz : Int) + (c : Int) = 0 := by omega
                  clear hfin
                  go_wp2_with fail
                  go_ret
                  exact ⟨by simp, HZ.out.chg⟩
      · have hd : decide ((k : Int) < (N : Int)) = false := decide_eq_false (by omega)
        have hk3 : ¬ ((k : Int) < (N : Int)) := by omega
        clear hin
        have hLb : L.length ≤ 1000000 := by omega
        go_wp2_with fail
        go_loopw [10, 11, 12] (fun gp at_ i wq => ∃ x gz q : Nat, i = .int .i64 (q : Int) ∧ at_ = .int .i64 (x : Int) ∧ gp = .int .i64 (gz : Int) ∧ Hid (GapSum L f t x gz q) ∧ Hid (Rn w a L wq)) (fun _ _ i _ => 2001 - (intOf i).toNat)
        case atStart => exact ⟨f, 0, 0, rfl, rfl, rfl, Lib.hid (GapSum.start L f t), HR⟩
        case round =>
          obtain ⟨x, gz, q, rfl, rfl, rfl, HG, HW⟩ := hrel
          have hxb : x ≤ 2000 := by have := HG.out.xt; omega
          have hqb : q < 2001 := by have := HG.out.iq; omega
          have hgb : gz ≤ 2000 := by have := HG.out.sum; omega
          have hq1 : decide ((q : Int) < 2001) = true := decide_eq_true (by omega)
          have hq2 : (q : Int) < 2001 := by omega
          by_cases hxt : x < t
          · have hx1 : decide ((x : Int) < (t : Int)) = true := decide_eq_true (by omega)
            have hx2 : (x : Int) < (t : Int) := by omega
            go_upto_region 17 with (go_at_call 20; refine (HW.out.gap hLb (x : Int) (t : Int)).mono ?_; rintro e w5 ⟨g9, b9, rfl, q1, q2⟩; have HGI := Lib.hid q1; have HW5 := Lib.hid (HW.out.idle q2); clear q1 q2)
            cases b9 with
            | true =>
              obtain ⟨ga, gb, rfl, p1, p2, p3, p4, p5, p6⟩ := HG.out.gap hxt HGI.out (by omega)
              have HG2 := Lib.hid p6
              have P4 := Lib.hid p4
              have P5 := Lib.hid p5
              have HW6 := Lib.hid (HW5.out.idle ((Chg.refl Nowhere w5).alloc (Obj.cells #[.int .i64 (ga : Int), .int .i64 (gb : Int)] 33)))
              have HV6 := Lib.hid (alloc_new w5 (Obj.cells #[.int .i64 (ga : Int), .int .i64 (gb : Int)] 33))
              clear p4 p5 p6 HGI
              obtain ⟨zb, hzb⟩ : ∃ x, x = w5.heap.size := ⟨_, rfl⟩
              simp only at HW6 HV6 ⊢
              rw [← hzb] at HV6 ⊢
              generalize w5.alloc (Obj.cells #[.int .i64 (ga : Int), .int .i64 (gb : Int)] 33) = w6 at HW6 HV6 ⊢
              clear hzb HW5
              have v0 : w6.cell? ⟨zb, 0, none⟩ = some (.int .i64 (ga : Int)) := by rw [cell_blk HV6.out]; rfl
              have v1 : w6.cell? ⟨zb, 1, none⟩ = some (.int .i64 (gb : Int)) := by rw [cell_blk HV6.out]; rfl
              have s1 : ¬ ((ga : Int) < (x : Int)) := by omega
              have s2 : ¬ ((gb : Int) ≤ (ga : Int)) := by omega
              have s3 : ¬ ((t : Int) < (gb : Int)) := by omega
              have s1' : decide ((ga : Int) < (x : Int)) = false := decide_eq_false s1
              have s2' : decide ((gb : Int) ≤ (ga : Int)) = false := decide_eq_false s2
              have s3' : decide ((t : Int) < (gb : Int)) = false := decide_eq_false s3
              obtain ⟨gs, hgs⟩ : ∃ y, y = gz + (gb - ga) := ⟨_, rfl⟩
              rw [← hgs] at HG2
              have HGS1 := Lib.hid (show (gz : Int) + (gb : Int) - (ga : Int) = (gs : Int) by omega)
              have hgbb : gb ≤ 2000 := by omega
              have hgsb : gs ≤ 2000 := by have := HG2.out.sum; omega
              clear hgs
              go_upto_region 20 with (first
                | (go_at_call 21; refine (HW7.out.has hLb ((gb : Int) - 1)).mono ?_; rintro e w8 ⟨b8, rfl, q1, q2⟩; obtain rfl : b8 = false := (by cases b8 with | false => rfl | true => exact absurd (q1.1 rfl) P5.out); have HW8 := Lib.hid (HW7.out.idle q2); have HV8 := Lib.hid (q2.same HV7.out); have y0 : w8.cell? ⟨zb, 0, none⟩ = some (.int .i64 (ga : Int)) := (by rw [cell_blk HV8.out]; rfl); have y1 : w8.cell? ⟨zb, 1, none⟩ = some (.int .i64 (gb : Int)) := (by rw [cell_blk HV8.out]; rfl); clear q1 q2)
                | (go_at_call 21; refine (HW6.out.has hLb (ga : Int)).mono ?_; rintro e w7 ⟨b7, rfl, q1, q2⟩; obtain rfl : b7 = false := (by cases b7 with | false => rfl | true => exact absurd (q1.1 rfl) P4.out); have HW7 := Lib.hid (HW6.out.idle q2); have HV7 := Lib.hid (q2.same HV6.out); have u0 : w7.cell? ⟨zb, 0, none⟩ = some (.int .i64 (ga : Int)) := (by rw [cell_blk HV7.out]; rfl); have u1 : w7.cell? ⟨zb, 1, none⟩ = some (.int .i64 (gb : Int)) := (by rw [cell_blk HV7.out]; rfl); clear q1 q2))
              clear s1 s2 s3 s1' s2' s3'
              go_wp2_with fail
              go_roundw
              case rel => exact ⟨gb, gs, q + 1, by go_num, rfl, by have := HGS1.out; first | rfl | (congr 1), HG2, HW8⟩
              case measure => simp [intOf]; omega
            | false =>
              have HSUM := Lib.hid (HG.out.none hxt HGI.out (by omega))
              have HW6 := Lib.hid (HW5.out.idle ((Chg.refl Nowhere w5).alloc (Obj.cells #[.int .i64 g9.1, .int .i64 g9.2] 33)))
              clear HGI HG HW
              go_wp2_with fail
              go_loopw [15, 16] (fun th n wz => ∃ c y : Nat, n = .int .i64 (y : Int) ∧ th = .int .i64 (c : Int) ∧ f ≤ y ∧ (y ≤ t ∨ y = f) ∧ Hid (c = cn L f (y - f)) ∧ c ≤ y - f ∧ Hid (Rn w a L wz)) (fun _ n _ => t - (intOf n).toNat)
              case atStart => exact ⟨0, f, rfl, rfl, Nat.le_refl _, .inr rfl, Lib.hid (by rw [Nat.sub_self]; rfl), by omega, HW6⟩
              case round =>
                obtain ⟨c, y, rfl, rfl, hfy, hyt, HC, hcy, HZ⟩ := hrel
                have hyb : y ≤ 2000 := by omega
                have hcb : c ≤ 2000 := by omega
                by_cases hy : y < t
                · have hy1 : decide ((y : Int) < (t : Int)) = true := decide_eq_true (by omega)
                  have hy2 : (y : Int) < (t : Int) := by omega
                  go_wp2_with (go_at_call 21; refine (HZ.out.has hLb (y : Int)).mono ?_; rintro e w9 ⟨b9, rfl, q1, q2⟩; have HB9 := Lib.hid q1; have HW9 := Lib.hid (HZ.out.idle q2); clear q1 q2; cases b9)
                  · go_roundw
                    case rel => exact ⟨c, y + 1, by go_num, rfl, by omega, .inl (by omega), Lib.hid (by rw [show y + 1 - f = (y - f) + 1 by omega, cn, show f + (y - f) = y by omega, show hasB L (y : Int) = false from (by cases hq : hasB L (y : Int) with | false => rfl | true => have := HB9.out.2 ((hasB_iff _ _).1 hq); cases this), ← HC.out]; simp), by omega, HW9⟩
                    case measure => simp [intOf]; omega
                  · go_roundw
                    case rel => exact ⟨c + 1, y + 1, by go_num, by go_num, by omega, .inl (by omega), Lib.hid (by rw [show y + 1 - f = (y - f) + 1 by omega, cn, show f + (y - f) = y by omega, (hasB_iff L (y : Int)).2 (HB9.out.1 (by simp)), ← HC.out]; simp), by omega, HW9⟩
                    case measure => simp [intOf]; omega
                · have hy1 : decide ((y : Int) < (t : Int)) = false := decide_eq_false (by omega)
                  have hy2 : ¬ ((y : Int) < (t : Int)) := by omega
                  have hfin : gz + c = t - f := by
                    rw [HC.out]
                    have := HSUM.out
                    rcases hyt with h | h
                    · obtain rfl : y = t := by omega
                      exact this
                    · subst h
                      rw [show t - y = y - y by omega] at this
                      rw [this]
                      omega
                  rcases (by omega : f < t ∨ ¬ (f < t)) with hft | hft
                  · have hm1 : (0 : Int) < (t : Int) - (f : Int) := by omega
                    have hm2 : (gz : Int) + (c : Int) = (t : Int) - (f : Int) := by omega
                    clear hfin
                    go_wp2_with fail
                    go_ret
                    exact ⟨by simp, HZ.out.chg⟩
                  · have hm1 : ¬ ((0 : Int) < (t : Int) - (f : Int)) := by omega
                    have hm2 : (gz : Int) + (c : Int) = 0 := by omega
                    clear hfin
                    go_wp2_with fail
                    go_ret
                    exact ⟨by simp, HZ.out.chg⟩
          · have hx1 : decide ((x : Int) < (t : Int)) = false := decide_eq_false (by omega)
            have hx2 : ¬ ((x : Int) < (t : Int)) := by omega
            have HSUM := Lib.hid (HG.out.over hxt)
            have HW6 := HW
            clear HG HW
            go_wp2_with fail
            go_loopw [15, 16] (fun th n wz => ∃ c y : Nat, n = .int .i64 (y : Int) ∧ th = .int .i64 (c : Int) ∧ f ≤ y ∧ (y ≤ t ∨ y = f) ∧ Hid (c = cn L f (y - f)) ∧ c ≤ y - f ∧ Hid (Rn w a L wz)) (fun _ n _ => t - (intOf n).toNat)
            case atStart => exact ⟨0, f, rfl, rfl, Nat.le_refl _, .inr rfl, Lib.hid (by rw [Nat.sub_self]; rfl), by omega, HW6⟩
            case round =>
              obtain ⟨c, y, rfl, rfl, hfy, hyt, HC, hcy, HZ⟩ := hrel
              have hyb : y ≤ 2000 := by omega
              have hcb : c ≤ 2000 := by omega
              by_cases hy : y < t
              · have hy1 : decide ((y : Int) < (t : Int)) = true := decide_eq_true (by omega)
                have hy2 : (y : Int) < (t : Int) := by omega
                go_wp2_with (go_at_call 21; refine (HZ.out.has hLb (y : Int)).mono ?_; rintro e w9 ⟨b9, rfl, q1, q2⟩; have HB9 := Lib.hid q1; have HW9 := Lib.hid (HZ.out.idle q2); clear q1 q2; cases b9)
                · go_roundw
                  case rel => exact ⟨c, y + 1, by go_num, rfl, by omega, .inl (by omega), Lib.hid (by rw [show y + 1 - f = (y - f) + 1 by omega, cn, show f + (y - f) = y by omega, show hasB L (y : Int) = false from (by cases hq : hasB L (y : Int) with | false => rfl | true => have := HB9.out.2 ((hasB_iff _ _).1 hq); cases this), ← HC.out]; simp), by omega, HW9⟩
                  case measure => simp [intOf]; omega
                · go_roundw
                  case rel => exact ⟨c + 1, y + 1, by go_num, by go_num, by omega, .inl (by omega), Lib.hid (by rw [show y + 1 - f = (y - f) + 1 by omega, cn, show f + (y - f) = y by omega, (hasB_iff L (y : Int)).2 (HB9.out.1 (by simp)), ← HC.out]; simp), by omega, HW9⟩
                  case measure => simp [intOf]; omega
              · have hy1 : decide ((y : Int) < (t : Int)) = false := decide_eq_false (by omega)
                have hy2 : ¬ ((y : Int) < (t : Int)) := by omega
                have hfin : gz + c = t - f := by
                  rw [HC.out]
                  have := HSUM.out
                  rcases hyt with h | h
                  · obtain rfl : y = t := by omega
                    exact this
                  · subst h
                    rw [show t - y = y - y by omega] at this
                    rw [this]
                    omega
                rcases (by omega : f < t ∨ ¬ (f < t)) with hft | hft
                · have hm1 : (0 : Int) < (t : Int) - (f : Int) := by omega
                  have hm2 : (gz : Int) + (c : Int) = (t : Int) - (f : Int) := by omega
                  clear hfin
                  go_wp2_with fail
                  go_ret
                  exact ⟨by simp, HZ.out.chg⟩
                · have hm1 : ¬ ((0 : Int) < (t : Int) - (f : Int)) := by omega
                  have hm2 : (gz : Int) + (c : Int) = 0 := by omega
                  clear hfin
                  go_wp2_with fail
                  go_ret
                  exact ⟨by simp, HZ.out.chg⟩
theorem rangesGaps_walk' (s : Option Addr) (cap : Nat) (zs : List {z : Op3 // Op3Ok z}) (fr tt : Int) (w : World) (hf : -9223372036854775808 ≤ fr ∧ fr ≤ 9223372036854775807) (ht : -9223372036854775808 ≤ tt ∧ tt ≤ 9223372036854775807) (hle : zs.length ≤ cap) (hcap : cap ≤ maxLen)
    (hz : 0 < zs.length → ∃ g o, s = some ⟨g, o, none⟩ ∧ g < w.heap.size ∧ ∀ (i : Nat) z, zs[i]? = some z → ∀ j u, (op3R z)[j]? = some u → w.cell? ⟨g, o + (i * 3 + j), none⟩ = some u) :
    Calls Try.prog 4 #[.slice s zs.length cap, .int .i64 fr, .int .i64 tt] w (Gives w (.bool true)) := by
  have := rangesGaps_walk s cap (zs.map (·.1)) fr tt w (ops_open hle hcap hz) hf ht
  rw [List.length_map] at this
  exact this
end Go.Proofs.Ytlkbfacdaelbfaa
