/-
  SchedFastest, walked: it returns true.
-/
import Derived.Test.YtiijnhgafadokaaSchFastPure
import Derived.Test.YtiijnhgafadokaaSchRow
namespace Go.Proofs.Ytiijnhgafadokaa
open Go.RowKit
set_option linter.unusedVariables false

set_option maxHeartbeats 400000 in
theorem under_open (Z : Nat → Prop) (w : World) (s N : Nat) (S : Sch) (h : SchIs Z w s N S) (k : Int) (hk : InI k) (f : Fl) (hop : S.op k = some f) (x : Int) (hx : x = f.l.length) :
    Calls Try.prog 47 #[.pointer (some ⟨s, 0, .none⟩), .int .i64 k] w fun e w' => e = .returned (.int .i64 x) ∧ w = w' := by
  obtain ⟨m, F, V, h⟩ := h
  have H := Lib.hid h
  have HK := Lib.hid hk
  cases hf : F k with
  | none => rw [h.no k hf] at hop; cases hop
  | some g =>
    obtain ⟨f', hop', hF⟩ := h.fl k g hf
    rw [hop] at hop'
    obtain rfl := Option.some.inj hop'
    obtain ⟨-, A, cp, hv, -, -⟩ := Rd.of_owns hF.row
    have c : w.cell? ⟨g, 2, .none⟩ = some (.slice A f.l.length cp) := by rw [cell_blk hF.blk, ← hv]; rfl
    have HF := Lib.hid hf
    have HX := Lib.hid hx
    clear h hk hf hop hop' hF hv hx
    go_enter Try.func47, Try.ntmps47
    go_wp2_with fail
    refine (of_some Z _ _ _ _ _ _ _ H.out _ HK.out _ HF.out).mono ?_
    rintro e w' ⟨rfl, rfl⟩
    go_wp2_with fail
    go_ret
    rw [HX.out]
    exact ⟨rfl, rfl⟩
set_option maxHeartbeats 400000 in
theorem window_open (Z : Nat → Prop) (w : World) (s N : Nat) (S : Sch) (h : SchIs Z w s N S) (k : Int) (hk : InI k) (f : Fl) (hop : S.op k = some f) (x : Int) (hx : x = f.win) :
    Calls Try.prog 48 #[.pointer (some ⟨s, 0, .none⟩), .int .i64 k] w fun e w' => e = .returned (.int .i64 x) ∧ w = w' := by
  obtain ⟨m, F, V, h⟩ := h
  have H := Lib.hid h
  have HK := Lib.hid hk
  cases hf : F k with
  | none => rw [h.no k hf] at hop; cases hop
  | some g =>
    obtain ⟨f', hop', hF⟩ := h.fl k g hf
    rw [hop] at hop'
    obtain rfl := Option.some.inj hop'
    have c : w.cell? ⟨g, 0, .none⟩ = some (.int .i64 f.win) := by rw [cell_blk hF.blk]; rfl
    have HF := Lib.hid hf
    have HX := Lib.hid hx
    clear h hk hf hop hop' hF hx
    go_enter Try.func48, Try.ntmps48
    go_wp2_with fail
    refine (of_some Z _ _ _ _ _ _ _ H.out _ HK.out _ HF.out).mono ?_
    rintro e w' ⟨rfl, rfl⟩
    go_wp2_with fail
    go_ret
    rw [HX.out]
    exact ⟨rfl, rfl⟩
theorem under_q (Z : Nat → Prop) (w : World) (s N : Nat) (S : Sch) (h : SchIs Z w s N S) (k : Int) (hk : InI k) (f : Fl) (hop : S.op k = some f) (x : Int) (hx : x = f.l.length) (n : Nat) :
    Calls Try.prog 47 #[.pointer (some ⟨s, 0, .none⟩), .int .i64 k] (w.drewN n) fun e w'' => e = .returned (.int .i64 x) ∧ ∃ m, w'' = w.drewN m :=
  Calls.quiet_of_same ((under_open Z _ s N S (h.idle ((Chg.refl _ _).drewN n)) k hk f hop x hx).mono fun e w' hh => ⟨hh.1, hh.2.symm⟩)
theorem window_q (Z : Nat → Prop) (w : World) (s N : Nat) (S : Sch) (h : SchIs Z w s N S) (k : Int) (hk : InI k) (f : Fl) (hop : S.op k = some f) (x : Int) (hx : x = f.win) (n : Nat) :
    Calls Try.prog 48 #[.pointer (some ⟨s, 0, .none⟩), .int .i64 k] (w.drewN n) fun e w'' => e = .returned (.int .i64 x) ∧ ∃ m, w'' = w.drewN m :=
  Calls.quiet_of_same ((window_open Z _ s N S (h.idle ((Chg.refl _ _).drewN n)) k hk f hop x hx).mono fun e w' hh => ⟨hh.1, hh.2.symm⟩)

/-- m paths open, n of them full; the row live beside. -/
structure Fg (w0 : World) (s m : Nat) (v : Value) (n : Nat) (S : Sch) (w : World) : Prop where
  sv : Sv w0 s m S w
  fast : Fast S m
  full : fullN S m = n
  own : w.ownsRow w0.heap.size 3 1 v (fives m).length (ints (fives m))
theorem Fg.idle {w0 : World} {s m : Nat} {v : Value} {n : Nat} {S : Sch} {w w' : World} (h : Fg w0 s m v n S w) (hc : Chg Nowhere w w') : Fg w0 s m v n S w' :=
  ⟨h.sv.idle hc, h.fast, h.full, own_chg h.own hc (fun _ _ => not_nowhere _)⟩
theorem Fg.rd {w0 : World} {s m : Nat} {v : Value} {n : Nat} {S : Sch} {w : World} (h : Fg w0 s m v n S w) : Rd w v 1 (fives m).length (ints (fives m)) := Rd.of_owns h.own
theorem Fg.ready {w0 : World} {s m : Nat} {v : Value} {n : Nat} {S : Sch} {w : World} (h : Fg w0 s m v n S w) : Fg w0 s m v n S w := h
theorem fullA_pick (S : Sch) (x : Int) (b : Nat) : fullA (pickS S x) b = fullA S b := by
  unfold pickS
  split <;> rfl
theorem Fg.cell {w0 : World} {s m : Nat} {A : Option Addr} {c n : Nat} {S : Sch} {w : World} (h : Fg w0 s m (.slice A m c) n S w) {i : Nat} (hi : i < m) :
    ∃ g o, A = some ⟨g, o, .none⟩ ∧ g < w.heap.size ∧ w.cell? ⟨g, o + i, .none⟩ = some (.int .i64 (5 * (i : Int))) := by
  obtain ⟨g, o, c', e, hg, hc⟩ := h.rd.int (fives_get hi)
  injection e with e1 e2 e3
  exact ⟨g, o, e1, hg, hc⟩
theorem fast_pick_any (w0 : World) (s m : Nat) (v : Value) (n : Nat) (S : Sch) (w : World) (rtt : List Int) (vr : Value) (h : Fg w0 s m v n S w) (hr : Rd w vr 1 rtt.length (ints rtt)) (hm : m ≤ 16) (hl : rtt.length ≤ 9223372036854775807) (b : Nat) (hb : (b : Int) = lbF S rtt m) :
    Calls Try.prog 44 #[.pointer (some ⟨s, 0, .none⟩), v, vr] w
      fun e w' => e = .returned (.tuple #[.int .i64 (5 * (b : Int)), .bool true]) ∧ Fg w0 s m v n (pickS S (5 * (b : Int))) w' ∧ ChgZ (fun i => w0.heap.size ≤ i) w w' := by
  refine (pick_any _ _ s _ S h.sv.is _ _ (fives m) rtt h.rd hr (fun x hx => by obtain ⟨i, hi, rfl⟩ := fives_mem hx; exact inI (by omega)) (by rw [fives_len]; omega) hl).mono ?_
  rintro e w' ⟨h1, h2, h3⟩
  rw [pick_fast h.fast b hb.symm] at h1 h2
  exact ⟨by rw [h1, if_neg (by omega), decide_eq_true (by omega)], ⟨h.sv.step h2 h3, (h.fast.pick _).1, (h.fast.pick _).2.trans h.full, own_zone h.own h3⟩, h3⟩
theorem fast_pick_end (w0 : World) (s m : Nat) (v : Value) (S : Sch) (w : World) (rtt : List Int) (vr : Value) (h : Fg w0 s m v m S w) (hr : Rd w vr 1 rtt.length (ints rtt)) (hm : m ≤ 16) (hl : rtt.length ≤ 9223372036854775807) :
    Calls Try.prog 44 #[.pointer (some ⟨s, 0, .none⟩), v, vr] w
      fun e w' => e = .returned (.tuple #[.int .i64 0, .bool false]) ∧ Chg Nowhere w0 w' := by
  refine (pick_any _ _ s _ S h.sv.is _ _ (fives m) rtt h.rd hr (fun x hx => by obtain ⟨i, hi, rfl⟩ := fives_mem hx; exact inI (by omega)) (by rw [fives_len]; omega) hl).mono ?_
  rintro e w' ⟨h1, h2, h3⟩
  rw [pick_none h.fast h.full] at h1 h2
  exact ⟨h1, (h.sv.step h2 h3).chg⟩
set_option maxHeartbeats 3200000 in
set_option maxRecDepth 100000 in
theorem fast_walk (va : Value) (rtt : List Int) (w : World) (hR : Rd w va 1 rtt.length (ints rtt)) (hlr : rtt.length ≤ 9223372036854775807) :
    Calls Try.prog 12 #[va] w (ShownSTo w) := by
  obtain ⟨i0, hi, hz0, hz1, hz2⟩ := info_parts infoInt'
  obtain ⟨-, A, cp, rfl, hcp, -⟩ := id hR
  have HR := Lib.hid hR
  clear hR
  go_enter Try.func12, Try.ntmps12
  go_wp2_with fail
  refine (shownS_any _).mono ?_
  rintro e w0 ⟨rfl, hC0⟩
  have HC0 := Lib.hid hC0
  clear hC0
  go_wp2_with fail
  refine (newS_any _ _).mono ?_
  rintro e w1 ⟨s, rfl, hI, hC⟩
  have H1 := Lib.hid (show Sv w0 s 0 (newS 0) w1 from ⟨hI, hC⟩)
  clear hI hC
  go_wp2_with fail
  have HF0 := Lib.hid (show Fg w0 s 0 (.slice (some ⟨w1.heap.size, 0, .none⟩) 0 0) 0 (newS 0) (w1.alloc (.cells #[] 3)) from
    ⟨H1.out.idle ((Chg.refl _ _).alloc _), fast_new.1, fast_new.2, World.ownsRow_lit (base := w0.heap.size) (e := 3) (size := 1) w1 #[] 0 H1.out.chg.size (by unfold maxLen; omega) rfl⟩)
  clear H1
  go_loopw [5, 6] (fun v i wr => ∃ (m : Nat) (S : Sch), m ≤ rtt.length ∧ m ≤ 16 ∧ i = .int .i64 m ∧ Hid (Fg w0 s m v 0 S wr)) (fun _ i _ => 16 - (intOf i).toNat)
  case atStart => exact ⟨0, _, by omega, by omega, rfl, HF0⟩
  case round =>
    clear HF0
    obtain ⟨m, S, hk, hl16, rfl, HF⟩ := hrel
    obtain ⟨Al, cl, rfl⟩ : ∃ Al cl, _ = Value.slice Al m cl := by
      obtain ⟨-, Al, cl, h, -, -⟩ := HF.out.rd
      rw [fives_len] at h
      exact ⟨Al, cl, h⟩
    by_cases hk2 : m < rtt.length
    · by_cases hl2 : m < 16
      · as_aux_lemma =>
        go_wp2_with (at_builtin; refine wpList_append_own _ rfl _ _ 34 rfl w0.heap.size 3 i0 (.int .i64 0) 1 8 Try.underlying34 hi hz0 hz1 hz2 rfl (by decide) (.slice Al m cl) (fives m).length (ints (fives m)) rfl (HF.out.idle ((Chg.refl _ _).alloc _)).own ⟨wr.heap.size, 0, .none⟩ 1 1 [.int .i64 (5 * (m : Int))] rfl rfl (new1' wr _ _ _ rfl) (fun y hy => by simp at hy; subst hy; rfl) (by rw [fives_len]; unfold maxLen; omega) (by rw [fives_len]; omega) (by have := HF.out.sv.chg.size; simp; omega) ?_; intro v' w3 hown' hgrow3 hnil3; have HO' := Lib.hid hown'; have HG := Lib.hid hgrow3; clear hown' hnil3 hgrow3; have HS3 := Lib.hid (HF.out.sv.grown ((Chg.refl _ _).alloc _) otherInt HF.out.own (Nat.le_refl _) HG.out))
        refine (openS_any _ _ s _ _ HS3.out.is HS3.out.zone (by omega) (5 * (m : Int)) (inI (by omega))).mono ?_
        rintro e w4 ⟨rfl, hI, hC⟩
        have HF4 := Lib.hid (show Fg w0 s (m + 1) v' 0 (openS S (5 * (m : Int))) w4 from ⟨HS3.out.step hI hC, (HF.out.fast.open HF.out.full).1, (HF.out.fast.open HF.out.full).2, by rw [fives_succ, List.length_append, ints_app]; exact own_zone HO'.out hC⟩)
        clear hI hC
        go_wp2_with fail
        go_roundw
        case rel => exact ⟨m + 1, _, by omega, by omega, by go_num, HF4⟩
        case measure => simp [intOf]; omega
      · as_aux_lemma =>
        have HG0 := Lib.hid HF.out.ready
        clear HF
        go_wp2_with fail
        go_loopw [7] (fun i wr => ∃ (n : Nat) (S : Sch), n ≤ m ∧ i = .int .i64 n ∧ Hid (Fg w0 s m (.slice Al m cl) n S wr)) (fun i _ => m - (intOf i).toNat)
        case atStart => exact ⟨0, _, by omega, rfl, HG0⟩
        case round =>
          clear HG0
          obtain ⟨n, S, hn, rfl, HG⟩ := hrel
          by_cases hn2 : n < m
          · go_wp2_with fail
            go_loopw [8, 9] (fun b i wr => ∃ (k : Nat) (lb : Int), k ≤ m ∧ i = .int .i64 k ∧ b = .int .i64 lb ∧ -1 ≤ lb ∧ lb < k ∧ Hid (lb = lbF S rtt k) ∧ Hid (Fg w0 s m (.slice Al m cl) n S wr)) (fun _ i _ => m - (intOf i).toNat)
            case atStart => exact ⟨0, _, by omega, rfl, rfl, by omega, by omega, Lib.hid rfl, HG⟩
            case round =>
              clear HG
              obtain ⟨k, lb, hk, rfl, rfl, hlb0, hlb1, HL, HG⟩ := hrel
              by_cases hk2 : k < m
              · obtain ⟨gl, ol, rfl, hgl, cl1⟩ := HG.out.cell hk2
                have hC2 := HC0.out.trans' HG.out.sv.chg
                obtain ⟨a, ha⟩ : ∃ a, rtt[k]? = some a := ⟨_, List.getElem?_eq_getElem (by omega)⟩
                obtain ⟨g, o, c, hAv, hg, hca⟩ := HR.out.int ha
                cases hAv
                have ca : wr.cell? ⟨g, o + k, .none⟩ = some (.int .i64 a) := (hC2.cell (p := ⟨g, o + k, .none⟩) hg (not_nowhere _)).trans hca
                have HA := Lib.hid (show tk rtt k = a by unfold tk; rw [ha]; rfl)
                have hw5 : IntKind.i64.wrap (5 * (k : Int)) = 5 * (k : Int) := wrapI ⟨by omega, by omega⟩
                have HSt := Lib.hid (show lbF S rtt (k + 1) = if fullA S k = false ∧ (lb < 0 ∨ a < tk rtt lb.toNat) then (k : Int) else lb by rw [lbF, ← HL.out, HA.out])
                clear hca ha
                cases hf : fullA S k with
                | true =>
                  obtain ⟨f, f1, f2, f3⟩ := fullA_true HG.out.fast hk2 hf
                  have HU := Lib.hid f1
                  have HX1 := Lib.hid (show (4 : Int) = f.l.length by omega)
                  have HX2 := Lib.hid f2.symm
                  have HE := Lib.hid (show lb = lbF S rtt (k + 1) by rw [HSt.out, if_neg (by rw [hf]; simp)])
                  have HSS := HG.out.sv.is
                  have HIS := Lib.hid HSS
                  clear f1 f2 f3 hf HSS hC2 HA
                  go_wp2_with fail
                  go_quiet ((first | (go_at_call 47; exact under_q _ _ _ _ _ HIS.out _ (inI (by omega)) _ HU.out _ HX1.out _) | (go_at_call 48; exact window_q _ _ _ _ _ HIS.out _ (inI (by omega)) _ HU.out _ HX2.out _)))
                  go_wp2_with fail
                  go_roundw
                  case rel => exact ⟨k + 1, lb, by omega, by go_num, rfl, by omega, by omega, HE, Lib.hid (HG.out.idle ((Chg.refl _ _).drewN _))⟩
                  case measure => simp [intOf]; omega
                | false =>
                  have f1 := fullA_false HG.out.fast hk2 hf
                  have HU := Lib.hid f1
                  have HSS := HG.out.sv.is
                  have HIS := Lib.hid HSS
                  have HF2 := Lib.hid hf
                  clear f1 hf HSS
                  rcases (by omega : lb = -1 ∨ 0 ≤ lb) with rfl | hp
                  · have HE := Lib.hid (show (k : Int) = lbF S rtt (k + 1) by rw [HSt.out, if_pos ⟨HF2.out, .inl (by decide)⟩])
                    clear hC2 HA
                    go_wp2_with fail
                    go_quiet ((first | (go_at_call 47; exact under_q _ _ _ _ _ HIS.out _ (inI (by omega)) _ HU.out 0 rfl _) | (go_at_call 48; exact window_q _ _ _ _ _ HIS.out _ (inI (by omega)) _ HU.out 4 rfl _)))
                    go_wp2_with fail
                    go_roundw
                    case rel => exact ⟨k + 1, k, by omega, by go_num, rfl, by omega, by omega, HE, Lib.hid (HG.out.idle ((Chg.refl _ _).drewN _))⟩
                    case measure => simp [intOf]; omega
                  · obtain ⟨q, rfl⟩ : ∃ q : Nat, lb = (q : Int) := ⟨lb.toNat, by omega⟩
                    obtain ⟨d, hd⟩ : ∃ d, rtt[q]? = some d := ⟨_, List.getElem?_eq_getElem (by omega)⟩
                    obtain ⟨g', o', c'', hAv, hg', hcd⟩ := HR.out.int hd
                    cases hAv
                    have cd : wr.cell? ⟨g, o + q, .none⟩ = some (.int .i64 d) := (hC2.cell (p := ⟨g, o + q, .none⟩) hg (not_nowhere _)).trans hcd
                    have hkr : k < rtt.length := by omega
                    have hqr : q < rtt.length := by omega
                    have HSt2 := Lib.hid (show lbF S rtt (k + 1) = if a < d then (k : Int) else (q : Int) by
                      rw [HSt.out, Int.toNat_natCast, show tk rtt q = d by unfold tk; rw [hd]; rfl]
                      by_cases had : a < d
                      · rw [if_pos ⟨HF2.out, .inr had⟩, if_pos had]
                      · rw [if_neg (fun hh => hh.2.elim (fun h => by omega) had), if_neg had])
                    clear hd hcd hg' hC2 HA HSt
                    by_cases had : a < d
                    · have HE := Lib.hid (HSt2.out.trans (if_pos had)).symm
                      have hdd : decide (a < d) = true := decide_eq_true had
                      clear had
                      go_wp2_with fail
                      go_quiet ((first | (go_at_call 47; exact under_q _ _ _ _ _ HIS.out _ (inI (by omega)) _ HU.out 0 rfl _) | (go_at_call 48; exact window_q _ _ _ _ _ HIS.out _ (inI (by omega)) _ HU.out 4 rfl _)))
                      go_wp2_with fail
                      go_roundw
                      case rel => exact ⟨k + 1, k, by omega, by go_num, rfl, by omega, by omega, HE, Lib.hid (HG.out.idle ((Chg.refl _ _).drewN _))⟩
                      case measure => simp [intOf]; omega
                    · have HE := Lib.hid (HSt2.out.trans (if_neg had)).symm
                      have hdd : decide (a < d) = false := decide_eq_false had
                      clear had
                      go_wp2_with fail
                      go_quiet ((first | (go_at_call 47; exact under_q _ _ _ _ _ HIS.out _ (inI (by omega)) _ HU.out 0 rfl _) | (go_at_call 48; exact window_q _ _ _ _ _ HIS.out _ (inI (by omega)) _ HU.out 4 rfl _)))
                      go_wp2_with fail
                      go_roundw
                      case rel => exact ⟨k + 1, q, by omega, by go_num, rfl, by omega, by omega, HE, Lib.hid (HG.out.idle ((Chg.refl _ _).drewN _))⟩
                      case measure => simp [intOf]; omega
              · obtain rfl : k = m := by omega
                obtain ⟨i1, hi1, hi2⟩ := full_lt (show fullN S k < k by rw [HG.out.full]; exact hn2)
                have hp : 0 ≤ lb := by rw [HL.out]; exact lbF_some hi1 hi2
                obtain ⟨b, rfl⟩ : ∃ b : Nat, lb = (b : Int) := ⟨lb.toNat, by omega⟩
                have HBF := Lib.hid (show fullA S b = false by have := (lbF_in S rtt k).2.2; rw [← HL.out, Int.toNat_natCast] at this; exact this hp)
                have hbk : b < k := by omega
                obtain ⟨gl, ol, rfl, hgl, cl1⟩ := HG.out.cell hbk
                have HCL := Lib.hid cl1
                clear hi1 hi2 hp cl1
                go_wp2_with fail
                refine (fast_pick_any w0 s k _ n S _ rtt _ HG.out (HR.out.same (HC0.out.trans' HG.out.sv.chg)) (by omega) hlr b HL.out).mono ?_
                rintro e w5 ⟨rfl, hG5, hC5⟩
                have HG5 := Lib.hid hG5
                have hbI : InI (5 * (b : Int)) := inI (by omega)
                have cl5 : w5.cell? ⟨gl, ol + b, .none⟩ = some (.int .i64 (5 * (b : Int))) := by obtain ⟨gl', ol', e5, hgl5, cl5⟩ := HG5.out.cell hbk; cases e5; exact cl5
                have HBF5 := Lib.hid (show fullA (pickS S (5 * (b : Int))) b = false by rw [fullA_pick]; exact HBF.out)
                have HSn := Lib.hid (sends_start HG5.out.fast hbk HBF5.out)
                have HSv := Lib.hid HG5.out.sv
                have HOw := Lib.hid HG5.out.own
                clear hG5 hC5 HG HCL HL
                go_wp2_with fail
                go_loopw [12] (fun i wr => ∃ (j : Nat) (S1 : Sch), j ≤ 4 ∧ i = .int .i64 j ∧ Hid (Sv w0 s k S1 wr) ∧ Hid (Sends (pickS S (5 * (b : Int))) S1 b j) ∧ Hid (wr.ownsRow w0.heap.size 3 1 (.slice (some ⟨gl, ol, .none⟩) k cl) (fives k).length (ints (fives k)))) (fun i _ => 4 - (intOf i).toNat)
                case atStart => exact ⟨0, _, by omega, rfl, HSv, HSn, HOw⟩
                case round =>
                  clear HSv HSn HOw
                  obtain ⟨j, S1, hj, rfl, HSv, HSn, HOw⟩ := hrel
                  by_cases hj2 : j < 4
                  · have HUn := Lib.hid (show under S1 (5 * (b : Int)) < 100000 by rw [HSn.out.under]; omega)
                    go_wp2_with fail
                    refine (sent_any _ _ s k S1 HSv.out.is HSv.out.zone (5 * (b : Int)) (j : Int) 0 hbI _ [] (Rd.nil _ 2) (by simp) (fun g o n c' e hm => by cases e) HUn.out).mono ?_
                    rintro e w7 ⟨cv, rfl, hI, hC⟩
                    have HSv7 := Lib.hid (HSv.out.step hI hC)
                    have HSn7 := Lib.hid (HSn.out.step hj2 0 cv)
                    have HOw7 := Lib.hid (own_zone HOw.out hC)
                    clear hI hC
                    go_wp2_with fail
                    go_roundw
                    case rel => exact ⟨j + 1, _, by omega, by go_num, HSv7, HSn7, HOw7⟩
                    case measure => simp [intOf]; omega
                  · obtain rfl : j = 4 := by omega
                    have HG9 := Lib.hid (show Fg w0 s k (.slice (some ⟨gl, ol, .none⟩) k cl) (n + 1) S1 wr from ⟨HSv.out, (HSn.out.done HG5.out.fast hbk HBF5.out).1, by rw [(HSn.out.done HG5.out.fast hbk HBF5.out).2, HG5.out.full], HOw.out⟩)
                    go_wp2_with fail
                    go_roundw
                    case rel => exact ⟨n + 1, _, by omega, by go_num, HG9⟩
                    case measure => simp [intOf]; omega
          · obtain rfl : n = m := by omega
            go_wp2_with fail
            refine (fast_pick_end w0 s n _ S _ rtt _ HG.out (HR.out.same (HC0.out.trans' HG.out.sv.chg)) (by omega) hlr).mono ?_
            rintro e w5 ⟨rfl, hC⟩
            have HC := Lib.hid hC
            clear hC
            go_wp2_with fail
            go_ret
            exact ⟨rfl, HC0.out.trans' HC.out⟩
    · as_aux_lemma =>
      have HG0 := Lib.hid HF.out.ready
      clear HF
      go_wp2_with fail
      go_loopw [7] (fun i wr => ∃ (n : Nat) (S : Sch), n ≤ m ∧ i = .int .i64 n ∧ Hid (Fg w0 s m (.slice Al m cl) n S wr)) (fun i _ => m - (intOf i).toNat)
      case atStart => exact ⟨0, _, by omega, rfl, HG0⟩
      case round =>
        clear HG0
        obtain ⟨n, S, hn, rfl, HG⟩ := hrel
        by_cases hn2 : n < m
        · go_wp2_with fail
          go_loopw [8, 9] (fun b i wr => ∃ (k : Nat) (lb : Int), k ≤ m ∧ i = .int .i64 k ∧ b = .int .i64 lb ∧ -1 ≤ lb ∧ lb < k ∧ Hid (lb = lbF S rtt k) ∧ Hid (Fg w0 s m (.slice Al m cl) n S wr)) (fun _ i _ => m - (intOf i).toNat)
          case atStart => exact ⟨0, _, by omega, rfl, rfl, by omega, by omega, Lib.hid rfl, HG⟩
          case round =>
            clear HG
            obtain ⟨k, lb, hk, rfl, rfl, hlb0, hlb1, HL, HG⟩ := hrel
            by_cases hk2 : k < m
            · obtain ⟨gl, ol, rfl, hgl, cl1⟩ := HG.out.cell hk2
              have hC2 := HC0.out.trans' HG.out.sv.chg
              obtain ⟨a, ha⟩ : ∃ a, rtt[k]? = some a := ⟨_, List.getElem?_eq_getElem (by omega)⟩
              obtain ⟨g, o, c, hAv, hg, hca⟩ := HR.out.int ha
              cases hAv
              have ca : wr.cell? ⟨g, o + k, .none⟩ = some (.int .i64 a) := (hC2.cell (p := ⟨g, o + k, .none⟩) hg (not_nowhere _)).trans hca
              have HA := Lib.hid (show tk rtt k = a by unfold tk; rw [ha]; rfl)
              have hw5 : IntKind.i64.wrap (5 * (k : Int)) = 5 * (k : Int) := wrapI ⟨by omega, by omega⟩
              have HSt := Lib.hid (show lbF S rtt (k + 1) = if fullA S k = false ∧ (lb < 0 ∨ a < tk rtt lb.toNat) then (k : Int) else lb by rw [lbF, ← HL.out, HA.out])
              clear hca ha
              cases hf : fullA S k with
              | true =>
                obtain ⟨f, f1, f2, f3⟩ := fullA_true HG.out.fast hk2 hf
                have HU := Lib.hid f1
                have HX1 := Lib.hid (show (4 : Int) = f.l.length by omega)
                have HX2 := Lib.hid f2.symm
                have HE := Lib.hid (show lb = lbF S rtt (k + 1) by rw [HSt.out, if_neg (by rw [hf]; simp)])
                have HSS := HG.out.sv.is
                have HIS := Lib.hid HSS
                clear f1 f2 f3 hf HSS hC2 HA
                go_wp2_with fail
                go_quiet ((first | (go_at_call 47; exact under_q _ _ _ _ _ HIS.out _ (inI (by omega)) _ HU.out _ HX1.out _) | (go_at_call 48; exact window_q _ _ _ _ _ HIS.out _ (inI (by omega)) _ HU.out _ HX2.out _)))
                go_wp2_with fail
                go_roundw
                case rel => exact ⟨k + 1, lb, by omega, by go_num, rfl, by omega, by omega, HE, Lib.hid (HG.out.idle ((Chg.refl _ _).drewN _))⟩
                case measure => simp [intOf]; omega
              | false =>
                have f1 := fullA_false HG.out.fast hk2 hf
                have HU := Lib.hid f1
                have HSS := HG.out.sv.is
                have HIS := Lib.hid HSS
                have HF2 := Lib.hid hf
                clear f1 hf HSS
                rcases (by omega : lb = -1 ∨ 0 ≤ lb) with rfl | hp
                · have HE := Lib.hid (show (k : Int) = lbF S rtt (k + 1) by rw [HSt.out, if_pos ⟨HF2.out, .inl (by decide)⟩])
                  clear hC2 HA
                  go_wp2_with fail
                  go_quiet ((first | (go_at_call 47; exact under_q _ _ _ _ _ HIS.out _ (inI (by omega)) _ HU.out 0 rfl _) | (go_at_call 48; exact window_q _ _ _ _ _ HIS.out _ (inI (by omega)) _ HU.out 4 rfl _)))
                  go_wp2_with fail
                  go_roundw
                  case rel => exact ⟨k + 1, k, by omega, by go_num, rfl, by omega, by omega, HE, Lib.hid (HG.out.idle ((Chg.refl _ _).drewN _))⟩
                  case measure => simp [intOf]; omega
                · obtain ⟨q, rfl⟩ : ∃ q : Nat, lb = (q : Int) := ⟨lb.toNat, by omega⟩
                  obtain ⟨d, hd⟩ : ∃ d, rtt[q]? = some d := ⟨_, List.getElem?_eq_getElem (by omega)⟩
                  obtain ⟨g', o', c'', hAv, hg', hcd⟩ := HR.out.int hd
                  cases hAv
                  have cd : wr.cell? ⟨g, o + q, .none⟩ = some (.int .i64 d) := (hC2.cell (p := ⟨g, o + q, .none⟩) hg (not_nowhere _)).trans hcd
                  have hkr : k < rtt.length := by omega
                  have hqr : q < rtt.length := by omega
                  have HSt2 := Lib.hid (show lbF S rtt (k + 1) = if a < d then (k : Int) else (q : Int) by
                    rw [HSt.out, Int.toNat_natCast, show tk rtt q = d by unfold tk; rw [hd]; rfl]
                    by_cases had : a < d
                    · rw [if_pos ⟨HF2.out, .inr had⟩, if_pos had]
                    · rw [if_neg (fun hh => hh.2.elim (fun h => by omega) had), if_neg had])
                  clear hd hcd hg' hC2 HA HSt
                  by_cases had : a < d
                  · have HE := Lib.hid (HSt2.out.trans (if_pos had)).symm
                    have hdd : decide (a < d) = true := decide_eq_true had
                    clear had
                    go_wp2_with fail
                    go_quiet ((first | (go_at_call 47; exact under_q _ _ _ _ _ HIS.out _ (inI (by omega)) _ HU.out 0 rfl _) | (go_at_call 48; exact window_q _ _ _ _ _ HIS.out _ (inI (by omega)) _ HU.out 4 rfl _)))
                    go_wp2_with fail
                    go_roundw
                    case rel => exact ⟨k + 1, k, by omega, by go_num, rfl, by omega, by omega, HE, Lib.hid (HG.out.idle ((Chg.refl _ _).drewN _))⟩
                    case measure => simp [intOf]; omega
                  · have HE := Lib.hid (HSt2.out.trans (if_neg had)).symm
                    have hdd : decide (a < d) = false := decide_eq_false had
                    clear had
                    go_wp2_with fail
                    go_quiet ((first | (go_at_call 47; exact under_q _ _ _ _ _ HIS.out _ (inI (by omega)) _ HU.out 0 rfl _) | (go_at_call 48; exact window_q _ _ _ _ _ HIS.out _ (inI (by omega)) _ HU.out 4 rfl _)))
                    go_wp2_with fail
                    go_roundw
                    case rel => exact ⟨k + 1, q, by omega, by go_num, rfl, by omega, by omega, HE, Lib.hid (HG.out.idle ((Chg.refl _ _).drewN _))⟩
                    case measure => simp [intOf]; omega
            · obtain rfl : k = m := by omega
              obtain ⟨i1, hi1, hi2⟩ := full_lt (show fullN S k < k by rw [HG.out.full]; exact hn2)
              have hp : 0 ≤ lb := by rw [HL.out]; exact lbF_some hi1 hi2
              obtain ⟨b, rfl⟩ : ∃ b : Nat, lb = (b : Int) := ⟨lb.toNat, by omega⟩
              have HBF := Lib.hid (show fullA S b = false by have := (lbF_in S rtt k).2.2; rw [← HL.out, Int.toNat_natCast] at this; exact this hp)
              have hbk : b < k := by omega
              obtain ⟨gl, ol, rfl, hgl, cl1⟩ := HG.out.cell hbk
              have HCL := Lib.hid cl1
              clear hi1 hi2 hp cl1
              go_wp2_with fail
              refine (fast_pick_any w0 s k _ n S _ rtt _ HG.out (HR.out.same (HC0.out.trans' HG.out.sv.chg)) (by omega) hlr b HL.out).mono ?_
              rintro e w5 ⟨rfl, hG5, hC5⟩
              have HG5 := Lib.hid hG5
              have hbI : InI (5 * (b : Int)) := inI (by omega)
              have cl5 : w5.cell? ⟨gl, ol + b, .none⟩ = some (.int .i64 (5 * (b : Int))) := by obtain ⟨gl', ol', e5, hgl5, cl5⟩ := HG5.out.cell hbk; cases e5; exact cl5
              have HBF5 := Lib.hid (show fullA (pickS S (5 * (b : Int))) b = false by rw [fullA_pick]; exact HBF.out)
              have HSn := Lib.hid (sends_start HG5.out.fast hbk HBF5.out)
              have HSv := Lib.hid HG5.out.sv
              have HOw := Lib.hid HG5.out.own
              clear hG5 hC5 HG HCL HL
              go_wp2_with fail
              go_loopw [12] (fun i wr => ∃ (j : Nat) (S1 : Sch), j ≤ 4 ∧ i = .int .i64 j ∧ Hid (Sv w0 s k S1 wr) ∧ Hid (Sends (pickS S (5 * (b : Int))) S1 b j) ∧ Hid (wr.ownsRow w0.heap.size 3 1 (.slice (some ⟨gl, ol, .none⟩) k cl) (fives k).length (ints (fives k)))) (fun i _ => 4 - (intOf i).toNat)
              case atStart => exact ⟨0, _, by omega, rfl, HSv, HSn, HOw⟩
              case round =>
                clear HSv HSn HOw
                obtain ⟨j, S1, hj, rfl, HSv, HSn, HOw⟩ := hrel
                by_cases hj2 : j < 4
                · have HUn := Lib.hid (show under S1 (5 * (b : Int)) < 100000 by rw [HSn.out.under]; omega)
                  go_wp2_with fail
                  refine (sent_any _ _ s k S1 HSv.out.is HSv.out.zone (5 * (b : Int)) (j : Int) 0 hbI _ [] (Rd.nil _ 2) (by simp) (fun g o n c' e hm => by cases e) HUn.out).mono ?_
                  rintro e w7 ⟨cv, rfl, hI, hC⟩
                  have HSv7 := Lib.hid (HSv.out.step hI hC)
                  have HSn7 := Lib.hid (HSn.out.step hj2 0 cv)
                  have HOw7 := Lib.hid (own_zone HOw.out hC)
                  clear hI hC
                  go_wp2_with fail
                  go_roundw
                  case rel => exact ⟨j + 1, _, by omega, by go_num, HSv7, HSn7, HOw7⟩
                  case measure => simp [intOf]; omega
                · obtain rfl : j = 4 := by omega
                  have HG9 := Lib.hid (show Fg w0 s k (.slice (some ⟨gl, ol, .none⟩) k cl) (n + 1) S1 wr from ⟨HSv.out, (HSn.out.done HG5.out.fast hbk HBF5.out).1, by rw [(HSn.out.done HG5.out.fast hbk HBF5.out).2, HG5.out.full], HOw.out⟩)
                  go_wp2_with fail
                  go_roundw
                  case rel => exact ⟨n + 1, _, by omega, by go_num, HG9⟩
                  case measure => simp [intOf]; omega
        · obtain rfl : n = m := by omega
          go_wp2_with fail
          refine (fast_pick_end w0 s n _ S _ rtt _ HG.out (HR.out.same (HC0.out.trans' HG.out.sv.chg)) (by omega) hlr).mono ?_
          rintro e w5 ⟨rfl, hC⟩
          have HC := Lib.hid hC
          clear hC
          go_wp2_with fail
          go_ret
          exact ⟨rfl, HC0.out.trans' HC.out⟩
theorem fast_walk' (s : Option Addr) (cap : Nat) (zs : List {z : Int // InI z}) (w : World) (hcap : zs.length ≤ cap) (hm : cap ≤ maxLen)
    (hc : 0 < zs.length → ∃ g o, s = some ⟨g, o, none⟩ ∧ g < w.heap.size ∧ ∀ (i : Nat) z, zs[i]? = some z → ∀ (j : Nat) u, (intI z)[j]? = some u → w.cell? ⟨g, o + (i * 1 + j), none⟩ = some u) :
    Calls Try.prog 12 #[.slice s zs.length cap] w (ShownSTo w) := by
  have := fast_walk _ (zs.map (·.1)) w (rd_ints hcap hc) (by unfold maxLen at hm; rw [List.length_map]; omega)
  exact this
end Go.Proofs.Ytiijnhgafadokaa
