/-
  SchedTurns, walked: it returns true.
-/
import Derived.Test.YtiijnhgafadokaaSchTurnsPure
import Derived.Test.YtiijnhgafadokaaSchRow
namespace Go.Proofs.Ytiijnhgafadokaa
open Go.RowKit
set_option linter.unusedVariables false

/-- While the paths are opened. -/
structure Fill (w0 : World) (s : Nat) (live : List Int) (v : Value) (S : Sch) (w : World) : Prop where
  sv : Sv w0 s live.length S w
  turn : Turn S live
  last : S.last = -1
  own : w.ownsRow w0.heap.size 3 1 v live.length (ints live)
  le : live.length ≤ 16
  bnd : ∀ x ∈ live, InI x
theorem Fill.idle {w0 : World} {s : Nat} {live : List Int} {v : Value} {S : Sch} {w w' : World} (h : Fill w0 s live v S w) (hc : Chg Nowhere w w') : Fill w0 s live v S w' :=
  ⟨h.sv.idle hc, h.turn, h.last, own_chg h.own hc (fun _ _ => not_nowhere _), h.le, h.bnd⟩
/-- In the rounds. -/
structure Rnd (w0 : World) (s : Nat) (live : List Int) (v : Value) (i : Nat) (t : Int) (S : Sch) (w : World) : Prop where
  sv : Sv w0 s live.length S w
  rnd : Round S live i t
  own : w.ownsRow w0.heap.size 3 1 v live.length (ints live)
theorem Fill.rnd {w0 : World} {s : Nat} {live : List Int} {v : Value} {S : Sch} {w : World} (h : Fill w0 s live v S w) : Rnd w0 s live v 0 (-1) S w :=
  ⟨h.sv, ⟨h.turn, fun _ => ⟨rfl, .inr (by rw [h.last]; exact cnt_all fun x hx => by have := h.turn.pos x hx; omega)⟩, fun h => by omega⟩, h.own⟩
theorem Rnd.idle {w0 : World} {s : Nat} {live : List Int} {v : Value} {i : Nat} {t : Int} {S : Sch} {w w' : World} (h : Rnd w0 s live v i t S w) (hc : Chg Nowhere w w') : Rnd w0 s live v i t S w' :=
  ⟨h.sv.idle hc, h.rnd, own_chg h.own hc (fun _ _ => not_nowhere _)⟩
theorem Rnd.next {w0 : World} {s : Nat} {live : List Int} {v : Value} {t : Int} {S : Sch} {w : World} (h : Rnd w0 s live v live.length t S w) : Rnd w0 s live v 0 (-1) S w := ⟨h.sv, h.rnd.next, h.own⟩
/-- One Pick by turns. -/
theorem turn_pick (w0 : World) (s : Nat) (live : List Int) (v : Value) (i : Nat) (t : Int) (S : Sch) (w : World) (h : Rnd w0 s live v i t S w) (hb : ∀ x ∈ live, InI x) (hi : i < live.length) (hl : live.length ≤ 16) :
    Calls Try.prog 44 #[.pointer (some ⟨s, 0, .none⟩), v, .slice .none 0 0] w
      fun e w' => ∃ b : Int, e = .returned (.tuple #[.int .i64 b, .bool true]) ∧ t < b ∧ InI b ∧ ∃ S', Rnd w0 s live v (i + 1) b S' w' := by
  refine (pick_any _ _ s _ S h.sv.is _ _ live [] (Rd.of_owns h.own) (Rd.nil _ 1) hb (by omega) (by simp)).mono ?_
  rintro e w' ⟨h1, h2, h3⟩
  rcases h.rnd.step hi with ⟨b1, b2, b3, b4⟩ | ⟨x, hx, hn⟩
  · refine ⟨_, ?_, b2, b3, _, h.sv.step h2 h3, b4, own_zone h.own h3⟩
    rw [h1, if_neg (by omega), decide_eq_true b1]
  · exact absurd (hb x hx) hn
/-- The last one. -/
theorem turn_last (w0 : World) (s : Nat) (live : List Int) (v : Value) (i : Nat) (t : Int) (S : Sch) (w : World) (h : Rnd w0 s live v i t S w) (hb : ∀ x ∈ live, InI x) (hl : live.length ≤ 16) :
    Calls Try.prog 44 #[.pointer (some ⟨s, 0, .none⟩), v, .slice .none 0 0] w
      fun e w' => ∃ b : Int, e = .returned (.tuple #[.int .i64 b, .bool (decide (0 < live.length))]) ∧ Chg Nowhere w0 w' := by
  refine (pick_any _ _ s _ S h.sv.is _ _ live [] (Rd.of_owns h.own) (Rd.nil _ 1) hb (by omega) (by simp)).mono ?_
  rintro e w' ⟨h1, h2, h3⟩
  exact ⟨_, by rw [h1, h.rnd.turn.is], (h.sv.step h2 h3).chg⟩
/-- Was it there? -/
def there (x : Int) (l : List Int) : Bool := decide (x < 0) || l.any fun y => decide (y = x)
theorem there_no {x : Int} {l : List Int} (h : there x l = false) : 0 ≤ x ∧ x ∉ l := by
  unfold there at h
  simp at h
  refine ⟨h.1, fun hx => h.2 x hx rfl⟩
theorem there_snoc {x y : Int} {l : List Int} {m : Nat} (h : l[m]? = some y) : there x (l.take (m + 1)) = (there x (l.take m) || decide (y = x)) := by
  unfold there
  rw [List.take_add_one, h]
  simp [Bool.or_assoc]
set_option maxHeartbeats 3200000 in
set_option maxRecDepth 100000 in
theorem turns_walk (va : Value) (ids : List Int) (n : Int) (w : World) (hR : Rd w va 1 ids.length (ints ids)) (hin : ∀ x ∈ ids, InI x) (hl : ids.length ≤ 9223372036854775807) (hn : InI n) :
    Calls Try.prog 10 #[va, .int .i64 n] w (ShownSTo w) := by
  obtain ⟨i0, hi, hz0, hz1, hz2⟩ := info_parts infoInt'
  obtain ⟨-, A, cp, rfl, hcp, -⟩ := id hR
  have HR := Lib.hid hR
  have HN := Lib.hid hn
  have HIn := Lib.hid hin
  clear hR hn hin
  go_enter Try.func10, Try.ntmps10
  go_wp2_with fail
  refine (shownS_any _).mono ?_
  rintro e w0 ⟨rfl, hC0⟩
  have HC0 := Lib.hid hC0
  clear hC0
  go_wp2_with fail
  refine (newS_any _ _).mono ?_
  rintro e w1 ⟨s, rfl, hI, hC⟩
  have H1 := Lib.hid (show Sv w0 s 0 (newS 1) w1 from ⟨hI, hC⟩)
  clear hI hC
  go_wp2_with fail
  have HF0 := Lib.hid (show Fill w0 s [] (.slice (some ⟨w1.heap.size, 0, .none⟩) 0 0) (newS 1) (w1.alloc (.cells #[] 3)) from
    ⟨H1.out.idle ((Chg.refl _ _).alloc _), turn_new, rfl, World.ownsRow_lit (base := w0.heap.size) (e := 3) (size := 1) w1 #[] 0 H1.out.chg.size (by unfold maxLen; omega) rfl, by simp, by simp⟩)
  clear H1
  go_loopw [7, 8] (fun v i wr => ∃ (k : Nat) (live : List Int) (S : Sch), k ≤ ids.length ∧ i = .int .i64 k ∧ Hid (Fill w0 s live v S wr)) (fun _ i _ => ids.length - (intOf i).toNat)
  case atStart => exact ⟨0, _, _, by omega, rfl, HF0⟩
  case round =>
    clear HF0
    obtain ⟨k, live, S, hk, rfl, HF⟩ := hrel
    obtain ⟨-, Al, cl, rfl, -, -⟩ := Rd.of_owns HF.out.own
    have hl16 := HF.out.le
    by_cases hk2 : k < ids.length
    · by_cases hl2 : live.length < 16
      · as_aux_lemma =>
        obtain ⟨x, hx⟩ : ∃ x, ids[k]? = some x := ⟨_, List.getElem?_eq_getElem hk2⟩
        obtain ⟨g, o, c, hAv, hg, hcx⟩ := HR.out.int hx
        cases hAv
        have hC2 := HC0.out.trans' HF.out.sv.chg
        have cx : wr.cell? ⟨g, o + k, .none⟩ = some (.int .i64 x) := (hC2.cell (p := ⟨g, o + k, .none⟩) hg (not_nowhere _)).trans hcx
        have HCX := Lib.hid cx
        have HXI := Lib.hid (HIn.out x (List.mem_of_getElem? hx))
        have hgl := World.block_lt_of_cell? wr _ cx
        have HCW := Lib.hid hcx
        have HGW := Lib.hid hg
        clear hx hC2 hcx hg
        go_wp2_with fail
        go_loopw [9, 10] (fun t j w2 => ∃ (m : Nat), m ≤ live.length ∧ j = .int .i64 m ∧ t = .bool (there x (live.take m)) ∧ Hid (Chg Nowhere wr w2)) (fun _ j _ => live.length - (intOf j).toNat)
        case atStart => exact ⟨0, by omega, rfl, by unfold there; simp, Lib.hid (Chg.refl _ _)⟩
        case round =>
          obtain ⟨m, hm, rfl, rfl, HC⟩ := hrel
          have cx2 : wr.cell? ⟨g, o + k, .none⟩ = some (.int .i64 x) := (HC.out.cell (p := ⟨g, o + k, .none⟩) hgl (not_nowhere _)).trans HCX.out
          by_cases hm2 : m < live.length
          · obtain ⟨y, hy⟩ : ∃ y, live[m]? = some y := ⟨_, List.getElem?_eq_getElem hm2⟩
            obtain ⟨gl, ol, c', hAv, hgl', hcy⟩ := (Rd.of_owns HF.out.own).int hy
            cases hAv
            have cy : wr.cell? ⟨gl, ol + m, .none⟩ = some (.int .i64 y) := (HC.out.cell (p := ⟨gl, ol + m, .none⟩) hgl' (not_nowhere _)).trans hcy
            have HT := Lib.hid (there_snoc (x := x) hy)
            clear hy hcy hgl'
            cases ht : there x (live.take m) with
            | true =>
              rw [ht] at HT
              have HT2 := Lib.hid (HT.out.trans (Bool.true_or _))
              clear HT cx2 cy ht
              go_wp2_with fail
              go_quiet (fail)
              go_wp2_with fail
              go_roundw
              case rel => exact ⟨m + 1, by omega, by go_num, by rw [HT2.out], Lib.hid (HC.out.trans' ((Chg.refl _ _).drewN _))⟩
              case measure => simp [intOf]; omega
            | false =>
              rw [ht] at HT
              have HT2 := Lib.hid (HT.out.trans (Bool.false_or _))
              clear HT ht
              cases hd : decide (y = x) with
              | true =>
                rw [hd] at HT2
                have hq : (y == x) = true := by simpa using hd
                go_wp2_with fail
                go_quiet (fail)
                go_wp2_with fail
                go_roundw
                case rel => exact ⟨m + 1, by omega, by go_num, by rw [HT2.out], Lib.hid (HC.out.trans' ((Chg.refl _ _).drewN _))⟩
                case measure => simp [intOf]; omega
              | false =>
                rw [hd] at HT2
                have hq : (y == x) = false := by simpa using hd
                go_wp2_with fail
                go_quiet (fail)
                go_wp2_with fail
                go_roundw
                case rel => exact ⟨m + 1, by omega, by go_num, by rw [HT2.out], Lib.hid (HC.out.trans' ((Chg.refl _ _).drewN _))⟩
                case measure => simp [intOf]; omega
          · obtain rfl : m = live.length := by omega
            have HF2 := Lib.hid (HF.out.idle HC.out)
            cases ht : there x (live.take live.length) with
            | true =>
              clear ht
              go_wp2_with fail
              go_roundw
              case rel => exact ⟨k + 1, _, _, by omega, by go_num, HF2⟩
              case measure => simp [intOf]; omega
            | false =>
              rw [List.take_length] at ht
              obtain ⟨x0, xn⟩ := there_no ht
              have HX0 := Lib.hid x0
              have HXN := Lib.hid xn
              clear ht x0 xn
              go_wp2_with (at_builtin; refine wpList_append_own _ rfl _ _ 34 rfl w0.heap.size 3 i0 (.int .i64 0) 1 8 Try.underlying34 hi hz0 hz1 hz2 rfl (by decide) (.slice Al live.length cl) live.length (ints live) rfl (HF2.out.idle ((Chg.refl _ _).alloc _)).own ⟨wr.heap.size, 0, .none⟩ 1 1 [.int .i64 x] rfl rfl (new1' wr _ _ _ rfl) (fun y hy => by simp at hy; subst hy; rfl) (by unfold maxLen; omega) (by omega) (by have := HF2.out.sv.chg.size; simp; omega) ?_; intro v' w3 hown' hgrow3 hnil3; have HO' := Lib.hid hown'; have HG := Lib.hid hgrow3; clear hown' hnil3 hgrow3; have HS3 := Lib.hid (HF2.out.sv.grown ((Chg.refl _ _).alloc _) otherInt HF2.out.own (Nat.le_refl _) HG.out); have cx3 := ((HC0.out.trans' HS3.out.chg).cell (p := ⟨g, o + k, .none⟩) HGW.out (not_nowhere _)).trans HCW.out)
              refine (openS_any _ _ s _ _ HS3.out.is HS3.out.zone (by omega) x HXI.out).mono ?_
              rintro e w4 ⟨rfl, hI, hC⟩
              have HF4 := Lib.hid (show Fill w0 s (live ++ [x]) v' (openS S x) w4 from ⟨by rw [List.length_append]; exact HS3.out.step hI hC, (HF2.out.turn.open HX0.out HXN.out).1, (HF2.out.turn.open HX0.out HXN.out).2.trans HF2.out.last, by rw [List.length_append, ints_app]; exact own_zone HO'.out hC, by rw [List.length_append]; simp; omega, fun y hy => by rw [List.mem_append, List.mem_singleton] at hy; exact hy.elim (HF2.out.bnd y) (fun e => e ▸ HXI.out)⟩)
              clear hI hC
              go_wp2_with fail
              go_roundw
              case rel => exact ⟨k + 1, _, _, by omega, by go_num, HF4⟩
              case measure => simp [intOf]; omega
      · as_aux_lemma =>
        have HB := Lib.hid HF.out.bnd
        have HR0 := Lib.hid HF.out.rnd
        clear HF
        go_wp2_with fail
        go_loopw [11] (fun i wr => ∃ (r : Nat) (S : Sch), r ≤ 4 ∧ i = .int .i64 r ∧ Hid (Rnd w0 s live (.slice Al live.length cl) 0 (-1) S wr)) (fun i _ => 5 - (intOf i).toNat)
        case atStart => exact ⟨0, _, by omega, rfl, HR0⟩
        case round =>
          clear HR0
          obtain ⟨r, S, hr, rfl, HR0⟩ := hrel
          go_wp2_with fail
          refine (kind21_any n 4 _ HN.out (by omega)).mono ?_
          rintro e w' ⟨q, hq, rfl, rfl⟩
          by_cases hr2 : r < 1 + q
          · have hrd : decide ((r : Int) < 1 + (q : Int)) = true := decide_eq_true (by omega)
            go_wp2_with fail
            go_loopw [12, 13] (fun t i wr => ∃ (m : Nat) (S : Sch) (t0 : Int), m ≤ live.length ∧ i = .int .i64 m ∧ t = .int .i64 t0 ∧ InI t0 ∧ Hid (Rnd w0 s live (.slice Al live.length cl) m t0 S wr)) (fun _ i _ => live.length - (intOf i).toNat)
            case atStart => exact ⟨0, _, _, by omega, rfl, rfl, inI (by omega), HR0⟩
            case round =>
              clear HR0
              obtain ⟨m, S, t0, hm, rfl, rfl, ht0, HR0⟩ := hrel
              by_cases hm2 : m < live.length
              · go_wp2_with fail
                refine (turn_pick w0 s live _ m t0 S _ HR0.out HB.out hm2 hl16).mono ?_
                rintro e w' ⟨b, rfl, hb, hbI, S', hR'⟩
                have HR1 := Lib.hid hR'
                have hle : decide (b ≤ t0) = false := decide_eq_false (by omega)
                clear hR'
                go_wp2_with fail
                go_roundw
                case rel => exact ⟨m + 1, _, _, by omega, by go_num, rfl, hbI, HR1⟩
                case measure => simp [intOf]; omega
              · obtain rfl : m = live.length := by omega
                have HR1 := Lib.hid HR0.out.next
                go_wp2_with fail
                go_roundw
                case rel => exact ⟨r + 1, _, by omega, by go_num, HR1⟩
                case measure => simp [intOf]; omega
          · go_wp2_with fail
            refine (turn_last w0 s live _ 0 (-1) S _ HR0.out HB.out hl16).mono ?_
            rintro e w' ⟨b, rfl, hC⟩
            have HC := Lib.hid hC
            clear hC
            cases live with
            | nil =>
              go_wp2_with fail
              go_ret
              exact ⟨rfl, HC0.out.trans' HC.out⟩
            | cons x live =>
              go_wp2_with fail
              go_ret
              exact ⟨rfl, HC0.out.trans' HC.out⟩
    · as_aux_lemma =>
      have HB := Lib.hid HF.out.bnd
      have HR0 := Lib.hid HF.out.rnd
      clear HF
      go_wp2_with fail
      go_loopw [11] (fun i wr => ∃ (r : Nat) (S : Sch), r ≤ 4 ∧ i = .int .i64 r ∧ Hid (Rnd w0 s live (.slice Al live.length cl) 0 (-1) S wr)) (fun i _ => 5 - (intOf i).toNat)
      case atStart => exact ⟨0, _, by omega, rfl, HR0⟩
      case round =>
        clear HR0
        obtain ⟨r, S, hr, rfl, HR0⟩ := hrel
        go_wp2_with fail
        refine (kind21_any n 4 _ HN.out (by omega)).mono ?_
        rintro e w' ⟨q, hq, rfl, rfl⟩
        by_cases hr2 : r < 1 + q
        · have hrd : decide ((r : Int) < 1 + (q : Int)) = true := decide_eq_true (by omega)
          go_wp2_with fail
          go_loopw [12, 13] (fun t i wr => ∃ (m : Nat) (S : Sch) (t0 : Int), m ≤ live.length ∧ i = .int .i64 m ∧ t = .int .i64 t0 ∧ InI t0 ∧ Hid (Rnd w0 s live (.slice Al live.length cl) m t0 S wr)) (fun _ i _ => live.length - (intOf i).toNat)
          case atStart => exact ⟨0, _, _, by omega, rfl, rfl, inI (by omega), HR0⟩
          case round =>
            clear HR0
            obtain ⟨m, S, t0, hm, rfl, rfl, ht0, HR0⟩ := hrel
            by_cases hm2 : m < live.length
            · go_wp2_with fail
              refine (turn_pick w0 s live _ m t0 S _ HR0.out HB.out hm2 hl16).mono ?_
              rintro e w' ⟨b, rfl, hb, hbI, S', hR'⟩
              have HR1 := Lib.hid hR'
              have hle : decide (b ≤ t0) = false := decide_eq_false (by omega)
              clear hR'
              go_wp2_with fail
              go_roundw
              case rel => exact ⟨m + 1, _, _, by omega, by go_num, rfl, hbI, HR1⟩
              case measure => simp [intOf]; omega
            · obtain rfl : m = live.length := by omega
              have HR1 := Lib.hid HR0.out.next
              go_wp2_with fail
              go_roundw
              case rel => exact ⟨r + 1, _, by omega, by go_num, HR1⟩
              case measure => simp [intOf]; omega
        · go_wp2_with fail
          refine (turn_last w0 s live _ 0 (-1) S _ HR0.out HB.out hl16).mono ?_
          rintro e w' ⟨b, rfl, hC⟩
          have HC := Lib.hid hC
          clear hC
          cases live with
          | nil =>
            go_wp2_with fail
            go_ret
            exact ⟨rfl, HC0.out.trans' HC.out⟩
          | cons x live =>
            go_wp2_with fail
            go_ret
            exact ⟨rfl, HC0.out.trans' HC.out⟩
theorem turns_walk' (s : Option Addr) (cap : Nat) (zs : List {z : Int // InI z}) (n : Int) (w : World) (hn : InI n) (hcap : zs.length ≤ cap) (hm : cap ≤ maxLen)
    (hc : 0 < zs.length → ∃ g o, s = some ⟨g, o, none⟩ ∧ g < w.heap.size ∧ ∀ (i : Nat) z, zs[i]? = some z → ∀ (j : Nat) u, (intI z)[j]? = some u → w.cell? ⟨g, o + (i * 1 + j), none⟩ = some u) :
    Calls Try.prog 10 #[.slice s zs.length cap, .int .i64 n] w (ShownSTo w) :=
  turns_walk _ (zs.map (·.1)) n w (rd_ints hcap hc) (ints_in zs) (by unfold maxLen at hm; rw [List.length_map]; omega) hn
end Go.Proofs.Ytiijnhgafadokaa
