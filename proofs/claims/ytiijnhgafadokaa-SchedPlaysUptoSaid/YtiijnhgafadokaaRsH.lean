/-
  The document's scheduler: Pick.
-/
import Derived.Test.YtiijnhgafadokaaRsF
namespace Go.Proofs.Ytiijnhgafadokaa
open Go.RowKit
set_option linter.unusedVariables false
variable {B : Nat}

def turnB (last best id : Int) : Bool := decide (best < 0) || (decide (last < id) && !decide (last < best)) || ((decide (last < id) == decide (last < best)) && decide (id < best))
def rpIn (R : RSch) (st : Int × Int) (id cost : Int) : Int × Int :=
  if R.pol = 0 then (if decide (st.1 < 0) || decide (cost < st.2) then (id, cost) else st) else (if turnB R.last st.1 id then (id, st.2) else st)
def rpStep (R : RSch) (rtt : List Int) (st : Int × Int) (k : Nat) (id : Int) : Int × Int := match fnd R.L id with
  | .none => st
  | some i => match R.L[i]? with
    | .none => st
    | some f => if f.win ≤ (f.l.length : Int) then st else rpIn R st id ((rtt[k]?).getD 0)
def rpTo (R : RSch) (live rtt : List Int) : Nat → Int × Int
  | 0 => (-1, 0)
  | k + 1 => match live[k]? with
    | some id => rpStep R rtt (rpTo R live rtt k) k id
    | .none => rpTo R live rtt k
def pickR (R : RSch) (b : Int) : RSch := if b < 0 then R else { R with last := b }
def PickRTo (B : Nat) (w : World) (y : Nat) (R : RSch) (live rtt : List Int) (e : Ending) (w' : World) : Prop :=
  e = .returned (.tuple #[.int .i64 (if (rpTo R live rtt live.length).1 < 0 then 0 else (rpTo R live rtt live.length).1), .bool (decide (0 ≤ (rpTo R live rtt live.length).1))]) ∧
    RSIs B w' y (pickR R (rpTo R live rtt live.length).1) ∧ ChgR B w w'
theorem RSAt.setLast {w : World} {y : Nat} {vL : Value} {R : RSch} (h : RSAt B w y vL R) (b : Int) : RSAt B (w.setCell ⟨y, 1, .none⟩ (.int .i64 b)) y vL { R with last := b } ∧ ChgR B w (w.setCell ⟨y, 1, .none⟩ (.int .i64 b)) := by
  have hC : Chg (At y) w (w.setCell ⟨y, 1, .none⟩ (.int .i64 b)) := (Chg.refl _ _).putAt
  refine ⟨⟨by rw [set_blk _ h.blk]; rfl, own_chg h.row hC (fun i hi e => ?_), fun f hf => (h.fl f hf).keep hC (fun i hi e => ?_) (fun i cur hh e => types_nott hh h.blk (by decide) (show i = y from e)), h.apart, h.len, h.zy, h.zL, h.zl⟩, ChgR.of hC fun i _ e => by
    obtain rfl : i = y := e
    exact ⟨h.zy, _, _, h.blk, .inl rfl⟩⟩
  · obtain ⟨cur, hh⟩ := own_blk h.row hi
    exact types_nott hh h.blk (by decide) (show i = y from e)
  · obtain ⟨cur, hh⟩ := own_blk (h.fl f hf).row hi
    exact types_nott hh h.blk (by decide) (show i = y from e)
set_option maxHeartbeats 6400000 in
set_option maxRecDepth 100000 in
theorem pickR_any (w : World) (y : Nat) (R : RSch) (h : RSIs B w y R) (va vr : Value) (live rtt : List Int) (hlive : Rd w va 1 live.length (ints live)) (hrtt : Rd w vr 1 rtt.length (ints rtt)) (hl1 : live.length ≤ 9223372036854775807) (hl2 : rtt.length ≤ 9223372036854775807) :
    Calls Try.prog 58 #[.pointer (some ⟨y, 0, .none⟩), va, vr] w (PickRTo B w y R live rtt) := by
  have HI := Lib.hid h
  obtain ⟨vL, h⟩ := h
  have H := Lib.hid h
  obtain ⟨A, cL, rfl⟩ := h.slice
  have hyl := lt_blk h.blk
  have HLv := Lib.hid hlive
  have HRt := Lib.hid hrtt
  obtain ⟨-, Aa, ca, rfl, -, -⟩ := hlive
  obtain ⟨-, Ar, cr, rfl, -, -⟩ := hrtt
  clear h
  go_enter Try.func58, Try.ntmps58
  go_wp2_with fail
  go_loopw [8, 9, 10] (fun b l i wr => ∃ (k : Nat) (best least : Int), k ≤ live.length ∧ i = .int .i64 k ∧ b = .int .i64 best ∧ l = .int .i64 least ∧ Hid ((best, least) = rpTo R live rtt k) ∧ Hid (Chg Nowhere w wr)) (fun _ _ i _ => live.length - (intOf i).toNat)
  case atStart => exact ⟨0, -1, 0, by omega, rfl, rfl, rfl, Lib.hid rfl, Lib.hid (Chg.refl _ _)⟩
  case round =>
    obtain ⟨k, best, least, hk, rfl, rfl, rfl, X, HC⟩ := hrel
    have HA := Lib.hid (H.out.idle HC.out)
    have c0 : wr.cell? ⟨y, 0, .none⟩ = some (.int .i64 R.pol) := by rw [cell_blk HA.out.blk]; rfl
    have c1 : wr.cell? ⟨y, 1, .none⟩ = some (.int .i64 R.last) := by rw [cell_blk HA.out.blk]; rfl
    have c2 : wr.cell? ⟨y, 2, .none⟩ = some (.slice A R.L.length cL) := by rw [cell_blk HA.out.blk]; rfl
    by_cases hk2 : k < live.length
    · obtain ⟨id, hid⟩ : ∃ id, live[k]? = some id := ⟨_, List.getElem?_eq_getElem hk2⟩
      obtain ⟨ga, oa, ca', e, hga, d0⟩ := HLv.out.int hid
      cases e
      have cid : wr.cell? ⟨ga, oa + k, .none⟩ = some (.int .i64 id) := (HC.out.cell (p := ⟨ga, oa + k, .none⟩) hga (not_nowhere _)).trans d0
      have XS := Lib.hid (show rpTo R live rtt (k + 1) = rpStep R rtt (best, least) k id by rw [rpTo, hid]; simp only; rw [← X.out])
      clear hid d0 hga
      cases hf : fnd R.L id with
      | none => as_aux_lemma =>
        have EA := Lib.hid (show atI R.L id = -1 by unfold atI; rw [hf])
        have E := Lib.hid (show (best, least) = rpTo R live rtt (k + 1) by rw [XS.out]; unfold rpStep; rw [hf])
        clear hf
        go_wp2_with fail
        refine (at_any wr y R ⟨_, HA.out⟩ id).mono ?_
        rw [EA.out]
        rintro e w' ⟨rfl, rfl⟩
        go_wp2_with fail
        go_quiet (fail)
        go_wp2_with fail
        go_roundw
        case rel => exact ⟨k + 1, best, least, by omega, by go_num, rfl, rfl, E, Lib.hid (HC.out.drewN _)⟩
        case measure => simp [intOf]; omega
      | some i =>
        obtain ⟨f, hfi, -⟩ := fnd_some hf
        have hil := (List.getElem?_eq_some_iff.1 hfi).1
        have EA := Lib.hid (show atI R.L id = (i : Int) by unfold atI; rw [hf])
        have XF := Lib.hid (show rpTo R live rtt (k + 1) = if f.win ≤ (f.l.length : Int) then (best, least) else rpIn R (best, least) id ((rtt[k]?).getD 0) by rw [XS.out]; unfold rpStep; rw [hf]; simp only; rw [hfi])
        obtain ⟨g, o, c', e, hg, -, d1, -, -, d4, -⟩ := HA.out.cells hfi
        cases e
        obtain ⟨Af, cf, hlv⟩ : ∃ Af cf, f.lv = .slice Af f.l.length cf := by
          obtain ⟨-, Al, cl, hv, -, -⟩ := Rd.of_owns (HA.out.fl f (List.mem_of_getElem? hfi)).row
          exact ⟨Al, cl, hv⟩
        rw [hlv] at d4
        clear hf hfi hlv
        by_cases hfull : f.win ≤ (f.l.length : Int)
        · as_aux_lemma =>
          have E := Lib.hid (XF.out.trans (if_pos hfull)).symm
          have hd : decide (f.win ≤ (f.l.length : Int)) = true := decide_eq_true hfull
          clear hfull
          go_wp2_with fail
          refine (at_any wr y R ⟨_, HA.out⟩ id).mono ?_
          rw [EA.out]
          rintro e w' ⟨rfl, rfl⟩
          go_wp2_with fail
          go_quiet (fail)
          go_wp2_with fail
          go_roundw
          case rel => exact ⟨k + 1, best, least, by omega, by go_num, rfl, rfl, E, Lib.hid (HC.out.drewN _)⟩
          case measure => simp [intOf]; omega
        · have XF2 := Lib.hid (XF.out.trans (if_neg hfull))
          have hd : decide (f.win ≤ (f.l.length : Int)) = false := decide_eq_false hfull
          clear hfull
          obtain ⟨cost, hcost⟩ : ∃ cost, (rtt[k]?).getD 0 = cost := ⟨_, rfl⟩
          rw [hcost] at XF2
          have HCO := Lib.hid hcost
          have hrt : k < rtt.length ∨ ¬ k < rtt.length := Classical.em _
          clear hcost XF XS
          go_wp2_with fail
          refine (at_any wr y R ⟨_, HA.out⟩ id).mono ?_
          rw [EA.out]
          rintro e w' ⟨rfl, rfl⟩
          go_wp2_with fail
          go_quiet (fail)
          rcases hrt with hr | hr
          · have hdr : decide (k < rtt.length) = true := decide_eq_true hr
            obtain ⟨gr, orr, cr', e, hgr, dr⟩ := HRt.out.int (show rtt[k]? = some cost by rw [← HCO.out, List.getElem?_eq_getElem hr]; rfl)
            cases e
            have cr : wr.cell? ⟨gr, orr + k, .none⟩ = some (.int .i64 cost) := (HC.out.cell (p := ⟨gr, orr + k, .none⟩) hgr (not_nowhere _)).trans dr
            clear dr HCO
            by_cases hp : R.pol = 0
            · have hpb : (R.pol == 0) = true := by simpa using hp
              cases b1 : decide (best < 0) with
              | true =>
                as_aux_lemma =>
                  have E := Lib.hid (show (id, cost) = rpTo R live rtt (k + 1) by rw [XF2.out]; unfold rpIn; rw [if_pos hp]; simp only [b1, Bool.true_or, if_true])
                  clear XF2 X
                  go_wp2_with fail
                  go_roundw
                  case rel => exact ⟨k + 1, id, cost, by omega, by go_num, rfl, rfl, E, Lib.hid (HC.out.drewN _)⟩
                  case measure => simp [intOf]; omega
              | false =>
                cases b2 : decide (cost < least) with
                | true =>
                  as_aux_lemma =>
                    have E := Lib.hid (show (id, cost) = rpTo R live rtt (k + 1) by rw [XF2.out]; unfold rpIn; rw [if_pos hp]; simp only [b1, b2, Bool.false_or, if_true])
                    clear XF2 X
                    go_wp2_with fail
                    go_roundw
                    case rel => exact ⟨k + 1, id, cost, by omega, by go_num, rfl, rfl, E, Lib.hid (HC.out.drewN _)⟩
                    case measure => simp [intOf]; omega
                | false =>
                  as_aux_lemma =>
                    have E := Lib.hid (show (best, least) = rpTo R live rtt (k + 1) by rw [XF2.out]; unfold rpIn; rw [if_pos hp]; simp only [b1, b2, Bool.false_or, Bool.false_eq_true, if_false])
                    clear XF2 X
                    go_wp2_with fail
                    go_roundw
                    case rel => exact ⟨k + 1, best, least, by omega, by go_num, rfl, rfl, E, Lib.hid (HC.out.drewN _)⟩
                    case measure => simp [intOf]; omega
            · have hpb : (R.pol == 0) = false := by simpa using hp
              cases b1 : decide (best < 0) with
              | true =>
                as_aux_lemma =>
                  have E := Lib.hid (show (id, least) = rpTo R live rtt (k + 1) by rw [XF2.out]; unfold rpIn; rw [if_neg hp, if_pos (by unfold turnB; simp only [b1]; rfl)])
                  clear XF2 X
                  go_wp2_with fail
                  go_quiet (fail)
                  go_wp2_with fail
                  go_roundw
                  case rel => exact ⟨k + 1, id, least, by omega, by go_num, rfl, rfl, E, Lib.hid (HC.out.drewN _)⟩
                  case measure => simp [intOf]; omega
              | false =>
                cases a1 : decide (R.last < id) with
                | true =>
                  cases a2 : decide (R.last < best) with
                  | true =>
                    cases a3 : decide (id < best) with
                    | true =>
                      as_aux_lemma =>
                        have E := Lib.hid (show (id, least) = rpTo R live rtt (k + 1) by rw [XF2.out]; unfold rpIn; rw [if_neg hp, if_pos (by unfold turnB; simp only [b1, a1, a2, a3]; rfl)])
                        clear XF2 X
                        go_wp2_with fail
                        go_quiet (fail)
                        go_wp2_with fail
                        go_roundw
                        case rel => exact ⟨k + 1, id, least, by omega, by go_num, rfl, rfl, E, Lib.hid (HC.out.drewN _)⟩
                        case measure => simp [intOf]; omega
                    | false =>
                      as_aux_lemma =>
                        have E := Lib.hid (show (best, least) = rpTo R live rtt (k + 1) by rw [XF2.out]; unfold rpIn; rw [if_neg hp, if_neg (by unfold turnB; simp only [b1, a1, a2, a3]; decide)])
                        clear XF2 X
                        go_wp2_with fail
                        go_quiet (fail)
                        go_wp2_with fail
                        go_roundw
                        case rel => exact ⟨k + 1, best, least, by omega, by go_num, rfl, rfl, E, Lib.hid (HC.out.drewN _)⟩
                        case measure => simp [intOf]; omega
                  | false =>
                    as_aux_lemma =>
                      have E := Lib.hid (show (id, least) = rpTo R live rtt (k + 1) by rw [XF2.out]; unfold rpIn; rw [if_neg hp, if_pos (by unfold turnB; simp only [b1, a1, a2]; rfl)])
                      clear XF2 X
                      go_wp2_with fail
                      go_quiet (fail)
                      go_wp2_with fail
                      go_roundw
                      case rel => exact ⟨k + 1, id, least, by omega, by go_num, rfl, rfl, E, Lib.hid (HC.out.drewN _)⟩
                      case measure => simp [intOf]; omega
                | false =>
                  cases a2 : decide (R.last < best) with
                  | true =>
                    as_aux_lemma =>
                      have E := Lib.hid (show (best, least) = rpTo R live rtt (k + 1) by rw [XF2.out]; unfold rpIn; rw [if_neg hp, if_neg (by unfold turnB; rw [b1, a1, a2]; simp)])
                      clear XF2 X
                      go_wp2_with fail
                      go_quiet (fail)
                      go_wp2_with fail
                      go_roundw
                      case rel => exact ⟨k + 1, best, least, by omega, by go_num, rfl, rfl, E, Lib.hid (HC.out.drewN _)⟩
                      case measure => simp [intOf]; omega
                  | false =>
                    cases a3 : decide (id < best) with
                    | true =>
                      as_aux_lemma =>
                        have E := Lib.hid (show (id, least) = rpTo R live rtt (k + 1) by rw [XF2.out]; unfold rpIn; rw [if_neg hp, if_pos (by unfold turnB; simp only [b1, a1, a2, a3]; rfl)])
                        clear XF2 X
                        go_wp2_with fail
                        go_quiet (fail)
                        go_wp2_with fail
                        go_roundw
                        case rel => exact ⟨k + 1, id, least, by omega, by go_num, rfl, rfl, E, Lib.hid (HC.out.drewN _)⟩
                        case measure => simp [intOf]; omega
                    | false =>
                      as_aux_lemma =>
                        have E := Lib.hid (show (best, least) = rpTo R live rtt (k + 1) by rw [XF2.out]; unfold rpIn; rw [if_neg hp, if_neg (by unfold turnB; simp only [b1, a1, a2, a3]; decide)])
                        clear XF2 X
                        go_wp2_with fail
                        go_quiet (fail)
                        go_wp2_with fail
                        go_roundw
                        case rel => exact ⟨k + 1, best, least, by omega, by go_num, rfl, rfl, E, Lib.hid (HC.out.drewN _)⟩
                        case measure => simp [intOf]; omega
          · have hdr : decide (k < rtt.length) = false := decide_eq_false hr
            obtain rfl : cost = 0 := by rw [← HCO.out, List.getElem?_eq_none (by omega)]; rfl
            clear HCO hr
            by_cases hp : R.pol = 0
            · have hpb : (R.pol == 0) = true := by simpa using hp
              cases b1 : decide (best < 0) with
              | true =>
                as_aux_lemma =>
                  have E := Lib.hid (show (id, 0) = rpTo R live rtt (k + 1) by rw [XF2.out]; unfold rpIn; rw [if_pos hp]; simp only [b1, Bool.true_or, if_true])
                  clear XF2 X
                  go_wp2_with fail
                  go_roundw
                  case rel => exact ⟨k + 1, id, 0, by omega, by go_num, rfl, rfl, E, Lib.hid (HC.out.drewN _)⟩
                  case measure => simp [intOf]; omega
              | false =>
                cases b2 : decide (0 < least) with
                | true =>
                  as_aux_lemma =>
                    have E := Lib.hid (show (id, 0) = rpTo R live rtt (k + 1) by rw [XF2.out]; unfold rpIn; rw [if_pos hp]; simp only [b1, b2, Bool.false_or, if_true])
                    clear XF2 X
                    go_wp2_with fail
                    go_roundw
                    case rel => exact ⟨k + 1, id, 0, by omega, by go_num, rfl, rfl, E, Lib.hid (HC.out.drewN _)⟩
                    case measure => simp [intOf]; omega
                | false =>
                  as_aux_lemma =>
                    have E := Lib.hid (show (best, least) = rpTo R live rtt (k + 1) by rw [XF2.out]; unfold rpIn; rw [if_pos hp]; simp only [b1, b2, Bool.false_or, Bool.false_eq_true, if_false])
                    clear XF2 X
                    go_wp2_with fail
                    go_roundw
                    case rel => exact ⟨k + 1, best, least, by omega, by go_num, rfl, rfl, E, Lib.hid (HC.out.drewN _)⟩
                    case measure => simp [intOf]; omega
            · have hpb : (R.pol == 0) = false := by simpa using hp
              cases b1 : decide (best < 0) with
              | true =>
                as_aux_lemma =>
                  have E := Lib.hid (show (id, least) = rpTo R live rtt (k + 1) by rw [XF2.out]; unfold rpIn; rw [if_neg hp, if_pos (by unfold turnB; simp only [b1]; rfl)])
                  clear XF2 X
                  go_wp2_with fail
                  go_quiet (fail)
                  go_wp2_with fail
                  go_roundw
                  case rel => exact ⟨k + 1, id, least, by omega, by go_num, rfl, rfl, E, Lib.hid (HC.out.drewN _)⟩
                  case measure => simp [intOf]; omega
              | false =>
                cases a1 : decide (R.last < id) with
                | true =>
                  cases a2 : decide (R.last < best) with
                  | true =>
                    cases a3 : decide (id < best) with
                    | true =>
                      as_aux_lemma =>
                        have E := Lib.hid (show (id, least) = rpTo R live rtt (k + 1) by rw [XF2.out]; unfold rpIn; rw [if_neg hp, if_pos (by unfold turnB; simp only [b1, a1, a2, a3]; rfl)])
                        clear XF2 X
                        go_wp2_with fail
                        go_quiet (fail)
                        go_wp2_with fail
                        go_roundw
                        case rel => exact ⟨k + 1, id, least, by omega, by go_num, rfl, rfl, E, Lib.hid (HC.out.drewN _)⟩
                        case measure => simp [intOf]; omega
                    | false =>
                      as_aux_lemma =>
                        have E := Lib.hid (show (best, least) = rpTo R live rtt (k + 1) by rw [XF2.out]; unfold rpIn; rw [if_neg hp, if_neg (by unfold turnB; simp only [b1, a1, a2, a3]; decide)])
                        clear XF2 X
                        go_wp2_with fail
                        go_quiet (fail)
                        go_wp2_with fail
                        go_roundw
                        case rel => exact ⟨k + 1, best, least, by omega, by go_num, rfl, rfl, E, Lib.hid (HC.out.drewN _)⟩
                        case measure => simp [intOf]; omega
                  | false =>
                    as_aux_lemma =>
                      have E := Lib.hid (show (id, least) = rpTo R live rtt (k + 1) by rw [XF2.out]; unfold rpIn; rw [if_neg hp, if_pos (by unfold turnB; simp only [b1, a1, a2]; rfl)])
                      clear XF2 X
                      go_wp2_with fail
                      go_quiet (fail)
                      go_wp2_with fail
                      go_roundw
                      case rel => exact ⟨k + 1, id, least, by omega, by go_num, rfl, rfl, E, Lib.hid (HC.out.drewN _)⟩
                      case measure => simp [intOf]; omega
                | false =>
                  cases a2 : decide (R.last < best) with
                  | true =>
                    as_aux_lemma =>
                      have E := Lib.hid (show (best, least) = rpTo R live rtt (k + 1) by rw [XF2.out]; unfold rpIn; rw [if_neg hp, if_neg (by unfold turnB; rw [b1, a1, a2]; simp)])
                      clear XF2 X
                      go_wp2_with fail
                      go_quiet (fail)
                      go_wp2_with fail
                      go_roundw
                      case rel => exact ⟨k + 1, best, least, by omega, by go_num, rfl, rfl, E, Lib.hid (HC.out.drewN _)⟩
                      case measure => simp [intOf]; omega
                  | false =>
                    cases a3 : decide (id < best) with
                    | true =>
                      as_aux_lemma =>
                        have E := Lib.hid (show (id, least) = rpTo R live rtt (k + 1) by rw [XF2.out]; unfold rpIn; rw [if_neg hp, if_pos (by unfold turnB; simp only [b1, a1, a2, a3]; rfl)])
                        clear XF2 X
                        go_wp2_with fail
                        go_quiet (fail)
                        go_wp2_with fail
                        go_roundw
                        case rel => exact ⟨k + 1, id, least, by omega, by go_num, rfl, rfl, E, Lib.hid (HC.out.drewN _)⟩
                        case measure => simp [intOf]; omega
                    | false =>
                      as_aux_lemma =>
                        have E := Lib.hid (show (best, least) = rpTo R live rtt (k + 1) by rw [XF2.out]; unfold rpIn; rw [if_neg hp, if_neg (by unfold turnB; simp only [b1, a1, a2, a3]; decide)])
                        clear XF2 X
                        go_wp2_with fail
                        go_quiet (fail)
                        go_wp2_with fail
                        go_roundw
                        case rel => exact ⟨k + 1, best, least, by omega, by go_num, rfl, rfl, E, Lib.hid (HC.out.drewN _)⟩
                        case measure => simp [intOf]; omega
    · obtain rfl : k = live.length := by omega
      have XB := Lib.hid (show (rpTo R live rtt live.length).1 = best by rw [← X.out])
      by_cases hb : best < 0
      · have E1 := Lib.hid (show (if best < 0 then (0 : Int) else best) = 0 from if_pos hb)
        have E2 := Lib.hid (show decide (0 ≤ best) = false from decide_eq_false (by omega))
        have E3 := Lib.hid (show pickR R best = R from if_pos hb)
        go_wp2_with fail
        go_ret2
        refine ⟨?_, ?_, ChgR.none HC.out⟩
        · rw [XB.out, E1.out, E2.out]; rfl
        · rw [XB.out, E3.out]; exact ⟨_, HA.out⟩
      · have E1 := Lib.hid (show (if best < 0 then (0 : Int) else best) = best from if_neg hb)
        have E2 := Lib.hid (show decide (0 ≤ best) = true from decide_eq_true (by omega))
        have E3 := Lib.hid (show pickR R best = { R with last := best } from if_neg hb)
        have fs : wr.frozen? ⟨y, 1, .none⟩ = false := frozen_blk HA.out.blk
        go_wp2_with fail
        go_ret2
        refine ⟨?_, ?_, (ChgR.none HC.out).trans (HA.out.setLast best).2⟩
        · rw [XB.out, E1.out, E2.out]; rfl
        · rw [XB.out, E3.out]; exact ⟨_, (HA.out.setLast best).1⟩
end Go.Proofs.Ytiijnhgafadokaa
