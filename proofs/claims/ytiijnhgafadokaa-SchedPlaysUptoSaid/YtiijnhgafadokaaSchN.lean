/-
  The scheduler (layer 21): Pick.
-/
import Derived.Test.YtiijnhgafadokaaSchM
namespace Go.Proofs.Ytiijnhgafadokaa
open Go.RowKit
set_option linter.unusedVariables false

def pkStep (S : Sch) (rtt : List Int) (st : Int × Int) (i : Nat) (id : Int) : Int × Int := match S.op id with
  | .none => st
  | some f => if f.win ≤ (f.l.length : Int) then st else if better S.pol S.last st.1 st.2 id ((rtt[i]?).getD 0) then (id, (rtt[i]?).getD 0) else st
def pkTo (S : Sch) (live rtt : List Int) : Nat → Int × Int
  | 0 => (-1, 0)
  | k + 1 => match live[k]? with
    | some id => pkStep S rtt (pkTo S live rtt k) k id
    | .none => pkTo S live rtt k
def ints (l : List Int) : List Value := l.map (Value.int .i64)
def pickS (S : Sch) (b : Int) : Sch := if b < 0 then S else { S with last := b }
def PickTo (Z : Nat → Prop) (w : World) (s N : Nat) (S : Sch) (live rtt : List Int) (e : Ending) (w' : World) : Prop :=
  e = .returned (.tuple #[.int .i64 (if (pkTo S live rtt live.length).1 < 0 then 0 else (pkTo S live rtt live.length).1), .bool (decide (0 ≤ (pkTo S live rtt live.length).1))]) ∧
    SchIs Z w' s N (pickS S (pkTo S live rtt live.length).1) ∧ ChgZ Z w w'
/-- Within the loop: two cells of Pick's own. -/
structure PkIn (w : World) (s : Nat) (best least : Int) (wr : World) : Prop where
  self : wr.heap[w.heap.size]? = some (.cells #[.pointer (some ⟨s, 0, .none⟩)] 58 (0,0))
  bs : wr.heap[w.heap.size + 1]? = some (.cells #[.int .i64 best] 3 (0,0))
  ls : wr.heap[w.heap.size + 1 + 1]? = some (.cells #[.int .i64 least] 3 (0,0))
  chg : Chg Nowhere w wr
theorem PkIn.idle {w : World} {s : Nat} {best least : Int} {wr w' : World} (h : PkIn w s best least wr) (hc : Chg Nowhere wr w') : PkIn w s best least w' :=
  ⟨hc.same h.self, hc.same h.bs, hc.same h.ls, h.chg.trans' hc⟩
theorem PkIn.put {w : World} {s : Nat} {best least : Int} {wr : World} (h : PkIn w s best least wr) (b l : Int) :
    PkIn w s b l ((wr.setCell ⟨w.heap.size + 1, 0, .none⟩ (.int .i64 b)).setCell ⟨w.heap.size + 1 + 1, 0, .none⟩ (.int .i64 l)) := by
  have h1 : (wr.setCell ⟨w.heap.size + 1, 0, .none⟩ (.int .i64 b)).heap[w.heap.size + 1]? = some (.cells #[.int .i64 b] 3 (0,0)) := by rw [set_blk _ h.bs]; rfl
  have h2 : (wr.setCell ⟨w.heap.size + 1, 0, .none⟩ (.int .i64 b)).heap[w.heap.size + 1 + 1]? = some (.cells #[.int .i64 least] 3 (0,0)) := (set_other _ (by show w.heap.size + 1 + 1 ≠ w.heap.size + 1; omega)).trans h.ls
  refine ⟨(set_other _ (by show w.heap.size ≠ w.heap.size + 1 + 1; omega)).trans ((set_other _ (by show w.heap.size ≠ w.heap.size + 1; omega)).trans h.self), (set_other _ (by show w.heap.size + 1 ≠ w.heap.size + 1 + 1; omega)).trans h1, by rw [set_blk _ h2]; rfl, (h.chg.put (b := w.heap.size + 1) (.inr (by omega))).put (b := w.heap.size + 1 + 1) (.inr (by omega))⟩
theorem pkIn_start (w : World) (s : Nat) : PkIn w s (-1) 0 (((w.alloc (.cells #[.pointer (some ⟨s, 0, .none⟩)] 58)).alloc (.cells #[.int .i64 (-1)] 3)).alloc (.cells #[.int .i64 0] 3)) := by
  have A1 : (w.alloc (.cells #[.pointer (some ⟨s, 0, .none⟩)] 58)).heap.size = w.heap.size + 1 := by simp
  have A2 : ((w.alloc (.cells #[.pointer (some ⟨s, 0, .none⟩)] 58)).alloc (.cells #[.int .i64 (-1)] 3)).heap.size = w.heap.size + 1 + 1 := by simp
  have h2 := alloc_new (w.alloc (.cells #[.pointer (some ⟨s, 0, .none⟩)] 58)) (.cells #[.int .i64 (-1)] 3)
  have h3 := alloc_new ((w.alloc (.cells #[.pointer (some ⟨s, 0, .none⟩)] 58)).alloc (.cells #[.int .i64 (-1)] 3)) (.cells #[.int .i64 0] 3)
  rw [A1] at h2
  rw [A2] at h3
  exact ⟨alloc_old (alloc_old (alloc_new _ _)), alloc_old h2, h3, (((Chg.refl _ w).alloc _).alloc _).alloc _⟩
theorem PkIn.st {w : World} {Z : Nat → Prop} {s m N : Nat} {F : Int → Option Nat} {V : Int → Value} {S : Sch} {best least : Int} {wr : World} (h : PkIn w s best least wr) (H : SchAt Z w s m N F V S) : PickSt (w.heap.size + 1) w.heap.size (w.heap.size + 1 + 1) s S.pol S.last best least wr := by
  have hb := (H.chg h.chg).blk
  exact ⟨by rw [cell_blk h.bs]; rfl, by rw [cell_blk h.self]; rfl, by rw [cell_blk h.ls]; rfl, by rw [cell_blk hb]; rfl, by rw [cell_blk hb]; rfl⟩
theorem SchAt.setLast {Z : Nat → Prop} {w : World} {s m N : Nat} {F : Int → Option Nat} {V : Int → Value} {S : Sch} (h : SchAt Z w s m N F V S) (b : Int) : SchAt Z (w.setCell ⟨s, 1, .none⟩ (.int .i64 b)) s m N F V { S with last := b } := by
  have hC : Chg (At s) w (w.setCell ⟨s, 1, .none⟩ (.int .i64 b)) := (Chg.refl _ _).putAt
  have hM : ∀ i, At s i → Mine w i := fun i hi => by rw [show i = s from hi]; exact h.mineS
  refine ⟨by rw [set_blk _ h.blk]; rfl, h.map.keep (hC.block m h.map.lt (fun e => h.notMap h.blk (show m = s from e).symm)), fun k g hk => ?_, h.no, h.inj, h.rows, h.zs, h.zm, h.zg, h.zr, h.key⟩
  obtain ⟨f, hop, hF⟩ := h.fl k g hk
  refine ⟨f, hop, hF.chg hC hM (fun e => ?_) (fun i hi e => ?_)⟩
  · exact types_ne hF.blk h.blk (by decide) (show g = s from e)
  · obtain ⟨cur, hh⟩ := own_blk hF.row hi
    exact types_ne hh h.blk (by decide) (show i = s from e)
set_option maxHeartbeats 3200000 in
set_option maxRecDepth 100000 in
theorem pick_any (Z : Nat → Prop) (w : World) (s N : Nat) (S : Sch) (h : SchIs Z w s N S) (va vr : Value) (live rtt : List Int) (hlive : Rd w va 1 live.length (ints live)) (hrtt : Rd w vr 1 rtt.length (ints rtt)) (hin : ∀ x ∈ live, InI x)
    (hl1 : live.length ≤ 9223372036854775807) (hl2 : rtt.length ≤ 9223372036854775807) :
    Calls Try.prog 44 #[.pointer (some ⟨s, 0, .none⟩), va, vr] w (PickTo Z w s N S live rtt) := by
  have hmf : ∀ (fn : Fn) (first cap : Array Value) (w : World), (Instr.makeFunc fn first cap).run Try.prog w = .ok (.func fn first cap) w := fun _ _ _ _ => rfl
  obtain ⟨m, F, V, h⟩ := h
  have H := Lib.hid h
  obtain ⟨-, A, cp, rfl, -, hA⟩ := hlive
  obtain ⟨-, B, cq, rfl, -, hB⟩ := hrtt
  have HA := Lib.hid hA
  have HB := Lib.hid hB
  have HIn := Lib.hid hin
  have hsl := lt_blk h.blk
  clear h hA hB hin
  go_enter Try.func44, Try.ntmps44
  have HS0 := Lib.hid (pkIn_start w s)
  go_wp2_with fail
  go_loopw [19] (fun i wr => ∃ (k : Nat) (st : Int × Int), k ≤ live.length ∧ i = .int .i64 k ∧ Hid (st = pkTo S live rtt k) ∧ Hid (PkIn w s st.1 st.2 wr)) (fun i _ => live.length - (intOf i).toNat)
  case atStart => exact ⟨0, (-1, 0), by omega, rfl, Lib.hid rfl, HS0⟩
  case round =>
    clear HS0
    obtain ⟨k, ⟨best, least⟩, hk, rfl, X, HP⟩ := hrel
    have HQ := Lib.hid (HP.out.st H.out)
    have e1 := HQ.out.best
    have e2 := HQ.out.self
    by_cases hk2 : k < live.length
    · obtain ⟨id, hid⟩ : ∃ id, live[k]? = some id := ⟨_, List.getElem?_eq_getElem hk2⟩
      obtain ⟨g, o, rfl, hg, hcell⟩ := HA.out (by omega)
      have hidI := HIn.out id (List.mem_of_getElem? hid)
      have c1 : wr.cell? ⟨g, o + k, .none⟩ = some (.int .i64 id) := (HP.out.chg.cell (p := ⟨g, o + k, .none⟩) hg (not_nowhere _)).trans ((hcell k (by simp [ints]; omega)).trans (by simp [ints, hid]))
      have HR := H.out.chg HP.out.chg
      have hlk := HR.map.look hidI
      have cs : wr.cell? ⟨s, 2, .none⟩ = some (.map (some m)) := by rw [cell_blk HR.blk]; rfl
      have XS := Lib.hid (show pkTo S live rtt (k + 1) = pkStep S rtt (best, least) k id by rw [pkTo, hid]; simp only; rw [← X.out])
      cases hf : F id with
      | none => as_aux_lemma =>
        rw [hf] at hlk
        simp only [lookV] at hlk
        have E := Lib.hid (show pkTo S live rtt (k + 1) = (best, least) by rw [XS.out, pkStep, HR.no id hf])
        clear hcell hid hidI HR hf
        go_wp2_with fail
        go_quiet (fail)
        go_wp2_with fail
        go_roundw
        case rel => exact ⟨k + 1, (best, least), by omega, by go_num, Lib.hid E.out.symm, Lib.hid (HP.out.idle ((Chg.refl _ _).drewN _))⟩
        case measure => simp [intOf]; omega
      | some gf => as_aux_lemma =>
        rw [hf] at hlk
        simp only [lookV] at hlk
        obtain ⟨f, hop, hF⟩ := HR.fl id gf hf
        obtain ⟨-, Af, cf, hv, -, -⟩ := Rd.of_owns hF.row
        have g2 : wr.cell? ⟨gf, 2, .none⟩ = some (.slice Af f.l.length cf) := by rw [cell_blk hF.blk, ← hv]; rfl
        have g0 : wr.cell? ⟨gf, 0, .none⟩ = some (.int .i64 f.win) := by rw [cell_blk hF.blk]; rfl
        have hfl := hF.len
        have hfw := hF.win0
        have XF := Lib.hid (show pkTo S live rtt (k + 1) = if f.win ≤ (f.l.length : Int) then (best, least) else if better S.pol S.last best least id ((rtt[k]?).getD 0) then (id, (rtt[k]?).getD 0) else (best, least) by rw [XS.out, pkStep, hop])
        clear hcell hid hidI HR hf hop hF hv
        by_cases hfull : f.win ≤ (f.l.length : Int)
        · have E := Lib.hid (XF.out.trans (if_pos hfull))
          have hd : decide (f.win ≤ (f.l.length : Int)) = true := decide_eq_true hfull
          go_wp2_with fail
          go_quiet (fail)
          go_wp2_with fail
          go_roundw
          case rel => exact ⟨k + 1, (best, least), by omega, by go_num, Lib.hid E.out.symm, Lib.hid (HP.out.idle ((Chg.refl _ _).drewN _))⟩
          case measure => simp [intOf]; omega
        · have XF2 := Lib.hid (XF.out.trans (if_neg hfull))
          have hd : decide (f.win ≤ (f.l.length : Int)) = false := decide_eq_false hfull
          have b1 : wr.frozen? ⟨w.heap.size + 1, 0, .none⟩ = false := frozen_blk HP.out.bs
          have b2 : wr.frozen? ⟨w.heap.size + 1 + 1, 0, .none⟩ = false := frozen_blk HP.out.ls
          have e3 := HQ.out.least
          clear hfull
          by_cases hr : k < rtt.length
          · obtain ⟨cost, hcost⟩ : ∃ cost, cost = (rtt[k]?).getD 0 := ⟨_, rfl⟩
            obtain ⟨g', o', rfl, hg', hcell'⟩ := HB.out (by omega)
            have cr : wr.cell? ⟨g', o' + k, .none⟩ = some (.int .i64 cost) := (HP.out.chg.cell (p := ⟨g', o' + k, .none⟩) hg' (not_nowhere _)).trans ((hcell' k (by simp [ints]; omega)).trans (by rw [hcost]; simp [ints, hr]))
            have hdr : decide (k < rtt.length) = true := decide_eq_true hr
            have XF3 := Lib.hid (show pkTo S live rtt (k + 1) = if better S.pol S.last best least id cost then (id, cost) else (best, least) by rw [XF2.out, hcost])
            clear hcell' hcost
            cases hbt : better S.pol S.last best least id cost with
            | true =>
              have E := Lib.hid (XF3.out.trans (if_pos hbt))
              have HBT := Lib.hid hbt
              clear hbt
              go_wp2_with fail
              go_quiet (fail)
              go_wp2_with fail
              refine (better_any (w.heap.size + 1) w.heap.size (w.heap.size + 1 + 1) s S.pol S.last best least id cost _ ((HP.out.idle ((Chg.refl _ _).drewN _)).st H.out)).mono ?_
              rw [HBT.out]
              rintro e w3 ⟨rfl, h3⟩
              have HP3 := Lib.hid ((HP.out.idle ((Chg.refl _ _).drewN _)).idle h3)
              have b1 : w3.frozen? ⟨w.heap.size + 1, 0, .none⟩ = false := frozen_blk HP3.out.bs
              have b2 : w3.frozen? ⟨w.heap.size + 1 + 1, 0, .none⟩ = false := frozen_blk HP3.out.ls
              have k1 : w3.cell? ⟨w.heap.size + 1, 0, .none⟩ = some (.int .i64 best) := by rw [cell_blk HP3.out.bs]; rfl
              have k2 : w3.cell? ⟨w.heap.size + 1 + 1, 0, .none⟩ = some (.int .i64 least) := by rw [cell_blk HP3.out.ls]; rfl
              clear h3
              go_wp2_with fail
              go_roundw
              case rel => exact ⟨k + 1, (id, cost), by omega, by go_num, Lib.hid E.out.symm, Lib.hid (HP3.out.put _ _)⟩
              case measure => simp [intOf]; omega
            | false =>
              have E := Lib.hid (XF3.out.trans (if_neg (by rw [hbt]; decide)))
              have HBT := Lib.hid hbt
              clear hbt
              go_wp2_with fail
              go_quiet (fail)
              go_wp2_with fail
              refine (better_any (w.heap.size + 1) w.heap.size (w.heap.size + 1 + 1) s S.pol S.last best least id cost _ ((HP.out.idle ((Chg.refl _ _).drewN _)).st H.out)).mono ?_
              rw [HBT.out]
              rintro e w3 ⟨rfl, h3⟩
              have HP3 := Lib.hid ((HP.out.idle ((Chg.refl _ _).drewN _)).idle h3)
              clear h3
              go_wp2_with fail
              go_roundw
              case rel => exact ⟨k + 1, (best, least), by omega, by go_num, Lib.hid E.out.symm, HP3⟩
              case measure => simp [intOf]; omega

          · have hdr : decide (k < rtt.length) = false := decide_eq_false hr
            have XF3 := Lib.hid (show pkTo S live rtt (k + 1) = if better S.pol S.last best least id 0 then (id, 0) else (best, least) by rw [XF2.out, List.getElem?_eq_none (by omega)]; rfl)
            clear hr
            cases hbt : better S.pol S.last best least id 0 with
            | true =>
              have E := Lib.hid (XF3.out.trans (if_pos hbt))
              have HBT := Lib.hid hbt
              clear hbt
              go_wp2_with fail
              go_quiet (fail)
              go_wp2_with fail
              refine (better_any (w.heap.size + 1) w.heap.size (w.heap.size + 1 + 1) s S.pol S.last best least id 0 _ ((HP.out.idle ((Chg.refl _ _).drewN _)).st H.out)).mono ?_
              rw [HBT.out]
              rintro e w3 ⟨rfl, h3⟩
              have HP3 := Lib.hid ((HP.out.idle ((Chg.refl _ _).drewN _)).idle h3)
              have b1 : w3.frozen? ⟨w.heap.size + 1, 0, .none⟩ = false := frozen_blk HP3.out.bs
              have b2 : w3.frozen? ⟨w.heap.size + 1 + 1, 0, .none⟩ = false := frozen_blk HP3.out.ls
              have k1 : w3.cell? ⟨w.heap.size + 1, 0, .none⟩ = some (.int .i64 best) := by rw [cell_blk HP3.out.bs]; rfl
              have k2 : w3.cell? ⟨w.heap.size + 1 + 1, 0, .none⟩ = some (.int .i64 least) := by rw [cell_blk HP3.out.ls]; rfl
              clear h3
              go_wp2_with fail
              go_roundw
              case rel => exact ⟨k + 1, (id, 0), by omega, by go_num, Lib.hid E.out.symm, Lib.hid (HP3.out.put _ _)⟩
              case measure => simp [intOf]; omega
            | false =>
              have E := Lib.hid (XF3.out.trans (if_neg (by rw [hbt]; decide)))
              have HBT := Lib.hid hbt
              clear hbt
              go_wp2_with fail
              go_quiet (fail)
              go_wp2_with fail
              refine (better_any (w.heap.size + 1) w.heap.size (w.heap.size + 1 + 1) s S.pol S.last best least id 0 _ ((HP.out.idle ((Chg.refl _ _).drewN _)).st H.out)).mono ?_
              rw [HBT.out]
              rintro e w3 ⟨rfl, h3⟩
              have HP3 := Lib.hid ((HP.out.idle ((Chg.refl _ _).drewN _)).idle h3)
              clear h3
              go_wp2_with fail
              go_roundw
              case rel => exact ⟨k + 1, (best, least), by omega, by go_num, Lib.hid E.out.symm, HP3⟩
              case measure => simp [intOf]; omega

    · obtain rfl : k = live.length := by omega
      have HR := Lib.hid (H.out.chg HP.out.chg)
      have XB := Lib.hid (show (pkTo S live rtt live.length).1 = best by rw [← X.out])
      by_cases hb : best < 0
      · have E1 := Lib.hid (show (if best < 0 then (0 : Int) else best) = 0 from if_pos hb)
        have E2 := Lib.hid (show decide (0 ≤ best) = false from decide_eq_false (by omega))
        have E3 := Lib.hid (show pickS S best = S from if_pos hb)
        go_wp2_with fail
        go_ret2
        refine ⟨?_, ?_, ChgZ.none HP.out.chg⟩
        · rw [XB.out, E1.out, E2.out]; rfl
        · rw [XB.out, E3.out]; exact ⟨_, _, _, HR.out⟩
      · have E1 := Lib.hid (show (if best < 0 then (0 : Int) else best) = best from if_neg hb)
        have E2 := Lib.hid (show decide (0 ≤ best) = true from decide_eq_true (by omega))
        have E3 := Lib.hid (show pickS S best = { S with last := best } from if_neg hb)
        have fs : wr.frozen? ⟨s, 1, .none⟩ = false := frozen_blk HR.out.blk
        have e5 := HQ.out.last
        have ns : s ≠ w.heap.size + 1 := by omega
        go_wp2_with fail
        go_ret2
        refine ⟨?_, ?_, ?_⟩
        · rw [XB.out, E1.out, E2.out]; rfl
        · rw [XB.out, E3.out]; exact ⟨_, _, _, HR.out.setLast best⟩
        · refine ChgZ.of (S := At s) ((HP.out.chg.mono (fun _ _ h => h.elim)).putAt) (fun i hi e => ?_)
          rw [show i = s from e]
          exact ⟨H.out.zs, H.out.mineS⟩
end Go.Proofs.Ytiijnhgafadokaa
