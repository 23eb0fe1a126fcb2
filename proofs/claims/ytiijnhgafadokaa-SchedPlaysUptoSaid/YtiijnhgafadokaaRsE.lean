/-
  The document's scheduler: Got.
-/
import Derived.Test.YtiijnhgafadokaaRsD
import Derived.Deep.DeepCutAuto
import Derived.Deep.CutBlock
namespace Go.Proofs.Ytiijnhgafadokaa
open Go.RowKit
set_option linter.unusedVariables false
variable {B : Nat}

theorem new3' (w : World) (x y z : Value) (t B : Nat) (hB : w.heap.size = B) : ∀ j u, [x, y, z][j]? = some u → (w.alloc (.cells #[x, y, z] t)).cell? ((⟨B, 0, .none⟩ : Addr).add j) = some u := by
  subst hB; exact new3 w x y z t
/-- The row of those that are not so. -/
structure One (w : World) (p : Rec → Bool) (l : List Rec) (vb : Value) (wr : World) : Prop where
  b : wr.ownsRow w.heap.size 120 3 vb (l.filter fun r => !p r).length (rcl (l.filter fun r => !p r))
  chg : Chg Nowhere w wr
theorem One.idle {w : World} {p : Rec → Bool} {l : List Rec} {vb : Value} {wr w' : World} (h : One w p l vb wr) (hc : Chg Nowhere wr w') : One w p l vb w' :=
  ⟨own_chg h.b hc (fun _ _ => not_nowhere _), h.chg.trans' hc⟩
theorem One.yes {w : World} {p : Rec → Bool} {l : List Rec} {k : Nat} {r : Rec} {vb : Value} {wr : World} (h : One w p (l.take k) vb wr) (hr : l[k]? = some r) (hp : p r = true) : One w p (l.take (k + 1)) vb wr := by
  refine ⟨?_, h.chg⟩
  rw [filter_snoc hr, hp]
  simp only [Bool.not_true, Bool.false_eq_true, if_false, List.append_nil]
  exact h.b
theorem One.nay {w : World} {p : Rec → Bool} {l : List Rec} {k : Nat} {r : Rec} {vb vb' : Value} {wr w4 : World} (h : One w p (l.take k) vb wr) (hr : l[k]? = some r) (hp : p r = false) (o : Obj)
    (hown : w4.ownsRow w.heap.size 120 3 vb' (((l.take k).filter fun r => !p r).length + 1) (rcl ((l.take k).filter fun r => !p r) ++ rcl [r])) (hg : (wr.alloc o).grownBy w4 vb.ownBlock) :
    One w p (l.take (k + 1)) vb' w4 := by
  have hlo : ∀ i, vb.ownBlock = some i → w.heap.size ≤ i := fun i hi => (h.b.lt i hi).1
  have hC : Chg (fun i => vb.ownBlock = some i) wr w4 := ((Chg.refl _ wr).alloc o).grown hg (fun i hi => .inr hi)
  refine ⟨?_, h.chg.trans hC fun i hi e => by have := hlo i e; omega⟩
  rw [filter_snoc hr, hp]
  simp only [Bool.not_false, if_true]
  rw [List.length_append, rcl_append]; exact hown
theorem cnt_snoc {p : Rec → Bool} {l : List Rec} {k : Nat} {r : Rec} (hr : l[k]? = some r) (hp : p r = true) : ((l.take (k + 1)).filter p).length = ((l.take k).filter p).length + 1 := by
  rw [filter_snoc hr, hp]; simp
theorem cnt_same {p : Rec → Bool} {l : List Rec} {k : Nat} {r : Rec} (hr : l[k]? = some r) (hp : p r = false) : ((l.take (k + 1)).filter p).length = ((l.take k).filter p).length := by
  rw [filter_snoc hr, hp]; simp
def cameRF (f : RF) (top : Int) (l : List (Int × Int)) : RF := { f with win := min 32 (f.win + ((f.l.filter (gotP top l)).length : Nat)) }
def leftR (f : RF) (top : Int) (l : List (Int × Int)) : List Rec := f.l.filter fun r => !gotP top l r
def gotRF (f : RF) (top : Int) (l : List (Int × Int)) (vl : Value) : RF := lostR (cameRF f top l) vl ((leftR f top l).filter (farBehind top)) ((leftR f top l).filter fun r => !farBehind top r)
def gotRL (R : RSch) (id top : Int) (l : List (Int × Int)) : List (Int × Int) := match fnd R.L id with
  | some i => match R.L[i]? with
    | some f => cars ((leftR f top l).filter (farBehind top))
    | .none => []
  | .none => []
def gotRT (R : RSch) (id top now : Int) : Int := match fnd R.L id with
  | some i => match R.L[i]? with
    | some f => f.l.foldl (stepG top now) (-1)
    | .none => -1
  | .none => -1
def gotRS (R : RSch) (id top : Int) (l : List (Int × Int)) (vl : Value) : RSch := match fnd R.L id with
  | some i => match R.L[i]? with
    | some f => { R with L := R.L.set i (gotRF f top l vl) }
    | .none => R
  | .none => R
theorem got_final {w : World} {y : Nat} {R : RSch} {i : Nat} {f : RF} {top : Int} {l : List (Int × Int)} {x : Int} {vl : Value} (h : RSIs B w y { pol := R.pol, last := R.last, L := R.L.set i (lostR { f with win := x } vl ((leftR f top l).filter (farBehind top)) ((leftR f top l).filter fun r => !farBehind top r)) })
    (hx : cameRF f top l = { f with win := x }) : RSIs B w y { pol := R.pol, last := R.last, L := R.L.set i (gotRF f top l vl) } := by
  unfold gotRF
  rw [hx]
  exact h
def GotRTo (B : Nat) (w : World) (y : Nat) (R : RSch) (id top : Int) (l : List (Int × Int)) (now : Int) (e : Ending) (w' : World) : Prop :=
  ∃ v vl, e = .returned (.tuple #[v, .int .i64 (gotRT R id top now)]) ∧ w'.ownsRow w.heap.size 49 2 v (gotRL R id top l).length (flat (gotRL R id top l)) ∧ RSIs B w' y (gotRS R id top l vl) ∧ ChgR B w w'
set_option maxHeartbeats 6400000 in
set_option maxRecDepth 100000 in
theorem gotR_any (w : World) (y : Nat) (R : RSch) (h : RSIs B w y R) (id top now : Int) (ht : InI top) (vq : Value) (l : List (Int × Int)) (hl : l.length ≤ 9223372036854775807) (hq : Rd w vq 2 l.length (flat l)) (hqs : ∀ g o n c, vq = .slice (some ⟨g, o, .none⟩) n c → 0 < l.length → ¬ MineR B w g) :
    Calls Try.prog 56 #[.pointer (some ⟨y, 0, .none⟩), .int .i64 id, .int .i64 top, vq, .int .i64 now] w (GotRTo B w y R id top l now) := by
  have hmm := @run_makeMap Try.prog
  obtain ⟨i0, hi, hz0, hz1, hz2⟩ := info_parts infoRecR
  have HI := Lib.hid h
  obtain ⟨vL, h⟩ := h
  have H := Lib.hid h
  obtain ⟨A, c, rfl⟩ := h.slice
  have c2 : w.cell? ⟨y, 2, .none⟩ = some (.slice A R.L.length c) := by rw [cell_blk h.blk]; rfl
  obtain ⟨Aq, cq, rfl⟩ : ∃ A c, vq = .slice A l.length c := by
    obtain ⟨-, Aq, cq, e, -, -⟩ := hq
    exact ⟨Aq, cq, e⟩
  have HQ := Lib.hid hq
  unfold InI at ht
  clear h hq
  cases hf : fnd R.L id with
  | none =>
    have E := Lib.hid (show gotRS R id top l (.slice .none 0 0) = R by unfold gotRS; rw [hf])
    have EL := Lib.hid (show gotRL R id top l = [] by unfold gotRL; rw [hf])
    have ET := Lib.hid (show gotRT R id top now = -1 by unfold gotRT; rw [hf])
    have EA := Lib.hid (show atI R.L id = -1 by unfold atI; rw [hf])
    clear hf
    go_enter Try.func56, Try.ntmps56
    go_wp2_with fail
    refine (at_any w y R HI.out id).mono ?_
    rw [EA.out]
    rintro e w' ⟨rfl, rfl⟩
    go_wp2_with fail
    go_ret2
    refine ⟨.slice .none 0 0, .slice .none 0 0, by rw [ET.out]; rfl, ?_, by rw [E.out]; exact HI.out, ChgR.refl _⟩
    rw [EL.out]
    exact World.ownsRow_nil _ _ _ _
  | some i =>
    obtain ⟨f, hfi, -⟩ := fnd_some hf
    have hil := (List.getElem?_eq_some_iff.1 hfi).1
    have E := Lib.hid (show ∀ vl, gotRS R id top l vl = { R with L := R.L.set i (gotRF f top l vl) } from fun vl => by unfold gotRS; rw [hf]; simp only; rw [hfi])
    have EL := Lib.hid (show gotRL R id top l = cars ((leftR f top l).filter (farBehind top)) by unfold gotRL; rw [hf]; simp only; rw [hfi])
    have ET := Lib.hid (show gotRT R id top now = f.l.foldl (stepG top now) (-1) by unfold gotRT; rw [hf]; simp only; rw [hfi])
    have EA := Lib.hid (show atI R.L id = (i : Int) by unfold atI; rw [hf])
    obtain ⟨g, o, c', e, hg, d0, d1, d2, d3, d4, -⟩ := H.out.cells hfi
    cases e
    have HOK := Lib.hid (H.out.fl f (List.mem_of_getElem? hfi))
    have HFI := Lib.hid hfi
    have HRW := Lib.hid (show Rows w f.lv f.l from ⟨HOK.out.row, HOK.out.recs, HOK.out.len⟩)
    obtain ⟨Af, cf, hlv⟩ : ∃ Af cf, f.lv = .slice Af f.l.length cf := by
      obtain ⟨-, Al, cl, hv, -, -⟩ := Rd.of_owns HOK.out.row
      exact ⟨Al, cl, hv⟩
    rw [hlv] at d4
    have HLV := Lib.hid hlv
    have D4 := Lib.hid d4
    have D1 := Lib.hid d1
    have hll := HOK.out.len
    have hwin := HOK.out.win0
    have m1 := mom21_in now
    obtain ⟨n1, hn1⟩ : ∃ x, mom21 now = x := ⟨_, rfl⟩
    rw [hn1] at m1
    have HNO := Lib.hid hn1
    clear hf hfi hlv d0 d1 d2 d3 hn1
    go_enter Try.func56, Try.ntmps56
    go_wp2_with fail
    refine (at_any w y R HI.out id).mono ?_
    rw [EA.out]
    rintro e w' ⟨rfl, rfl⟩
    go_wp2_with fail
    clear d4
    go_loopw [14, 15, 16, 17] (fun tk vb ca i wr => ∃ (k n : Nat) (t : Int), k ≤ f.l.length ∧ i = .int .i64 k ∧ ca = .int .i64 n ∧ n ≤ k ∧ tk = .int .i64 t ∧ Hid (t = (f.l.take k).foldl (stepG top now) (-1)) ∧ Hid (n = ((f.l.take k).filter (gotP top l)).length) ∧ Hid (One w (gotP top l) (f.l.take k) vb wr)) (fun _ _ _ i _ => 100000 - (intOf i).toNat)
    case atStart => exact ⟨0, 0, -1, by omega, rfl, rfl, by omega, rfl, Lib.hid rfl, Lib.hid rfl, Lib.hid ⟨World.ownsRow_nil _ _ _ _, Chg.refl _ _⟩⟩
    case round =>
      obtain ⟨k, n, t, hk, rfl, rfl, hnk, rfl, HTk, HN, HT⟩ := hrel
      have d4 : wr.cell? ⟨g, o + i * 5 + 4, .none⟩ = some (.slice Af f.l.length cf) := (HT.out.chg.cell (p := ⟨g, o + i * 5 + 4, .none⟩) hg (not_nowhere _)).trans D4.out
      by_cases hk2 : k < f.l.length
      · obtain ⟨r, hr⟩ : ∃ r, f.l[k]? = some r := ⟨_, List.getElem?_eq_getElem hk2⟩
        obtain ⟨gr, orr, cr, er, hgr, e0, e1, e2, A', n', c', hcv⟩ := (HRW.out.idle HT.out.chg).cells hr
        rw [HLV.out] at er
        cases er
        rw [hcv] at e2
        have hrt := (HRW.out.recs r (List.mem_of_getElem? hr)).t0
        have HR := Lib.hid hr
        have HR1 := Lib.hid (show rcl [r] = [.int .i64 r.c, .int .i64 r.t, .slice A' n' c'] by rw [rcl_one, hcv])
        have HST := Lib.hid (show (f.l.take (k + 1)).foldl (stepG top now) (-1) = if r.c = top then max 0 (n1 - r.t) else t by rw [foldl_snoc hr, ← HTk.out, ← HNO.out]; rfl)
        have HW2 := Lib.hid (HT.out.idle ((Chg.refl Nowhere wr).alloc (.cells #[.int .i64 r.c, .int .i64 r.t, .slice A' n' c'] 120)))
        have HP := Lib.hid (show gotP top l r = toldB r.c top l from Bool.or_comm _ _)
        have hfl2 : ((f.l.take k).filter fun r => !gotP top l r).length ≤ k := by have := List.length_filter_le (fun r => !gotP top l r) (f.l.take k); simp at this; omega
        clear hr hcv HTk
        have HTD := Lib.hid (fun (wz : World) (hz : Chg Nowhere w wz) => told_any r.c top _ l wz (HQ.out.same hz) hl)
        cases hd : toldB r.c top l with
        | false => as_aux_lemma =>
          rw [hd] at HP HTD
          have HNE := Lib.hid (show ¬ r.c = top from fun e => by unfold toldB at hd; rw [decide_eq_true e] at hd; simp at hd)
          have HS2 := Lib.hid (HST.out.trans (if_neg HNE.out)).symm
          clear hd
          go_wp2_with fail
          refine (HTD.out _ HW2.out.chg).mono ?_
          rintro e w6 ⟨rfl, rfl⟩
          go_wp2_with (at_builtin; refine wpList_append_own _ rfl _ _ 115 rfl w.heap.size 120 i0 (.agg #[.int .i64 0, .int .i64 0, .slice .none 0 0]) 3 40 Try.underlying115 hi hz0 hz1 hz2 rfl (by decide) _ _ _ rfl (HW2.out.b.alloc _) ⟨wr.heap.size + 1, 0, .none⟩ 1 1 [.int .i64 r.c, .int .i64 r.t, .slice A' n' c'] rfl rfl (new3' (wr.alloc (.cells #[.int .i64 r.c, .int .i64 r.t, .slice A' n' c'] 120)) _ _ _ _ _ (by simp)) (fun x hx => by simp at hx; rcases hx with rfl | rfl | rfl <;> rfl) (by unfold maxLen; omega) (by omega) (by have := HW2.out.chg.size; simp at this ⊢; omega) ?_; intro v' w4 hown' hgrow3 hnil3; rw [← HR1.out] at hown'; have HNW := Lib.hid (HW2.out.nay HR.out HP.out _ hown' hgrow3); clear hown' hgrow3 hnil3)
          go_roundw
          case rel => exact ⟨k + 1, n, t, by omega, by go_num, rfl, by omega, rfl, HS2, Lib.hid (by rw [cnt_same HR.out HP.out]; exact HN.out), HNW⟩
          case measure => simp [intOf]; omega
        | true =>
          rw [hd] at HP HTD
          clear hd
          by_cases hct : r.c = top
          · have hb : (r.c == top) = true := by simpa using hct
            obtain ⟨x, hx⟩ : ∃ x, n1 - r.t = x := ⟨_, rfl⟩
            have hw : IntKind.i64.wrap (n1 - r.t) = x := by rw [← hx]; exact wrapI ⟨by omega, by omega⟩
            have HS2 := Lib.hid (show (f.l.take (k + 1)).foldl (stepG top now) (-1) = max 0 x by rw [HST.out, if_pos hct, hx])
            have e0' := e0
            rw [hct] at e0'
            have hba : (top == top) = true := by simp
            have HNQ := Lib.hid (show ∀ (wz : World) q, Calls Try.prog 85 #[.int .i64 now] (wz.drewN q) fun e w'' => e = .returned (.int .i64 n1) ∧ ∃ m, w'' = wz.drewN m from fun wz q => by rw [← HNO.out]; exact momR_q now wz q)
            have HCT := Lib.hid hct
            clear hct hx e0'
            rcases (by omega : x < 0 ∨ x = 0 ∨ 0 < x) with hxx | rfl | hxx
            · as_aux_lemma =>
              rw [show max 0 x = 0 by omega] at HS2
              go_wp2_with fail
              refine (HTD.out _ HW2.out.chg).mono ?_
              rintro e w6 ⟨rfl, rfl⟩
              go_wp2_with fail
              go_quiet ((go_at_call 85; exact HNQ.out _ _))
              go_wp2_with fail
              go_roundw
              case rel => exact ⟨k + 1, n + 1, _, by omega, by go_num, by go_num, by omega, rfl, Lib.hid HS2.out.symm, Lib.hid (by rw [cnt_snoc HR.out HP.out, HN.out]), Lib.hid ((HW2.out.idle ((Chg.refl _ _).drewN _)).yes HR.out HP.out)⟩
              case measure => simp [intOf]; omega
            · as_aux_lemma =>
              rw [show max (0 : Int) 0 = 0 by omega] at HS2
              go_wp2_with fail
              refine (HTD.out _ HW2.out.chg).mono ?_
              rintro e w6 ⟨rfl, rfl⟩
              go_wp2_with fail
              go_quiet ((go_at_call 85; exact HNQ.out _ _))
              go_wp2_with fail
              go_roundw
              case rel => exact ⟨k + 1, n + 1, _, by omega, by go_num, by go_num, by omega, rfl, Lib.hid HS2.out.symm, Lib.hid (by rw [cnt_snoc HR.out HP.out, HN.out]), Lib.hid ((HW2.out.idle ((Chg.refl _ _).drewN _)).yes HR.out HP.out)⟩
              case measure => simp [intOf]; omega
            · as_aux_lemma =>
              rw [show max 0 x = x by omega] at HS2
              go_wp2_with fail
              refine (HTD.out _ HW2.out.chg).mono ?_
              rintro e w6 ⟨rfl, rfl⟩
              go_wp2_with fail
              go_quiet ((go_at_call 85; exact HNQ.out _ _))
              go_wp2_with fail
              go_roundw
              case rel => exact ⟨k + 1, n + 1, _, by omega, by go_num, by go_num, by omega, rfl, Lib.hid HS2.out.symm, Lib.hid (by rw [cnt_snoc HR.out HP.out, HN.out]), Lib.hid ((HW2.out.idle ((Chg.refl _ _).drewN _)).yes HR.out HP.out)⟩
              case measure => simp [intOf]; omega
          · as_aux_lemma =>
            have hb : (r.c == top) = false := by simpa using hct
            have HS2 := Lib.hid (HST.out.trans (if_neg hct)).symm
            clear hct
            go_wp2_with fail
            refine (HTD.out _ HW2.out.chg).mono ?_
            rintro e w6 ⟨rfl, rfl⟩
            go_wp2_with fail
            go_roundw
            case rel => exact ⟨k + 1, n + 1, t, by omega, by go_num, by go_num, by omega, rfl, HS2, Lib.hid (by rw [cnt_snoc HR.out HP.out, HN.out]), Lib.hid (HW2.out.yes HR.out HP.out)⟩
            case measure => simp [intOf]; omega
      · obtain rfl : k = f.l.length := by omega
        rw [List.take_length] at HTk HN HT
        have d1 : wr.cell? ⟨g, o + i * 5 + 1, .none⟩ = some (.int .i64 f.win) := (HT.out.chg.cell (p := ⟨g, o + i * 5 + 1, .none⟩) hg (not_nowhere _)).trans D1.out
        obtain ⟨yy, hyy⟩ : ∃ x, f.win + (n : Int) = x := ⟨_, rfl⟩
        have hw : IntKind.i64.wrap (f.win + (n : Int)) = yy := by rw [← hyy]; exact wrapI ⟨by omega, by omega⟩
        obtain ⟨x, hx⟩ : ∃ x, min 32 yy = x := ⟨_, rfl⟩
        have HX := Lib.hid (show cameRF f top l = { f with win := x } by unfold cameRF; rw [← HN.out, hyy, hx])
        obtain ⟨g9, o9, c9, e9, hgl9, -, -, hfz, hput⟩ := (H.out.idle HT.out.chg).cellsW HFI.out
        simp only [Value.slice.injEq, Option.some.injEq, Addr.mk.injEq] at e9
        obtain ⟨⟨rfl, rfl, -⟩, -, rfl⟩ := e9
        obtain ⟨q1, q2⟩ := hput 1 (.int .i64 x) { f with win := x } (by omega) rfl (HOK.out.keep HT.out.chg (fun _ _ => not_nowhere _) (fun _ _ _ => not_nowhere _) |> fun z => ⟨z.row, z.recs, z.len, (by show 2 ≤ x ∧ x ≤ 32; omega), z.top0⟩) (show Apart R i f.lv from H.out.apartOf HFI.out) (show ∀ q, f.lv.ownBlock = some q → B ≤ q from H.out.zl f (List.mem_of_getElem? HFI.out))
        have fz := hfz 1
        have Q1 := Lib.hid q1
        have Q2 := Lib.hid q2
        have hyb : 2 ≤ yy := by omega
        have HXX := Lib.hid hx
        clear hput q1 q2 hfz hx hyy
        obtain ⟨Ab, cb, rfl⟩ : ∃ A c, _ = Value.slice A (leftR f top l).length c := by
          obtain ⟨-, A, c, h, -, -⟩ := Rd.of_owns HT.out.b
          exact ⟨A, c, h⟩
        have hfr : wr.frozen? ⟨g, o + i * 5 + 1, .none⟩ = false := fz
        go_upto_region 17 with (fail)
        go_cut [] (fun wx => wx = wr.setCell ⟨g, o + i * 5 + 1, .none⟩ (.int .i64 x))
        case first => as_aux_lemma =>
          have hx := HXX.out
          rcases (by omega : yy < 32 ∨ yy = 32 ∨ 32 < yy) with hh | rfl | hh
          · obtain rfl : x = yy := by omega
            clear hx
            go_wp2_with fail
            go_meet
            rfl
          · obtain rfl : x = 32 := by omega
            clear hx
            go_wp2_with fail
            go_meet
            rfl
          · obtain rfl : x = 32 := by omega
            clear hx
            go_wp2_with fail
            go_meet
            rfl
        case rest => as_aux_lemma =>
          rw [← hcut] at Q1 Q2
          have HCG := Lib.hid (show ∃ cur, wr.heap[g]? = some (.cells cur 117 (0,0)) by
            obtain ⟨g2, o2, c2, e, -, -, -, -, -, -, cur, hh⟩ := (H.out.idle HT.out.chg).cells HFI.out
            simp only [Value.slice.injEq, Option.some.injEq, Addr.mk.injEq] at e
            obtain ⟨⟨rfl, rfl, -⟩, -, rfl⟩ := e
            exact ⟨cur, hh⟩)
          have HLF := Lib.hid ((show Rows wr (.slice Ab (leftR f top l).length cb) (leftR f top l) from rows_filter HOK.out HT.out.chg HT.out.b).keep Q2.out fun i cur t hh ht e => by
            obtain ⟨cur2, hh2⟩ := HCG.out
            rcases ht with rfl | rfl
            · exact types_nott hh hh2 (by decide) (show i = g from e)
            · exact types_nott hh hh2 (by decide) (show i = g from e))
          have HCW := Lib.hid (show ChgR B w _ from (ChgR.none HT.out.chg).trans (ChgR.of Q2.out fun j _ e => by
            obtain ⟨cur2, hh2⟩ := HCG.out
            exact ⟨by rw [show j = g from e]; exact H.out.zL g rfl, cur2, _, by rw [show j = g from e]; exact hh2, .inr (.inl rfl)⟩))
          have hLl := HLF.out.len
          have HSZ := Lib.hid (show w.heap.size ≤ _ from HCW.out.size)
          clear hcut d4 d1 fz hfr HT HCG
          go_wp2_with fail
          go_loopw [19, 20, 21] (fun va vb j wz => ∃ (q : Nat), q ≤ (leftR f top l).length ∧ j = .int .i64 q ∧ Hid (Two wc (farBehind top) ((leftR f top l).take q) va vb wz)) (fun _ _ j _ => 100000 - (intOf j).toNat)
          case atStart => exact ⟨0, by omega, rfl, Lib.hid (two_start _ _)⟩
          case round =>
            obtain ⟨k, hk, rfl, HT⟩ := hrel
            by_cases hk2 : k < (leftR f top l).length
            · obtain ⟨r, hr⟩ : ∃ r, (leftR f top l)[k]? = some r := ⟨_, List.getElem?_eq_getElem hk2⟩
              obtain ⟨gr, orr, cr, er, hgr, e0, e1, e2, A', n', c', hcv⟩ := (HLF.out.idle HT.out.chg).cells hr
              simp only [Value.slice.injEq] at er
              obtain ⟨rfl, -, -⟩ := er
              rw [hcv] at e2
              have hrc := (HLF.out.recs r (List.mem_of_getElem? hr)).c0
              have HR := Lib.hid hr
              have HR1 := Lib.hid (show rcl [r] = [.int .i64 r.c, .int .i64 r.t, .slice A' n' c'] by rw [rcl_one, hcv])
              have HP := Lib.hid (show farBehind top r = (decide (3 ≤ top) && decide (r.c ≤ top - 3)) from rfl)
              have hfl1 : (((leftR f top l).take k).filter (farBehind top)).length ≤ k := by have := List.length_filter_le (farBehind top) ((leftR f top l).take k); simp at this; omega
              have hfl2 : (((leftR f top l).take k).filter fun r => !farBehind top r).length ≤ k := by have := List.length_filter_le (fun r => !farBehind top r) ((leftR f top l).take k); simp at this; omega
              clear hr hcv
              by_cases h1 : r.c < top
              · have hd1 : decide (r.c < top) = true := decide_eq_true h1
                obtain ⟨dd, hdd⟩ : ∃ x, top - r.c = x := ⟨_, rfl⟩
                have hw : IntKind.i64.wrap (top - r.c) = dd := by rw [← hdd]; exact wrapI ⟨by omega, by omega⟩
                by_cases h3 : 3 ≤ dd
                · have HP2 := Lib.hid (show farBehind top r = true by rw [HP.out, decide_eq_true (by omega), decide_eq_true (by omega)]; rfl)
                  have hd3 : decide (3 ≤ dd) = true := decide_eq_true h3
                  clear hdd h1 h3
                  as_aux_lemma =>
                  go_wp2_with (at_builtin; refine wpList_append_own_at _ rfl _ _ 115 rfl wc.heap.size 120 i0 (.agg #[.int .i64 0, .int .i64 0, .slice .none 0 0]) 3 40 Try.underlying115 hi hz0 hz1 hz2 rfl (by decide) _ _ _ rfl (HT.out.a.alloc _) ⟨wr.heap.size, 0, .none⟩ 1 1 [.int .i64 r.c, .int .i64 r.t, .slice A' n' c'] rfl rfl (new3 wr _ _ _ _) (fun x hx => by simp at hx; rcases hx with rfl | rfl | rfl <;> rfl) (by unfold maxLen; omega) (by omega) (by have := HT.out.chg.size; simp at this ⊢; omega) ?_; intro v' w4 hown' hgrow3 hnil3 hob; rw [← HR1.out] at hown'; have HN := Lib.hid (HT.out.yes HR.out HP2.out _ hown' hgrow3 hob); clear hown' hgrow3 hnil3 hob)
                  go_roundw
                  case rel => exact ⟨k + 1, by omega, by go_num, HN⟩
                  case measure => simp [intOf]; omega
                · have HP2 := Lib.hid (show farBehind top r = false by rw [HP.out, decide_eq_false (show ¬ r.c ≤ top - 3 by omega), Bool.and_false])
                  have hd3 : decide (3 ≤ dd) = false := decide_eq_false h3
                  clear hdd h1 h3
                  as_aux_lemma =>
                  go_wp2_with (at_builtin; refine wpList_append_own_at _ rfl _ _ 115 rfl wc.heap.size 120 i0 (.agg #[.int .i64 0, .int .i64 0, .slice .none 0 0]) 3 40 Try.underlying115 hi hz0 hz1 hz2 rfl (by decide) _ _ _ rfl (HT.out.b.alloc _) ⟨wr.heap.size, 0, .none⟩ 1 1 [.int .i64 r.c, .int .i64 r.t, .slice A' n' c'] rfl rfl (new3 wr _ _ _ _) (fun x hx => by simp at hx; rcases hx with rfl | rfl | rfl <;> rfl) (by unfold maxLen; omega) (by omega) (by have := HT.out.chg.size; simp at this ⊢; omega) ?_; intro v' w4 hown' hgrow3 hnil3 hob; rw [← HR1.out] at hown'; have HN := Lib.hid (HT.out.nay HR.out HP2.out _ hown' hgrow3 hob); clear hown' hgrow3 hnil3 hob)
                  go_roundw
                  case rel => exact ⟨k + 1, by omega, by go_num, HN⟩
                  case measure => simp [intOf]; omega
              · have HP2 := Lib.hid (show farBehind top r = false by rw [HP.out, decide_eq_false (show ¬ r.c ≤ top - 3 by omega), Bool.and_false])
                have hd1 : decide (r.c < top) = false := decide_eq_false h1
                clear h1
                as_aux_lemma =>
                go_wp2_with (at_builtin; refine wpList_append_own_at _ rfl _ _ 115 rfl wc.heap.size 120 i0 (.agg #[.int .i64 0, .int .i64 0, .slice .none 0 0]) 3 40 Try.underlying115 hi hz0 hz1 hz2 rfl (by decide) _ _ _ rfl (HT.out.b.alloc _) ⟨wr.heap.size, 0, .none⟩ 1 1 [.int .i64 r.c, .int .i64 r.t, .slice A' n' c'] rfl rfl (new3 wr _ _ _ _) (fun x hx => by simp at hx; rcases hx with rfl | rfl | rfl <;> rfl) (by unfold maxLen; omega) (by omega) (by have := HT.out.chg.size; simp at this ⊢; omega) ?_; intro v' w4 hown' hgrow3 hnil3 hob; rw [← HR1.out] at hown'; have HN := Lib.hid (HT.out.nay HR.out HP2.out _ hown' hgrow3 hob); clear hown' hgrow3 hnil3 hob)
                go_roundw
                case rel => exact ⟨k + 1, by omega, by go_num, HN⟩
                case measure => simp [intOf]; omega
            · obtain rfl : k = (leftR f top l).length := by omega
              rw [List.take_length] at HT
              have HA := Lib.hid (Q1.out.idle HT.out.chg)
              have hlen : (R.L.set i { f with win := x }).length = R.L.length := List.length_set
              have HRows : ∀ {q : Rec → Bool} {v : Value} {base : Nat}, wr.ownsRow base 120 3 v ((leftR f top l).filter q).length (rcl ((leftR f top l).filter q)) → Rows wr v ((leftR f top l).filter q) := fun {q v base} ho =>
                ⟨own_base ho (Nat.zero_le _), fun r hr => recOk_keep (HLF.out.recs r (List.mem_filter.1 hr).1) HT.out.chg (fun _ _ _ => not_nowhere _), by have := List.length_filter_le q (leftR f top l); omega⟩
              have HRA := Lib.hid (HRows HT.out.a)
              have HRB := Lib.hid (HRows HT.out.b)
              clear HRows
              go_wp2_with fail
              refine (loseR_any wr y { R with L := R.L.set i { f with win := x } } g o c (by show RSAt B wr y (.slice _ (R.L.set i { f with win := x }).length c) _; rw [hlen]; exact HA.out) i { f with win := x } (by show (R.L.set i _)[i]? = _; rw [List.getElem?_set_self hil]) _ _ _ _ HRA.out HRB.out (Q1.out.apart_new fun j hj => (HT.out.b.lt j hj).1) (fun j hj => Nat.le_trans Q1.out.base (HT.out.b.lt j hj).1)).mono ?_
              rintro e w5 ⟨v, rfl, r1, r2, r3⟩
              have R1 := Lib.hid r1
              have R2 := Lib.hid r2
              have R3 := Lib.hid r3
              clear r1 r2 r3 hlen
              go_wp2_with fail
              go_ret2
              have P := R2.out
              simp only [List.set_set] at P
              have P' := got_final P HX.out
              rw [← E.out] at P'
              exact ⟨v, _, by rw [ET.out, ← HTk.out]; rfl, by rw [EL.out]; exact own_base R1.out (Nat.le_trans HSZ.out HT.out.chg.size), P', (HCW.out.trans (ChgR.none HT.out.chg)).trans R3.out⟩
end Go.Proofs.Ytiijnhgafadokaa
