/-
  Layer 17, the document's Add (the walk).
-/
import Derived.Test.YtlkbfacdaelbfaaRbE
namespace Go.Proofs.Ytlkbfacdaelbfaa
open Go.RowKit
set_option linter.unusedVariables false
set_option linter.unusedSimpArgs false

def RAdd (w : World) (o : Nat) (v : Value) (L : List Ra.Row) (f t : Int) : Ending → World → Prop := fun e w' => ∃ L', e = .returned (.int .i64 (Ra.total L' - Ra.total L)) ∧ Ra.Good L' ∧ (∀ n, Ra.mem L' n ↔ Ra.mem L n ∨ (max f 0 ≤ n ∧ n < min t Ra.M)) ∧ L'.length ≤ L.length + 2 ∧ RMoved w o v L' w'
theorem step_append_run {P : Program} {ops : Array Oper} {o : Oper} {a : Act} {w : World} {K : Act → World → Prop} {Q : Exit → Act → World → Prop} {E : Prop}
    (hg : o.guard = none) (d x : Operand) (dT sT : TypeId) (hop : o.op = Op.call { callee := Callee.builtin Builtin.append, args := #[d, x], argTypes := #[dT, sT] })
    (v u : Value) (hd : a.eval d = v) (hx : a.eval x = u) {v' : Value} {w' : World} (hr : (Builtin.append_ #[dT, sT] o.type #[v, u]).run P w = .ok v' w') (hK : K (a.put o.dst v') w') :
    if Region.wanted o (yielded ops a.tmps) = true then Oper.wp P o a w K Q else E := by
  have hw : Region.wanted o (yielded ops a.tmps) = true := by simp [Region.wanted, hg]
  rw [if_pos hw]
  unfold Oper.wp
  simp [execOp, hop, resolve, invoke, builtin, hd, hx, hr, Result.andThen]
  exact hK
set_option maxHeartbeats 8000000 in
set_option maxRecDepth 100000 in
theorem radd_any (o : Nat) (v : Value) (L : List Ra.Row) (f t : Int) (w : World) (h : RbAt w o v L) (hG : Ra.Good L) (hn : L.length ≤ 1000000) :
    Calls Try.prog 22 #[.pointer (some ⟨o, 0, none⟩), .int .i64 f, .int .i64 t] w (RAdd w o v L f t) := by
  obtain ⟨f0, hf0⟩ : ∃ x, x = max f 0 := ⟨_, rfl⟩
  obtain ⟨t0, ht0⟩ : ∃ x, x = min t Ra.M := ⟨_, rfl⟩
  have HI := Lib.hid (show ∀ w4, Calls Try.prog 80 #[.int .i64 f, .int .i64 t] w4 (Gives w4 (.tuple #[.int .i64 f0, .int .i64 t0])) from fun w4 => by rw [hf0, ht0]; exact rinside_any f t w4)
  unfold RAdd
  rw [← hf0, ← ht0]
  have F0 := Lib.hid (show 0 ≤ f0 ∧ t0 ≤ Ra.M by omega)
  clear hf0 ht0
  by_cases hft : f0 < t0
  · have H := Lib.hid h
    have HG := Lib.hid hG
    have HNB := Lib.hid hn
    have HWO := Lib.hid (fun w4 (h4 : RbAt w4 o v L) => without_any v L f0 t0 w4 (Rd.of_owns h4.row) (by omega) hG hft)
    have HTO := Lib.hid (fun w4 (h4 : RbAt w4 o v L) => rtotal_any o v L w4 h4 hG (by omega))
    obtain ⟨D, hD⟩ : ∃ D, D = Ra.left f0 t0 L := ⟨_, rfl⟩
    rw [← hD] at HWO
    have HD := Lib.hid hD
    have HGD := Lib.hid (show Ra.Good D by rw [hD]; exact Ra.left_good hft hG)
    have HLD := Lib.hid (show D.length ≤ L.length + 1 by rw [hD]; exact Ra.left_len1 hft hG)
    have HMD := Lib.hid (show ∀ n, Ra.mem D n ↔ Ra.mem L n ∧ ¬ (f0 ≤ n ∧ n < t0) from fun n => by rw [hD]; exact Ra.left_has hft L n)
    obtain ⟨T, hT⟩ : ∃ T, T = Ra.total L := ⟨_, rfl⟩
    rw [← hT] at HTO
    have HT := Lib.hid hT
    have tb : 0 ≤ T ∧ T ≤ 4611686018427387904 := by rw [hT]; exact Ra.total_in hG
    have hd : decide (t0 ≤ f0) = false := decide_eq_false (by omega)
    have hd2 : ¬ (t0 ≤ f0) := by omega
    clear h hG hD hT hn
    go_enter Try.func22, Try.ntmps22
    go_upto_region 2 with (go_at_call 80; refine (HI.out _).mono ?_; rintro e w4 ⟨rfl, hC4⟩; have HC4 := Lib.hid hC4; clear hC4)
    go_upto_region 5 with (go_at_call 28; refine (HTO.out _ (H.out.idle HC4.out)).mono ?_; rintro e w5 ⟨rfl, hC5⟩; have HC5 := Lib.hid (HC4.out.then_none hC5); clear hC5)
    have y5 := (H.out.idle HC5.out).cell0
    obtain ⟨n, hnn⟩ : ∃ n, n = D.length := ⟨_, rfl⟩
    have HN := Lib.hid hnn
    have hnb : n ≤ 1000001 := by have := HNB.out; have := HLD.out; omega
    clear hnn
    go_upto_region 6 with (go_at_call 81; refine (HWO.out _ (H.out.idle HC5.out)).mono ?_; rintro e w6 ⟨l, rfl, hCI⟩; obtain ⟨A9, c9, rfl⟩ := ownR_shape (own_base0 hCI.own); rw [← HN.out] at hCI; rw [← HN.out]; have HL := Lib.hid (Lay1.start hCI); clear hCI)
    clear y5 hd hd2
    have HO5 := Lib.hid (H.out.idle HC5.out)
    go_wp2_with fail
    go_loopw [9, 10, 11] (fun ot dn i wr => ∃ (k : Nat) (b : Bool) (K : List Ra.Row), k ≤ n ∧ i = .int .i64 (k : Int) ∧ dn = .bool b ∧ Hid (Ins D f0 t0 b k K) ∧ Hid (Lay1 w5 (.slice A9 n c9) D ot K wr)) (fun _ _ i _ => n - (intOf i).toNat)
    case atStart => exact ⟨0, false, [], by omega, rfl, rfl, Lib.hid (Ins.start D f0 t0), HL⟩
    case round =>
      obtain ⟨k, bb, K, hk, rfl, rfl, HIN, HLY⟩ := hrel
      by_cases hk2 : k < n
      · have hki : (k : Int) < (n : Int) := by omega
        have hkd : decide ((k : Int) < (n : Int)) = true := decide_eq_true hki
        obtain ⟨g, c', hv, cx, cy⟩ := HLY.out.cells (k := k) (by rw [← HN.out]; exact hk2)
        simp only [Value.slice.injEq] at hv
        obtain ⟨rfl, -, rfl⟩ := hv
        obtain ⟨a, ha⟩ : ∃ x, x = (D.getD k (0, 0)).1 := ⟨_, rfl⟩
        obtain ⟨b, hb⟩ : ∃ x, x = (D.getD k (0, 0)).2 := ⟨_, rfl⟩
        rw [← ha] at cx
        rw [← hb] at cy
        have HAB := Lib.hid (show D.getD k (0, 0) = (a, b) by rw [ha, hb])
        clear ha hb
        cases bb with
        | true =>
          go_wp2_with (at_builtin; obtain ⟨l', w', hr, hI⟩ := (HLY.out.idle ((Chg.refl Nowhere _).alloc (.cells #[.int .i64 a, .int .i64 b] 33))).app (by have := HIN.out.len; rw [← HN.out] at this; omega) a b 30 _ (alloc_new _ _); have HI2 := Lib.hid hI; clear hI; refine Lib.wpList_append_run _ rfl _ _ 30 30 rfl _ _ rfl rfl l' w' hr ?_; clear hr)
          go_roundw
          case rel => exact ⟨k + 1, true, _, by omega, by go_num, rfl, Lib.hid (by have := HIN.out.more (by rw [← HN.out]; exact hk2); rw [HAB.out] at this; exact this), HI2⟩
          case measure => simp [intOf]; omega
        | false =>
          by_cases hfa : f0 < a
          · have d1 : decide (f0 < a) = true := decide_eq_true hfa
            go_upto_region 13 with (at_builtin; obtain ⟨l', w', hr, hI⟩ := (HLY.out.idle ((Chg.refl Nowhere _).alloc (.cells #[.int .i64 f0, .int .i64 t0] 33))).app (by have := HIN.out.len; rw [← HN.out] at this; omega) f0 t0 30 _ (alloc_new _ _); have HI1 := Lib.hid hI; clear hI; refine Lib.wpList_append_run _ rfl _ _ 30 30 rfl _ _ rfl rfl l' w' hr ?_; clear hr)
            obtain ⟨g', c'', hv, cx', cy'⟩ := HI1.out.cells (k := k) (by rw [← HN.out]; exact hk2)
            simp only [Value.slice.injEq, Option.some.injEq, Addr.mk.injEq] at hv
            rw [HAB.out, ← hv.1.1] at cx' cy'
            clear hv cx cy
            go_wp2_with (at_builtin; obtain ⟨l2, w2, hr, hI⟩ := (HI1.out.idle ((Chg.refl Nowhere _).alloc (.cells #[.int .i64 a, .int .i64 b] 33))).app (by rw [List.length_append, List.length_singleton]; have := HIN.out.len; rw [← HN.out] at this; omega) a b 30 _ (alloc_new _ _); have HI2 := Lib.hid hI; clear hI; refine Lib.wpList_append_run _ rfl _ _ 30 30 rfl _ _ rfl rfl l2 w2 hr ?_; clear hr)
            go_roundw
            case rel => exact ⟨k + 1, true, _, by omega, by go_num, rfl, Lib.hid (by have := HIN.out.hit (by rw [← HN.out]; exact hk2) (by rw [HAB.out]; exact hfa); rw [HAB.out] at this; exact this), HI2⟩
            case measure => simp [intOf]; omega
          · have d1 : decide (f0 < a) = false := decide_eq_false hfa
            go_wp2_with (at_builtin; obtain ⟨l', w', hr, hI⟩ := (HLY.out.idle ((Chg.refl Nowhere _).alloc (.cells #[.int .i64 a, .int .i64 b] 33))).app (by have := HIN.out.len; rw [← HN.out] at this; omega) a b 30 _ (alloc_new _ _); have HI2 := Lib.hid hI; clear hI; refine Lib.wpList_append_run _ rfl _ _ 30 30 rfl _ _ rfl rfl l' w' hr ?_; clear hr)
            go_roundw
            case rel => exact ⟨k + 1, false, _, by omega, by go_num, rfl, Lib.hid (by have := HIN.out.low (by rw [← HN.out]; exact hk2) (by rw [HAB.out]; omega); rw [HAB.out] at this; exact this), HI2⟩
            case measure => simp [intOf]; omega
      · obtain rfl : k = n := by omega
        have hki : ¬ ((k : Int) < (k : Int)) := by omega
        have hkd : decide ((k : Int) < (k : Int)) = false := decide_eq_false hki
        have WKT := Lib.hid (fun (p : Nat) (hp : Ra.Laid D f0 t0 p) => show Ra.Weak (D.take p ++ [(f0, t0)] ++ D.drop p) ∧ (∀ n, Ra.mem (D.take p ++ [(f0, t0)] ++ D.drop p) n ↔ Ra.mem L n ∨ (f0 ≤ n ∧ n < t0)) ∧ (D.take p ++ [(f0, t0)] ++ D.drop p).length ≤ L.length + 2 from
          ⟨hp.weak HGD.out F0.out.1 hft F0.out.2 (fun n h1 h2 h3 => ((HMD.out n).1 h3).2 ⟨h1, h2⟩), fun n => by
            rw [Ra.laid_mem, HMD.out]
            by_cases h : f0 ≤ n ∧ n < t0
            · simp [h]
            · simp [h], by simp only [List.length_append, List.length_take, List.length_drop, List.length_singleton]; have := hp.le; have := HLD.out; omega⟩)
        cases bb with
        | true =>
          obtain ⟨p, hp, hK⟩ := (show ∃ p, Ra.Laid D f0 t0 p ∧ K = D.take p ++ [(f0, t0)] ++ D.drop p from Ins.doneT HGD.out (by rw [← HN.out]; exact HIN.out))
          obtain ⟨q1, q2, q3⟩ := WKT.out p hp
          rw [← hK] at q1 q2 q3
          have WK := Lib.hid q1
          have MO := Lib.hid q2
          have OL := Lib.hid q3
          have HO := Lib.hid HLY.out.out
          clear hp hK q1 q2 q3 WKT
          go_upto_region 17 with fail
          generalize wr = wx at HO ⊢
          obtain ⟨Ao, co, hot⟩ := ownR_shape (own_base0 HO.out.own)
          obtain ⟨r, hr⟩ : ∃ r, r = K.length := ⟨_, rfl⟩
          rw [← hr] at hot
          subst hot
          have HR := Lib.hid hr
          have hrb : r ≤ 1000002 := by have := OL.out; have := HNB.out; omega
          clear hr
          have y0 := (HO5.out.idle HO.out.chg).cell0
          have y1 : wx.frozen? ⟨o, 0, none⟩ = false := frozen_blk (HO5.out.idle HO.out.chg).blk
          obtain ⟨Av, cv, hv⟩ := (HO5.out.idle HO.out.chg).shape
          rw [hv] at y0
          go_upto_region 18 with fail
          have HS := Lib.hid (Lay2.start HO5.out HO.out)
          generalize wx.setCell ⟨o, 0, none⟩ (.slice none 0 0) = wy at HS ⊢
          clear y0 y1 hv
          go_wp2_with fail
          go_loopw [12] (fun i wz => ∃ (q : Nat) (J : List Ra.Row), q ≤ r ∧ i = .int .i64 (q : Int) ∧ Hid (Ra.Joined K q J) ∧ Hid (Lay2 w5 o (.slice Ao r co) K J wz)) (fun i _ => r - (intOf i).toNat)
          case atStart => exact ⟨0, [], by omega, rfl, Lib.hid (Ra.Joined.start K), HS⟩
          case round =>
            obtain ⟨q, J, hq, rfl, HJ, HY⟩ := hrel
            by_cases hq2 : q < r
            · have hqi : (q : Int) < (r : Int) := by omega
              have hqd : decide ((q : Int) < (r : Int)) = true := decide_eq_true hqi
              have hqK : q < K.length := by rw [← HR.out]; exact hq2
              obtain ⟨g, c', hv, cx, cy⟩ := HY.out.cells (k := q) hqK
              simp only [Value.slice.injEq] at hv
              obtain ⟨rfl, -, rfl⟩ := hv
              have HSTEP := Lib.hid (HJ.out.step WK.out hqK)
              obtain ⟨a, ha⟩ : ∃ x, x = (K.getD q (0, 0)).1 := ⟨_, rfl⟩
              obtain ⟨b, hb⟩ : ∃ x, x = (K.getD q (0, 0)).2 := ⟨_, rfl⟩
              rw [← ha] at cx
              rw [← hb] at cy
              have HAB := Lib.hid (show K.getD q (0, 0) = (a, b) by rw [ha, hb])
              obtain ⟨m, hm⟩ : ∃ m, m = J.length := ⟨_, rfl⟩
              have HM := Lib.hid hm
              have hmb : m ≤ 1000002 := by have := HJ.out.len; omega
              clear ha hb hqK
              by_cases h0 : m = 0
              · have hJ0 : J = [] := List.eq_nil_of_length_eq_zero (by rw [← hm]; exact h0)
                subst h0 hJ0
                clear hm
                obtain ⟨Aj, cj, yj⟩ := HY.out.shape
                rw [← HM.out] at yj
                go_upto_region 22 with fail
                go_quiet (fail)
                have HY2 := Lib.hid (HY.out.idle ((Chg.refl Nowhere _).drewN nq))
                go_upto_region 24 with fail
                have cx2 : (wr.drewN nq).cell? ⟨g, q * 2, none⟩ = some (.int .i64 a) := cx
                have cy2 : (wr.drewN nq).cell? ⟨g, q * 2 + 1, none⟩ = some (.int .i64 b) := cy
                generalize wr.drewN nq = wz at HY2 cx2 cy2 ⊢
                have HOW := Lib.hid (show o < wz.heap.size from by obtain ⟨v0, q1, _⟩ := HY2.out.obj; exact lt_blk q1)
                obtain ⟨v2, A2, N2, c2, w2, e1, hrun, e2, e3, hL2⟩ := HY2.out.app (((Chg.refl Nowhere wz).drew).alloc (.cells #[.int .i64 a, .int .i64 b] 33)) (by have := HJ.out.len; omega) a b 30 _ (alloc_new _ _)
                have HL2 := Lib.hid hL2
                have e4 : (wz.alloc (.cells #[.int .i64 a, .int .i64 b] 33)).drew.cell? ⟨o, 0, none⟩ = some v2 := by
                  have q1 := (((Chg.refl Nowhere wz).alloc (.cells #[.int .i64 a, .int .i64 b] 33)).drew).cell (p := ⟨o, 0, none⟩) HOW.out (not_nowhere _)
                  exact q1.trans e1
                clear hL2 cx cy yj
                go_region_law (refine step_append_run rfl _ _ 30 30 rfl _ _ (by simp [Act.eval, Act.put]) (by simp [Act.eval, Act.put]) hrun ?_)
                all_goals
                  go_wp2_with fail
                  go_roundw
                  case rel => exact ⟨q + 1, [] ++ [(a, b)], by omega, by go_num, Lib.hid (by have := HSTEP.out; rw [HAB.out, show Ra.joinIn [] (a, b) = [] ++ [(a, b)] by simp [Ra.joinIn]] at this; exact this), HL2⟩
                  case measure => simp [intOf]; omega
              · obtain ⟨p, hp⟩ : ∃ p, p = m - 1 := ⟨_, rfl⟩
                have hpm : (m : Int) - 1 = (p : Int) := by omega
                have hpm2 : p < m := by omega
                have hpm3 : (p : Int) < (m : Int) := by omega
                have hp0 : (0 : Int) ≤ (p : Int) := by omega
                have hpd : decide ((0 : Int) ≤ (p : Int)) = true := decide_eq_true hp0
                have hpw : IntKind.i64.wrap (p : Int) = (p : Int) := by rw [IntKind.wrap_i64]; omega
                obtain ⟨gj, cj, yj, jx, jy, jf, hLJ⟩ := HY.out.join (by rw [← hm]; omega) b
                rw [← hm, ← hp] at jx jy jf hLJ
                rw [← hm] at yj
                obtain ⟨x1, hx1⟩ : ∃ x, x = (J.getD p (0, 0)).1 := ⟨_, rfl⟩
                obtain ⟨x2, hx2⟩ : ∃ x, x = (J.getD p (0, 0)).2 := ⟨_, rfl⟩
                rw [← hx1] at jx hLJ
                rw [← hx2] at jy
                have HLJ := Lib.hid hLJ
                have HPM := Lib.hid hp
                have HX1 := Lib.hid hx1
                have HJI := Lib.hid (show Ra.joinIn J (a, b) = if x2 = a then J.take p ++ [(x1, b)] else J ++ [(a, b)] from by
                  unfold Ra.joinIn
                  rw [← hm, ← hp, ← hx1, ← hx2]
                  have : 0 < m := by omega
                  simp [this])
                clear hLJ hx1 hx2 hp hm
                by_cases he : x2 = a
                · have hed : (x2 == a) = true := by simpa using he
                  go_upto_region 22 with fail
                  go_quiet (fail)
                  go_upto_region 23 with fail
                  have HY2 := Lib.hid (HY.out.idle ((Chg.refl Nowhere _).drewN nq))
                  have cy2 : (wr.drewN nq).cell? ⟨g, q * 2 + 1, none⟩ = some (.int .i64 b) := cy
                  have yj2 : (wr.drewN nq).cell? ⟨o, 0, none⟩ = some (.slice (some ⟨gj, 0, none⟩) m cj) := yj
                  generalize wr.drewN nq = wz at HY2 cy2 yj2 ⊢
                  clear cx cy yj jx jy jf HLJ
                  go_still_tail 12, (by kernel_rfl)
                  change wpList _ _ _ _ _ wz.drew
                  have HY3 := Lib.hid (HY2.out.idle ((Chg.refl Nowhere wz).drew))
                  have yj3 : wz.drew.cell? ⟨o, 0, none⟩ = some (.slice (some ⟨gj, 0, none⟩) m cj) := yj2
                  clear yj2 cy2 HY2 HY
                  generalize wz.drew = wa at HY3 yj3 ⊢
                  obtain ⟨g3, c3, yj4, jx3, jy3, jf3, hL3⟩ := HY3.out.join (by rw [← HM.out]; omega) b
                  rw [yj3, ← HM.out] at yj4
                  simp only [Option.some.injEq, Value.slice.injEq, Addr.mk.injEq] at yj4
                  obtain rfl := yj4.1.1
                  rw [← HM.out, ← HPM.out] at jx3 jy3 jf3 hL3
                  rw [← HX1.out] at hL3
                  have HL3 := Lib.hid hL3
                  clear yj4 hL3 jx3 yj3 hpm hpw
                  go_wp2_with fail
                  go_roundw
                  case rel => exact ⟨q + 1, J.take p ++ [(x1, b)], by omega, by go_num, Lib.hid (by have := HSTEP.out; rw [HAB.out, HJI.out, if_pos he] at this; exact this), HL3⟩
                  case measure => simp [intOf]; omega
                · have hed : (x2 == a) = false := by simpa using he
                  go_upto_region 22 with fail
                  go_quiet (fail)
                  go_upto_region 24 with fail
                  have HY2 := Lib.hid (HY.out.idle ((Chg.refl Nowhere _).drewN nq))
                  have cx2 : (wr.drewN nq).cell? ⟨g, q * 2, none⟩ = some (.int .i64 a) := cx
                  have cy2 : (wr.drewN nq).cell? ⟨g, q * 2 + 1, none⟩ = some (.int .i64 b) := cy
                  generalize wr.drewN nq = wz at HY2 cx2 cy2 ⊢
                  have HOW := Lib.hid (show o < wz.heap.size from by obtain ⟨v0, q1, _⟩ := HY2.out.obj; exact lt_blk q1)
                  obtain ⟨v2, A2, N2, c2, w2, e1, hrun, e2, e3, hL2⟩ := HY2.out.app (((Chg.refl Nowhere wz).drew).alloc (.cells #[.int .i64 a, .int .i64 b] 33)) (by have := HJ.out.len; omega) a b 30 _ (alloc_new _ _)
                  have HL2 := Lib.hid hL2
                  have e4 : (wz.alloc (.cells #[.int .i64 a, .int .i64 b] 33)).drew.cell? ⟨o, 0, none⟩ = some v2 := by
                    have q1 := (((Chg.refl Nowhere wz).alloc (.cells #[.int .i64 a, .int .i64 b] 33)).drew).cell (p := ⟨o, 0, none⟩) HOW.out (not_nowhere _)
                    exact q1.trans e1
                  clear hL2 cx cy yj jx jy jf hpm hpw
                  go_region_law (refine step_append_run rfl _ _ 30 30 rfl _ _ (by simp [Act.eval, Act.put]) (by simp [Act.eval, Act.put]) hrun ?_)
                  all_goals
                    go_wp2_with fail
                    go_roundw
                    case rel => exact ⟨q + 1, J ++ [(a, b)], by omega, by go_num, Lib.hid (by have := HSTEP.out; rw [HAB.out, HJI.out, if_neg he] at this; exact this), HL2⟩
                    case measure => simp [intOf]; omega
            · obtain rfl : q = r := by omega
              have hqi : ¬ ((q : Int) < (q : Int)) := by omega
              have hqd : decide ((q : Int) < (q : Int)) = false := decide_eq_false hqi
              obtain ⟨hmv, v9, hv9⟩ := HY.out.done HO5.out
              have HMV := Lib.hid hmv
              have HV9 := Lib.hid hv9
              have HMJ := Lib.hid (show ∀ n, Ra.mem J n ↔ Ra.mem L n ∨ (f0 ≤ n ∧ n < t0) from fun n => by rw [HJ.out.has, HR.out, List.take_length]; exact MO.out n)
              have HLJ := Lib.hid (show J.length ≤ L.length + 2 from by have := HJ.out.len; have := HR.out; have := OL.out; omega)
              obtain ⟨S, hS⟩ : ∃ S, S = Ra.total J := ⟨_, rfl⟩
              have HSJ := Lib.hid hS
              have sb : 0 ≤ S ∧ S ≤ 4611686018427387904 := by rw [hS]; exact Ra.total_in HJ.out.good
              have HTJ := Lib.hid (show Calls Try.prog 28 #[.pointer (some ⟨o, 0, none⟩)] wr (Gives wr (.int .i64 S)) from by rw [hS]; exact rtotal_any o _ J wr hv9 HJ.out.good (by have := HLJ.out; have := HNB.out; omega))
              have HCW := Lib.hid HC5.out
              clear hmv hv9 hS hqd
              have hqd : decide ((q : Int) < (q : Int)) = false := decide_eq_false hqi
              go_wp2_with (go_at_call 28; refine HTJ.out.mono ?_; rintro e wt ⟨rfl, hCt⟩; have HCT := Lib.hid hCt; clear hCt)
              go_ret
              exact ⟨J, by rw [← HSJ.out, ← HT.out]; rfl, HJ.out.good, HMJ.out, HLJ.out, ⟨⟨v9, HV9.out.idle HCT.out, fun i hi => by
                obtain ⟨⟨v8, p1, p2⟩, _⟩ := HMV.out
                have e : v8 = v9 := by
                  have := p1.blk
                  rw [HV9.out.blk] at this
                  simp only [Option.some.injEq, Obj.cells.injEq] at this
                  exact (Array.singleton_inj.1 this.1).symm
                rcases p2 i (e ▸ hi) with h | h
                · exact .inl h
                · exact .inr (Nat.le_trans HCW.out.size h)⟩, (HCW.out.none_then HMV.out.chg).then_none HCT.out⟩⟩
        | false =>
          obtain ⟨p, hp, hK⟩ := (show ∃ p, Ra.Laid D f0 t0 p ∧ K ++ [(f0, t0)] = D.take p ++ [(f0, t0)] ++ D.drop p from Ins.doneF (by rw [← HN.out]; exact HIN.out))
          obtain ⟨q1, q2, q3⟩ := WKT.out p hp
          rw [← hK] at q1 q2 q3
          have WK := Lib.hid q1
          have MO := Lib.hid q2
          have OL := Lib.hid q3
          clear hp hK q1 q2 q3 WKT
          go_upto_region 17 with (at_builtin; obtain ⟨l', wx, hr, hI⟩ := (HLY.out.idle ((Chg.refl Nowhere _).alloc (.cells #[.int .i64 f0, .int .i64 t0] 33))).app (by have := HIN.out.len; rw [← HN.out] at this; omega) f0 t0 30 _ (alloc_new _ _); have HO := Lib.hid hI.out; clear hI; refine Lib.wpList_append_run _ rfl _ _ 30 30 rfl _ _ rfl rfl l' wx hr ?_; clear hr)
          generalize K ++ [(f0, t0)] = K at WK MO OL HO ⊢
          obtain ⟨Ao, co, hot⟩ := ownR_shape (own_base0 HO.out.own)
          obtain ⟨r, hr⟩ : ∃ r, r = K.length := ⟨_, rfl⟩
          rw [← hr] at hot
          subst hot
          have HR := Lib.hid hr
          have hrb : r ≤ 1000002 := by have := OL.out; have := HNB.out; omega
          clear hr
          have y0 := (HO5.out.idle HO.out.chg).cell0
          have y1 : wx.frozen? ⟨o, 0, none⟩ = false := frozen_blk (HO5.out.idle HO.out.chg).blk
          obtain ⟨Av, cv, hv⟩ := (HO5.out.idle HO.out.chg).shape
          rw [hv] at y0
          go_upto_region 18 with fail
          have HS := Lib.hid (Lay2.start HO5.out HO.out)
          generalize wx.setCell ⟨o, 0, none⟩ (.slice none 0 0) = wy at HS ⊢
          clear y0 y1 hv
          go_wp2_with fail
          go_loopw [12] (fun i wz => ∃ (q : Nat) (J : List Ra.Row), q ≤ r ∧ i = .int .i64 (q : Int) ∧ Hid (Ra.Joined K q J) ∧ Hid (Lay2 w5 o (.slice Ao r co) K J wz)) (fun i _ => r - (intOf i).toNat)
          case atStart => exact ⟨0, [], by omega, rfl, Lib.hid (Ra.Joined.start K), HS⟩
          case round =>
            obtain ⟨q, J, hq, rfl, HJ, HY⟩ := hrel
            by_cases hq2 : q < r
            · have hqi : (q : Int) < (r : Int) := by omega
              have hqd : decide ((q : Int) < (r : Int)) = true := decide_eq_true hqi
              have hqK : q < K.length := by rw [← HR.out]; exact hq2
              obtain ⟨g, c', hv, cx, cy⟩ := HY.out.cells (k := q) hqK
              simp only [Value.slice.injEq] at hv
              obtain ⟨rfl, -, rfl⟩ := hv
              have HSTEP := Lib.hid (HJ.out.step WK.out hqK)
              obtain ⟨a, ha⟩ : ∃ x, x = (K.getD q (0, 0)).1 := ⟨_, rfl⟩
              obtain ⟨b, hb⟩ : ∃ x, x = (K.getD q (0, 0)).2 := ⟨_, rfl⟩
              rw [← ha] at cx
              rw [← hb] at cy
              have HAB := Lib.hid (show K.getD q (0, 0) = (a, b) by rw [ha, hb])
              obtain ⟨m, hm⟩ : ∃ m, m = J.length := ⟨_, rfl⟩
              have HM := Lib.hid hm
              have hmb : m ≤ 1000002 := by have := HJ.out.len; omega
              clear ha hb hqK
              by_cases h0 : m = 0
              · have hJ0 : J = [] := List.eq_nil_of_length_eq_zero (by rw [← hm]; exact h0)
                subst h0 hJ0
                clear hm
                obtain ⟨Aj, cj, yj⟩ := HY.out.shape
                rw [← HM.out] at yj
                go_upto_region 22 with fail
                go_quiet (fail)
                have HY2 := Lib.hid (HY.out.idle ((Chg.refl Nowhere _).drewN nq))
                go_upto_region 24 with fail
                have cx2 : (wr.drewN nq).cell? ⟨g, q * 2, none⟩ = some (.int .i64 a) := cx
                have cy2 : (wr.drewN nq).cell? ⟨g, q * 2 + 1, none⟩ = some (.int .i64 b) := cy
                generalize wr.drewN nq = wz at HY2 cx2 cy2 ⊢
                have HOW := Lib.hid (show o < wz.heap.size from by obtain ⟨v0, q1, _⟩ := HY2.out.obj; exact lt_blk q1)
                obtain ⟨v2, A2, N2, c2, w2, e1, hrun, e2, e3, hL2⟩ := HY2.out.app (((Chg.refl Nowhere wz).drew).alloc (.cells #[.int .i64 a, .int .i64 b] 33)) (by have := HJ.out.len; omega) a b 30 _ (alloc_new _ _)
                have HL2 := Lib.hid hL2
                have e4 : (wz.alloc (.cells #[.int .i64 a, .int .i64 b] 33)).drew.cell? ⟨o, 0, none⟩ = some v2 := by
                  have q1 := (((Chg.refl Nowhere wz).alloc (.cells #[.int .i64 a, .int .i64 b] 33)).drew).cell (p := ⟨o, 0, none⟩) HOW.out (not_nowhere _)
                  exact q1.trans e1
                clear hL2 cx cy yj
                go_region_law (refine step_append_run rfl _ _ 30 30 rfl _ _ (by simp [Act.eval, Act.put]) (by simp [Act.eval, Act.put]) hrun ?_)
                all_goals
                  go_wp2_with fail
                  go_roundw
                  case rel => exact ⟨q + 1, [] ++ [(a, b)], by omega, by go_num, Lib.hid (by have := HSTEP.out; rw [HAB.out, show Ra.joinIn [] (a, b) = [] ++ [(a, b)] by simp [Ra.joinIn]] at this; exact this), HL2⟩
                  case measure => simp [intOf]; omega
              · obtain ⟨p, hp⟩ : ∃ p, p = m - 1 := ⟨_, rfl⟩
                have hpm : (m : Int) - 1 = (p : Int) := by omega
                have hpm2 : p < m := by omega
                have hpm3 : (p : Int) < (m : Int) := by omega
                have hp0 : (0 : Int) ≤ (p : Int) := by omega
                have hpd : decide ((0 : Int) ≤ (p : Int)) = true := decide_eq_true hp0
                have hpw : IntKind.i64.wrap (p : Int) = (p : Int) := by rw [IntKind.wrap_i64]; omega
                obtain ⟨gj, cj, yj, jx, jy, jf, hLJ⟩ := HY.out.join (by rw [← hm]; omega) b
                rw [← hm, ← hp] at jx jy jf hLJ
                rw [← hm] at yj
                obtain ⟨x1, hx1⟩ : ∃ x, x = (J.getD p (0, 0)).1 := ⟨_, rfl⟩
                obtain ⟨x2, hx2⟩ : ∃ x, x = (J.getD p (0, 0)).2 := ⟨_, rfl⟩
                rw [← hx1] at jx hLJ
                rw [← hx2] at jy
                have HLJ := Lib.hid hLJ
                have HPM := Lib.hid hp
                have HX1 := Lib.hid hx1
                have HJI := Lib.hid (show Ra.joinIn J (a, b) = if x2 = a then J.take p ++ [(x1, b)] else J ++ [(a, b)] from by
                  unfold Ra.joinIn
                  rw [← hm, ← hp, ← hx1, ← hx2]
                  have : 0 < m := by omega
                  simp [this])
                clear hLJ hx1 hx2 hp hm
                by_cases he : x2 = a
                · have hed : (x2 == a) = true := by simpa using he
                  go_upto_region 22 with fail
                  go_quiet (fail)
                  go_upto_region 23 with fail
                  have HY2 := Lib.hid (HY.out.idle ((Chg.refl Nowhere _).drewN nq))
                  have cy2 : (wr.drewN nq).cell? ⟨g, q * 2 + 1, none⟩ = some (.int .i64 b) := cy
                  have yj2 : (wr.drewN nq).cell? ⟨o, 0, none⟩ = some (.slice (some ⟨gj, 0, none⟩) m cj) := yj
                  generalize wr.drewN nq = wz at HY2 cy2 yj2 ⊢
                  clear cx cy yj jx jy jf HLJ
                  go_still_tail 12, (by kernel_rfl)
                  change wpList _ _ _ _ _ wz.drew
                  have HY3 := Lib.hid (HY2.out.idle ((Chg.refl Nowhere wz).drew))
                  have yj3 : wz.drew.cell? ⟨o, 0, none⟩ = some (.slice (some ⟨gj, 0, none⟩) m cj) := yj2
                  clear yj2 cy2 HY2 HY
                  generalize wz.drew = wa at HY3 yj3 ⊢
                  obtain ⟨g3, c3, yj4, jx3, jy3, jf3, hL3⟩ := HY3.out.join (by rw [← HM.out]; omega) b
                  rw [yj3, ← HM.out] at yj4
                  simp only [Option.some.injEq, Value.slice.injEq, Addr.mk.injEq] at yj4
                  obtain rfl := yj4.1.1
                  rw [← HM.out, ← HPM.out] at jx3 jy3 jf3 hL3
                  rw [← HX1.out] at hL3
                  have HL3 := Lib.hid hL3
                  clear yj4 hL3 jx3 yj3 hpm hpw
                  go_wp2_with fail
                  go_roundw
                  case rel => exact ⟨q + 1, J.take p ++ [(x1, b)], by omega, by go_num, Lib.hid (by have := HSTEP.out; rw [HAB.out, HJI.out, if_pos he] at this; exact this), HL3⟩
                  case measure => simp [intOf]; omega
                · have hed : (x2 == a) = false := by simpa using he
                  go_upto_region 22 with fail
                  go_quiet (fail)
                  go_upto_region 24 with fail
                  have HY2 := Lib.hid (HY.out.idle ((Chg.refl Nowhere _).drewN nq))
                  have cx2 : (wr.drewN nq).cell? ⟨g, q * 2, none⟩ = some (.int .i64 a) := cx
                  have cy2 : (wr.drewN nq).cell? ⟨g, q * 2 + 1, none⟩ = some (.int .i64 b) := cy
                  generalize wr.drewN nq = wz at HY2 cx2 cy2 ⊢
                  have HOW := Lib.hid (show o < wz.heap.size from by obtain ⟨v0, q1, _⟩ := HY2.out.obj; exact lt_blk q1)
                  obtain ⟨v2, A2, N2, c2, w2, e1, hrun, e2, e3, hL2⟩ := HY2.out.app (((Chg.refl Nowhere wz).drew).alloc (.cells #[.int .i64 a, .int .i64 b] 33)) (by have := HJ.out.len; omega) a b 30 _ (alloc_new _ _)
                  have HL2 := Lib.hid hL2
                  have e4 : (wz.alloc (.cells #[.int .i64 a, .int .i64 b] 33)).drew.cell? ⟨o, 0, none⟩ = some v2 := by
                    have q1 := (((Chg.refl Nowhere wz).alloc (.cells #[.int .i64 a, .int .i64 b] 33)).drew).cell (p := ⟨o, 0, none⟩) HOW.out (not_nowhere _)
                    exact q1.trans e1
                  clear hL2 cx cy yj jx jy jf hpm hpw
                  go_region_law (refine step_append_run rfl _ _ 30 30 rfl _ _ (by simp [Act.eval, Act.put]) (by simp [Act.eval, Act.put]) hrun ?_)
                  all_goals
                    go_wp2_with fail
                    go_roundw
                    case rel => exact ⟨q + 1, J ++ [(a, b)], by omega, by go_num, Lib.hid (by have := HSTEP.out; rw [HAB.out, HJI.out, if_neg he] at this; exact this), HL2⟩
                    case measure => simp [intOf]; omega
            · obtain rfl : q = r := by omega
              have hqi : ¬ ((q : Int) < (q : Int)) := by omega
              have hqd : decide ((q : Int) < (q : Int)) = false := decide_eq_false hqi
              obtain ⟨hmv, v9, hv9⟩ := HY.out.done HO5.out
              have HMV := Lib.hid hmv
              have HV9 := Lib.hid hv9
              have HMJ := Lib.hid (show ∀ n, Ra.mem J n ↔ Ra.mem L n ∨ (f0 ≤ n ∧ n < t0) from fun n => by rw [HJ.out.has, HR.out, List.take_length]; exact MO.out n)
              have HLJ := Lib.hid (show J.length ≤ L.length + 2 from by have := HJ.out.len; have := HR.out; have := OL.out; omega)
              obtain ⟨S, hS⟩ : ∃ S, S = Ra.total J := ⟨_, rfl⟩
              have HSJ := Lib.hid hS
              have sb : 0 ≤ S ∧ S ≤ 4611686018427387904 := by rw [hS]; exact Ra.total_in HJ.out.good
              have HTJ := Lib.hid (show Calls Try.prog 28 #[.pointer (some ⟨o, 0, none⟩)] wr (Gives wr (.int .i64 S)) from by rw [hS]; exact rtotal_any o _ J wr hv9 HJ.out.good (by have := HLJ.out; have := HNB.out; omega))
              have HCW := Lib.hid HC5.out
              clear hmv hv9 hS hqd
              have hqd : decide ((q : Int) < (q : Int)) = false := decide_eq_false hqi
              go_wp2_with (go_at_call 28; refine HTJ.out.mono ?_; rintro e wt ⟨rfl, hCt⟩; have HCT := Lib.hid hCt; clear hCt)
              go_ret
              exact ⟨J, by rw [← HSJ.out, ← HT.out]; rfl, HJ.out.good, HMJ.out, HLJ.out, ⟨⟨v9, HV9.out.idle HCT.out, fun i hi => by
                obtain ⟨⟨v8, p1, p2⟩, _⟩ := HMV.out
                have e : v8 = v9 := by
                  have := p1.blk
                  rw [HV9.out.blk] at this
                  simp only [Option.some.injEq, Obj.cells.injEq] at this
                  exact (Array.singleton_inj.1 this.1).symm
                rcases p2 i (e ▸ hi) with h | h
                · exact .inl h
                · exact .inr (Nat.le_trans HCW.out.size h)⟩, (HCW.out.none_then HMV.out.chg).then_none HCT.out⟩⟩
  · have hd : decide (t0 ≤ f0) = true := decide_eq_true (by omega)
    have hd2 : t0 ≤ f0 := by omega
    have HE := Lib.hid (show ∀ w4, Chg Nowhere w w4 → ∃ L', Ending.returned (.int .i64 0) = .returned (.int .i64 (Ra.total L' - Ra.total L)) ∧ Ra.Good L' ∧ (∀ n, Ra.mem L' n ↔ Ra.mem L n ∨ (f0 ≤ n ∧ n < t0)) ∧ L'.length ≤ L.length + 2 ∧ RMoved w o v L' w4 from fun w4 h4 =>
      ⟨L, by rw [Int.sub_self], hG, fun n => ⟨.inl, fun h => h.elim id (fun h => by omega)⟩, by omega, ⟨v, h.idle h4, fun i hi => .inl hi⟩, h4.mono fun _ _ h => h.elim⟩)
    clear h hG
    go_enter Try.func22, Try.ntmps22
    go_upto_region 2 with (go_at_call 80; refine (HI.out _).mono ?_; rintro e w4 ⟨rfl, hC4⟩; have HC4 := Lib.hid hC4; clear hC4)
    go_wp2_with fail
    go_ret
    exact HE.out _ HC4.out
end Go.Proofs.Ytlkbfacdaelbfaa
