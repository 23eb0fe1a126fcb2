/-
  SchedPlays, walked: it returns true.
-/
import Derived.Test.YtiijnhgafadokaaSchPlB
import Derived.Deep.DeepCutAuto
import Derived.Deep.CutBlock
import Derived.Deep.RegionHeld3
namespace Go.Proofs.Ytiijnhgafadokaa
open Go.RowKit
set_option linter.unusedVariables false

/-- What holds behind the op. -/
def PlAft (w0 : World) (y k d : Nat) (zk zid zn zm : Int) (vl va vr vs one : Value) (wx : World) : Prop :=
  ∃ (s : Nat) (S : Sch) (R : RSch), vs = .pointer (some ⟨s, 0, .none⟩) ∧ one = .bool true ∧ Pl w0 s (k + 1) y S R (k + 1) wx ∧ OpAt wx d zk zid zn zm vl va vr
set_option maxHeartbeats 6400000 in
set_option maxRecDepth 100000 in
theorem plays21_walk (p : Int) (A : Option Addr) (cap : Nat) (w : World) (zs : List {z : OpZ // Opz2 w z}) (hlen : zs.length ≤ cap) (hcap : cap ≤ maxLen) (hsm : ∀ z ∈ zs, z.1.l.length ≤ 2000000)
    (hz : 0 < zs.length → ∃ g o, A = some ⟨g, o, .none⟩ ∧ g < w.heap.size ∧ ∀ (i : Nat) z, zs[i]? = some z → ∀ (j : Nat) u, (opzR2 w z)[j]? = some u → w.cell? ⟨g, o + (i * 7 + j), .none⟩ = some u) :
    Calls Try.prog 14 #[.int .i64 p, .slice A zs.length cap] w (ShownSTo w) := by
  obtain ⟨ir, hir, hr0, hr1, hr2⟩ := info_parts infoRng
  have HZ := Lib.hid hz
  have HSM := Lib.hid hsm
  clear hz hsm
  unfold maxLen at hcap
  go_enter Try.func14, Try.ntmps14
  go_wp2_with fail
  refine (shownS_any _).mono ?_
  rintro e w0 ⟨rfl, hC0⟩
  have HC0 := Lib.hid hC0
  clear hC0
  go_wp2_with fail
  refine (newS_any _ _).mono ?_
  rintro e w1 ⟨s, rfl, hI, hC⟩
  have HI1 := Lib.hid hI
  have HC1 := Lib.hid hC
  clear hI hC
  go_wp2_with fail
  refine (newR_any (B := w0.heap.size) _ _ HC1.out.size).mono ?_
  rintro e w2 ⟨y, rfl, hR, hy, hC⟩
  have HP0 := Lib.hid (show Pl w0 s 0 y (newS p) (newR p) 0 w2 from ⟨HI1.out.idle hC, hR, rel_new p, small_new p, HC1.out.trans' hC⟩)
  clear hR hC hy HI1 HC1
  go_wp2_with fail
  go_loopw [6, 8] (fun vs i wr => ∃ (k s : Nat) (S : Sch) (R : RSch), k ≤ zs.length ∧ k ≤ 100 ∧ vs = .pointer (some ⟨s, 0, .none⟩) ∧ i = .int .i64 k ∧ Hid (Pl w0 s k y S R k wr)) (fun _ i _ => 100 - (intOf i).toNat)
  case atStart => exact ⟨0, s, _, _, by omega, by omega, rfl, rfl, HP0⟩
  case round =>
    clear HP0
    obtain ⟨k, s, S, R, hk, hk1, rfl, rfl, HP⟩ := hrel
    by_cases hk' : k < zs.length
    · by_cases hk2 : k < 100
      · obtain ⟨g, o, rfl, hg, hcell⟩ := HZ.out (by omega)
        obtain ⟨⟨⟨zk, zid, zn, zm, vl, va, vr, l, live, rtt⟩, zok, znil⟩, hzk⟩ : ∃ z, zs[k]? = some z := ⟨zs[k], List.getElem?_eq_getElem hk'⟩
        have hls := HSM.out _ (List.mem_of_getElem? hzk)
        have c : ∀ j x, (opzCells ⟨zk, zid, zn, zm, vl, va, vr, l, live, rtt⟩)[j]? = some x → wr.cell? ⟨g, o + k * 7 + j, .none⟩ = some x := fun j x h => by
          rw [Nat.add_assoc]
          exact ((HC0.out.trans' HP.out.chg).cell (p := ⟨g, o + (k * 7 + j), .none⟩) hg (not_nowhere _)).trans (hcell k _ hzk j x h)
        simp only [opzCells] at c
        have c0 : wr.cell? ⟨g, o + k * 7, .none⟩ = _ := c 0 _ rfl
        have c1 := c 1 _ rfl
        have c2 := c 2 _ rfl
        have c3 := c 3 _ rfl
        have c4 := c 4 _ rfl
        have c5 := c 5 _ rfl
        have c6 := c 6 _ rfl
        have ZK := Lib.hid zok.k
        have ZI := Lib.hid zok.id
        have ZN := Lib.hid zok.n
        have ZM := Lib.hid zok.m
        have ZR := Lib.hid zok.rl
        have ZL := Lib.hid zok.ll
        have ZA := Lib.hid zok.ra
        have ZLA := Lib.hid zok.la
        have ZIA := Lib.hid zok.ia
        have ZB := Lib.hid zok.rr
        have ZLB := Lib.hid zok.lr
        simp only at ZK ZI ZN ZM ZR ZL ZA ZLA ZIA ZB ZLB znil hls
        have HLS := Lib.hid hls
        obtain ⟨B, cb, rfl⟩ : ∃ B cb, vl = Value.slice B l.length cb := by
          obtain ⟨-, B, cb, h, -, -⟩ := ZR.out
          exact ⟨B, cb, h⟩
        obtain ⟨Ba, cba, rfl⟩ : ∃ B cb, va = Value.slice B live.length cb := by
          obtain ⟨-, B, cb, h, -, -⟩ := ZA.out
          exact ⟨B, cb, h⟩
        obtain ⟨Br, cbr, rfl⟩ : ∃ B cb, vr = Value.slice B rtt.length cb := by
          obtain ⟨-, B, cb, h, -, -⟩ := ZB.out
          exact ⟨B, cb, h⟩
        have ZNIL := Lib.hid znil
        clear c hcell hzk zok znil hls
        go_upto_block 2 with (go_at_call 43; refine (kind21_any zk 8 _ ZK.out (by omega)).mono ?_; rintro e w' ⟨q, hq, rfl, rfl⟩)
        go_cut [6, 10] (fun vs one wx => PlAft w0 y k wr.heap.size zk zid zn zm (.slice B l.length cb) (.slice Ba live.length cba) (.slice Br rtt.length cbr) vs one wx)
        case first =>
          have HP2 := Lib.hid (HP.out.idle (((Chg.refl Nowhere wr).alloc (.cells #[.int .i64 zk, .int .i64 zid, .int .i64 zn, .int .i64 zm, .slice B l.length cb, .slice Ba live.length cba, .slice Br rtt.length cbr] 71))))
          have HOp := Lib.hid (show OpAt (wr.alloc (.cells #[.int .i64 zk, .int .i64 zid, .int .i64 zn, .int .i64 zm, .slice B l.length cb, .slice Ba live.length cba, .slice Br rtt.length cbr] 71)) wr.heap.size zk zid zn zm (.slice B l.length cb) (.slice Ba live.length cba) (.slice Br rtt.length cbr) from alloc_new _ _)
          clear c0 c1 c2 c3 c4 c5 c6
          rcases (by omega : q = 0 ∨ q = 1 ∨ q = 2 ∨ q = 3 ∨ q = 4 ∨ q = 5 ∨ q = 6 ∨ q = 7) with rfl | rfl | rfl | rfl | rfl | rfl | rfl | rfl
          · as_aux_lemma =>
            have d1 := HOp.out.all.2.1
            go_wp2_with fail
            refine (openS_any _ _ s _ S HP2.out.is HP2.out.zone (by omega) zid ZI.out).mono ?_
            rintro e w5 ⟨rfl, hI, hC⟩
            have HI5 := Lib.hid hI
            have HC5 := Lib.hid hC
            have d1 := (HOp.out.zone hC).all.2.1
            have HR5 := Lib.hid (HP2.out.ref.zone hC)
            have hRl := HP2.out.sm.L
            clear hI hC
            go_wp2_with fail
            refine (openR_any _ y R HR5.out (by omega) zid ZI.out).mono ?_
            rintro e w6 ⟨rfl, hI, hC⟩
            have HF := Lib.hid (HP2.out.both HI5.out HC5.out hI hC (HP2.out.rel.open zid) (HP2.out.sm.open zid))
            have HO6 := Lib.hid ((HOp.out.zone HC5.out).refs hC)
            clear hI hC
            go_wp2_with fail
            go_meet
            exact ⟨s, _, _, rfl, rfl, HF.out, HO6.out⟩
          · as_aux_lemma =>
            have d1 := HOp.out.all.2.1
            have HP3 := Lib.hid (HP2.out.idle ((Chg.refl Nowhere _).drew))
            have HO3 := Lib.hid (HOp.out.idle ((Chg.refl Nowhere _).drew))
            have hm := close_most HP2.out.is HP2.out.sm zid
            have hdl := lt_blk HOp.out
            go_upto_region 16 with (fail)
            go_region_held3 (fun w' => w'.cell? ⟨wr.heap.size, 1, .none⟩ = some (.int .i64 zid)) (first | exact k5 | exact k6 | exact k7 | exact k8 | exact k9 | exact k10 | go_keep) (first
              | (go_at_call 50; refine (closeS_any _ _ s _ S HP3.out.is zid ZI.out).mono ?_; rintro e w5 ⟨v5, rfl, r1, hI, hC⟩; have HI5 := Lib.hid hI; have HC5 := Lib.hid hC; have HV5 := Lib.hid r1; have HR5 := Lib.hid (HP3.out.ref.zone hC); have HO5 := Lib.hid (HO3.out.zone hC); have k5 := HO5.out.all.2.1; obtain ⟨-, A5, c5, rfl, -, -⟩ := Rd.of_owns r1; clear r1 hI hC)
              | (go_at_call 54; refine (closeR_any w5 y R HR5.out zid).mono ?_; rintro e w6 ⟨v6, rfl, r1, hI, hC⟩; have HF6 := Lib.hid (HP3.out.both HI5.out HC5.out hI hC (HP2.out.rel.close zid).1 (HP2.out.sm.close zid)).more; rw [← (HP2.out.rel.close zid).2] at r1; have HV56 := Lib.hid (rng_ref HV5.out hC); have HV6 := Lib.hid r1; have HO6 := Lib.hid (HO5.out.refs hC); have k6 := HO6.out.all.2.1; obtain ⟨-, A6, c6, rfl, -, -⟩ := Rd.of_owns r1; clear r1 hI hC)
              | (go_at_call 53; refine (same_any _ _ (closeL S zid) (closeL S zid) w6 (Rd.of_owns HV56.out) (Rd.of_owns HV6.out) (by omega) (by omega)).mono ?_; rw [decide_eq_true rfl]; rintro e w7 ⟨rfl, hC⟩; have HF7 := Lib.hid (HF6.out.idle hC); have HO7 := Lib.hid (HO6.out.idle hC); have k7 := HO7.out.all.2.1; clear hC)
              | (go_at_call 54; refine (closeR_any _ y R HP3.out.ref zid).mono ?_; rintro e w8 ⟨v8, rfl, r1, hI, hC⟩; have HI8 := Lib.hid hI; have HC8 := Lib.hid hC; rw [← (HP2.out.rel.close zid).2] at r1; have HV8 := Lib.hid r1; have HS8 := Lib.hid (HP3.out.is.refs hC); have HZ8 := Lib.hid (fun q (hq : w8.heap.size ≤ q) => HP3.out.zone q (Nat.le_trans (Chg.size hC) hq)); have HO8 := Lib.hid (HO3.out.refs hC); have k8 := HO8.out.all.2.1; obtain ⟨-, A8, c8, rfl, -, -⟩ := Rd.of_owns r1; clear r1 hI hC)
              | (go_at_call 50; refine (closeS_any _ _ s _ S HS8.out zid ZI.out).mono ?_; rintro e w9 ⟨v9, rfl, r1, hI, hC⟩; have HF9 := Lib.hid (HP3.out.both' HI8.out HC8.out hI hC (HP2.out.rel.close zid).1 (HP2.out.sm.close zid)).more; have HV9 := Lib.hid r1; have HV89 := Lib.hid (rng_zone HV8.out hC); have HO9 := Lib.hid (HO8.out.zone hC); have k9 := HO9.out.all.2.1; obtain ⟨-, A9, c9, rfl, -, -⟩ := Rd.of_owns r1; clear r1 hI hC)
              | (go_at_call 53; refine (same_any _ _ (closeL S zid) (closeL S zid) w9 (Rd.of_owns HV9.out) (Rd.of_owns HV89.out) (by omega) (by omega)).mono ?_; rw [decide_eq_true rfl]; rintro e w10 ⟨rfl, hC⟩; have HF10 := Lib.hid (HF9.out.idle hC); have HO10 := Lib.hid (HO9.out.idle hC); have k10 := HO10.out.all.2.1; clear hC))
            all_goals
              go_wp2_with fail
              go_meet
              first
              | exact ⟨s, _, _, rfl, rfl, HF7.out, HO7.out⟩
              | exact ⟨s, _, _, rfl, rfl, HF10.out, HO10.out⟩
          · as_aux_lemma =>
            have d4 := HOp.out.all.2.2.2.2.1
            have HOL := Lib.hid (World.ownsRow_lit (base := wr.heap.size + 1) (e := 49) (size := 2) (wr.alloc (.cells #[.int .i64 zk, .int .i64 zid, .int .i64 zn, .int .i64 zm, .slice B l.length cb, .slice Ba live.length cba, .slice Br rtt.length cbr] 71)) #[] 0 (by simp) (by unfold maxLen; omega) rfl)
            rw [show (wr.alloc (.cells #[.int .i64 zk, .int .i64 zid, .int .i64 zn, .int .i64 zm, .slice B l.length cb, .slice Ba live.length cba, .slice Br rtt.length cbr] 71)).heap.size = wr.heap.size + 1 by simp] at HOL
            have hlow := HC0.out.size
            have hsz2 := HP.out.chg.size
            go_upto_region 19 with (fail)
            go_cut [11] (fun v wx => ∃ Ao co, v = Value.slice Ao l.length co ∧ wx.ownsRow (wr.heap.size + 1) 49 2 (.slice Ao l.length co) l.length (flat l) ∧ Chg Nowhere (wr.alloc (.cells #[.int .i64 zk, .int .i64 zid, .int .i64 zn, .int .i64 zm, .slice B l.length cb, .slice Ba live.length cba, .slice Br rtt.length cbr] 71)) wx)
            case first => as_aux_lemma =>
              have hC := Lib.hid ((Chg.refl Nowhere (wr.alloc (.cells #[.int .i64 zk, .int .i64 zid, .int .i64 zn, .int .i64 zm, .slice B l.length cb, .slice Ba live.length cba, .slice Br rtt.length cbr] 71))).alloc (.cells #[] 49))
              cases B with
              | none =>
                obtain rfl := ZNIL.out _ _ rfl
                obtain rfl : l = [] := by
                  cases l with
                  | nil => rfl
                  | cons r l =>
                    obtain ⟨-, A2, c2, e, -, hA2⟩ := ZR.out
                    obtain ⟨g2, o2, e2, -⟩ := hA2 (by simp)
                    rw [e2] at e
                    cases e
                clear ZR ZNIL ZL HLS
                go_wp2_with (at_builtin; refine wpList_append_own_none rfl _ _ 45 rfl (wr.heap.size + 1) 49 ir 2 Try.underlying45 hir _ _ _ rfl HOL.out rfl ?_)
                go_meet
                exact ⟨_, _, rfl, HOL.out, hC.out⟩
              | some ad =>
                have HN := Lib.hid (show ∀ j u, (flat l)[j]? = some u → ((wr.alloc (.cells #[.int .i64 zk, .int .i64 zid, .int .i64 zn, .int .i64 zm, .slice (some ad) l.length cb, .slice Ba live.length cba, .slice Br rtt.length cbr] 71)).alloc (.cells #[] 49)).cell? (ad.add j) = some u from fun j u hj => by
                  have hlt := (List.getElem?_eq_some_iff.1 hj).1
                  have hfl := flat_len l
                  obtain ⟨-, A2, c2, e, -, hA2⟩ := (ZR.out.same (HC0.out.trans' HP2.out.chg)).same hC.out
                  obtain ⟨g2, o2, rfl, hg2, hcell2⟩ := hA2 (by omega)
                  simp only [Value.slice.injEq, Option.some.injEq] at e
                  obtain ⟨rfl, -, -⟩ := e
                  rw [add_mk]
                  exact (hcell2 j hlt).trans hj)
                have hfl := flat_len l
                have hls := HLS.out
                go_wp2_with (at_builtin; refine wpList_append_own _ rfl _ _ 45 rfl (wr.heap.size + 1) 49 ir (.agg #[.int .i64 0, .int .i64 0]) 2 16 Try.underlying45 hir hr0 hr1 hr2 rfl (by decide) (.slice (some ⟨wr.heap.size + 1, 0, .none⟩) 0 0) 0 [] rfl HOL.out ad l.length cb (flat l) rfl hfl HN.out (flat_one' l) (by unfold maxLen; omega) (by omega) (by simp) ?_; intro v' w3 hown' hgrow3 hnil3; rw [Nat.zero_add, List.nil_append] at hown'; obtain ⟨-, Ao, co, rfl, -, -⟩ := Rd.of_owns hown'; have HOw := Lib.hid hown'; have HCw := Lib.hid (hC.out.grown hgrow3 (fun q hq => .inl (by cases hq; simp))); clear hown' hgrow3 hnil3)
                go_meet
                exact ⟨_, _, rfl, HOw.out, HCw.out⟩
            case rest => as_aux_lemma =>
              obtain ⟨Ao, co, rfl, hO, hC⟩ := hcut
              have HOw := Lib.hid hO
              have HCw := Lib.hid hC
              have HP5 := Lib.hid (HP2.out.idle hC)
              have HO5 := Lib.hid (HOp.out.idle hC)
              clear hO hC d4
              obtain ⟨-, d1, d2, d3, d4, -, -⟩ := HO5.out.all
              have hun := HP5.out.sm.under zid
              go_wp2_with fail
              refine (sent_fresh _ _ s _ S HP5.out.is HP5.out.zone zid zn zm ZI.out _ l (Rd.of_owns HOw.out) HLS.out (fun g o n c' e hm => by
                rcases HOw.out.2 with ⟨hv, -⟩ | ⟨g', cap', cur, hv, -, hh, -⟩
                · rw [hv] at e; cases e
                · rw [hv] at e
                  cases e
                  exact cells_other hh (by decide) hm.2) (by omega)).mono ?_
              rintro e w6 ⟨cv, rfl, hI, hC, hcv⟩
              have HI6 := Lib.hid hI
              have HC6 := Lib.hid hC
              have HCV := Lib.hid hcv
              have HR6 := Lib.hid (HP5.out.ref.zone hC)
              have HO6 := Lib.hid (HO5.out.zone hC)
              have HW6 := Lib.hid (chg_zone HP5.out.chg hC)
              have HOw6 := Lib.hid (rng_zone HOw.out hC)
              have hsz6 : _ ≤ w6.heap.size := Chg.size hC
              clear hI hC hcv d1 d2 d3 d4
              obtain ⟨-, d1, d2, d3, d4, -, -⟩ := HO6.out.all
              have hun2 : underR R zid < 100000 := by rw [← HP5.out.rel.under]; omega
              go_wp2_with fail
              refine (sentR_any _ y R HR6.out zid zn zm _ l (ZR.out.same (HC0.out.trans' HW6.out)) HLS.out (fun h0 g' o' n' c' e hm => by
                have := rd_low hlow ZR.out h0 e
                have := hm.1
                omega) ZNIL.out hun2).mono ?_
              rintro e w7 ⟨lv, cv2, rfl, hI, hC, hcv2⟩
              have HF7 := Lib.hid (HP5.out.both HI6.out.more HC6.out hI hC (HP5.out.rel.sent zid zn zm cv lv cv2 l) (HP5.out.sm.sent zid zn zm cv lv cv2 l))
              have HO7 := Lib.hid (HO6.out.refs hC)
              have HOw7 := Lib.hid (rng_ref HOw6.out hC)
              have HNR := Lib.hid (show ∀ b, (Value.slice Ao l.length co).ownBlock = some b → NoRow (sentS S zid zn zm cv l) b ∧ NoRowR (sentRS R zid zn zm lv cv2 l) b from fun b hb => by
                obtain ⟨h1, h2⟩ := HOw.out.lt b hb
                exact ⟨noRow_sent HP2.out.is (by simp; omega) zid zn zm cv l (fun q hq => by have := HCV.out q hq; omega), noRowR_sent HP2.out.ref (by simp; omega) zid zn zm lv cv2 l (fun q hq => by have := hcv2 q hq; omega)⟩)
              clear hI hC hcv2 d1 d2 d3 d4 hsz6
              have hwr0 : w0.heap.size ≤ wr.heap.size + 1 := by omega
              obtain ⟨bs, hbs⟩ : ∃ x, wr.heap.size + 1 = x := ⟨_, rfl⟩
              rw [hbs] at HOw7 hwr0
              obtain ⟨dd, hdd⟩ : ∃ x, wr.heap.size = x := ⟨_, rfl⟩
              have HDD := Lib.hid hdd
              rw [hdd] at HO7
              clear hbs hdd
              go_wp2_with fail
              go_loopw [12] (fun i wz => ∃ (j : Nat) (xs : List Value), j ≤ l.length ∧ i = .int .i64 j ∧ Hid (Pl w0 s (k + 1) y (sentS S zid zn zm cv l) (sentRS R zid zn zm lv cv2 l) (k + 1) wz) ∧ Hid (OpAt wz dd zk zid zn zm (.slice B l.length cb) (.slice Ba live.length cba) (.slice Br rtt.length cbr)) ∧ Hid (wz.ownsRow bs 49 2 (.slice Ao l.length co) l.length xs)) (fun i _ => 2000001 - (intOf i).toNat)
              case atStart => exact ⟨0, _, by omega, rfl, HF7, HO7, HOw7⟩
              case round =>
                clear HF7 HO7 HOw7
                obtain ⟨j, xs, hj, rfl, HF, HO, HW⟩ := hrel
                have hls := HLS.out
                by_cases hj2 : j < l.length
                · obtain ⟨gb, ob, cp, e, hgb, hgl, hcur, ⟨u1, hu1⟩, ⟨u2, hu2⟩, hfz, hset⟩ := own_put2 HW.out hj2
                  simp only [Value.slice.injEq] at e
                  obtain ⟨rfl, -, rfl⟩ := e
                  have f1 := hfz (ob + j * 2)
                  have f2 := hfz (ob + j * 2 + 1)
                  obtain ⟨n1, n2⟩ := HNR.out gb (by rcases HW.out.2 with ⟨hv, -⟩ | ⟨g', cap', cur, hv, -, hh, -⟩; cases hv; cases hv; rfl)
                  have hCh : Chg (At gb) wr ((wr.setCell ⟨gb, ob + j * 2, .none⟩ (.int .i64 99)).setCell ⟨gb, ob + j * 2 + 1, .none⟩ (.int .i64 98)) := ((Chg.refl _ _).putAt).putAt
                  have HF2 := Lib.hid (show Pl w0 s (k + 1) y (sentS S zid zn zm cv l) (sentRS R zid zn zm lv cv2 l) (k + 1) ((wr.setCell ⟨gb, ob + j * 2, .none⟩ (.int .i64 99)).setCell ⟨gb, ob + j * 2 + 1, .none⟩ (.int .i64 98)) from
                    ⟨by obtain ⟨m, F, V, h⟩ := HF.out.is; exact ⟨m, F, V, h.ownR hcur n1 hCh⟩, HF.out.ref.ownR hcur n2 hCh, HF.out.rel, HF.out.sm, HF.out.chg.trans hCh fun q hq e => by have : q = gb := e; omega⟩)
                  have HO2 := Lib.hid (show OpAt ((wr.setCell ⟨gb, ob + j * 2, .none⟩ (.int .i64 99)).setCell ⟨gb, ob + j * 2 + 1, .none⟩ (.int .i64 98)) dd zk zid zn zm (.slice B l.length cb) (.slice Ba live.length cba) (.slice Br rtt.length cbr) from hCh.keep HO.out (fun e => by
                    obtain ⟨cur, hh⟩ := hcur
                    exact types_nott HO.out hh (by decide) (show dd = gb from e)))
                  have HW2 := Lib.hid (hset (.int .i64 99) (.int .i64 98))
                  clear hfz hset n1 n2 hCh hcur HF HO HW
                  obtain ⟨xs2, hx2⟩ := HW2.out
                  have HX2 := Lib.hid hx2
                  clear hx2 HW2
                  go_wp2_with fail
                  go_roundw
                  case rel => exact ⟨j + 1, xs2, by omega, by go_num, HF2, HO2, HX2⟩
                  case measure => simp [intOf]; omega
                · obtain rfl : j = l.length := by omega
                  go_wp2_with fail
                  go_meet
                  exact ⟨s, _, _, rfl, rfl, HF.out, by rw [HDD.out]; exact HO.out⟩
          · as_aux_lemma =>
            have d4 := HOp.out.all.2.2.2.2.1
            have HOL := Lib.hid (World.ownsRow_lit (base := wr.heap.size + 1) (e := 49) (size := 2) (wr.alloc (.cells #[.int .i64 zk, .int .i64 zid, .int .i64 zn, .int .i64 zm, .slice B l.length cb, .slice Ba live.length cba, .slice Br rtt.length cbr] 71)) #[] 0 (by simp) (by unfold maxLen; omega) rfl)
            rw [show (wr.alloc (.cells #[.int .i64 zk, .int .i64 zid, .int .i64 zn, .int .i64 zm, .slice B l.length cb, .slice Ba live.length cba, .slice Br rtt.length cbr] 71)).heap.size = wr.heap.size + 1 by simp] at HOL
            have hlow := HC0.out.size
            have hsz2 := HP.out.chg.size
            go_upto_region 19 with (fail)
            go_cut [11] (fun v wx => ∃ Ao co, v = Value.slice Ao l.length co ∧ wx.ownsRow (wr.heap.size + 1) 49 2 (.slice Ao l.length co) l.length (flat l) ∧ Chg Nowhere (wr.alloc (.cells #[.int .i64 zk, .int .i64 zid, .int .i64 zn, .int .i64 zm, .slice B l.length cb, .slice Ba live.length cba, .slice Br rtt.length cbr] 71)) wx)
            case first => as_aux_lemma =>
              have hC := Lib.hid ((Chg.refl Nowhere (wr.alloc (.cells #[.int .i64 zk, .int .i64 zid, .int .i64 zn, .int .i64 zm, .slice B l.length cb, .slice Ba live.length cba, .slice Br rtt.length cbr] 71))).alloc (.cells #[] 49))
              cases B with
              | none =>
                obtain rfl := ZNIL.out _ _ rfl
                obtain rfl : l = [] := by
                  cases l with
                  | nil => rfl
                  | cons r l =>
                    obtain ⟨-, A2, c2, e, -, hA2⟩ := ZR.out
                    obtain ⟨g2, o2, e2, -⟩ := hA2 (by simp)
                    rw [e2] at e
                    cases e
                clear ZR ZNIL ZL HLS
                go_wp2_with (at_builtin; refine wpList_append_own_none rfl _ _ 45 rfl (wr.heap.size + 1) 49 ir 2 Try.underlying45 hir _ _ _ rfl HOL.out rfl ?_)
                go_meet
                exact ⟨_, _, rfl, HOL.out, hC.out⟩
              | some ad =>
                have HN := Lib.hid (show ∀ j u, (flat l)[j]? = some u → ((wr.alloc (.cells #[.int .i64 zk, .int .i64 zid, .int .i64 zn, .int .i64 zm, .slice (some ad) l.length cb, .slice Ba live.length cba, .slice Br rtt.length cbr] 71)).alloc (.cells #[] 49)).cell? (ad.add j) = some u from fun j u hj => by
                  have hlt := (List.getElem?_eq_some_iff.1 hj).1
                  have hfl := flat_len l
                  obtain ⟨-, A2, c2, e, -, hA2⟩ := (ZR.out.same (HC0.out.trans' HP2.out.chg)).same hC.out
                  obtain ⟨g2, o2, rfl, hg2, hcell2⟩ := hA2 (by omega)
                  simp only [Value.slice.injEq, Option.some.injEq] at e
                  obtain ⟨rfl, -, -⟩ := e
                  rw [add_mk]
                  exact (hcell2 j hlt).trans hj)
                have hfl := flat_len l
                have hls := HLS.out
                go_wp2_with (at_builtin; refine wpList_append_own _ rfl _ _ 45 rfl (wr.heap.size + 1) 49 ir (.agg #[.int .i64 0, .int .i64 0]) 2 16 Try.underlying45 hir hr0 hr1 hr2 rfl (by decide) (.slice (some ⟨wr.heap.size + 1, 0, .none⟩) 0 0) 0 [] rfl HOL.out ad l.length cb (flat l) rfl hfl HN.out (flat_one' l) (by unfold maxLen; omega) (by omega) (by simp) ?_; intro v' w3 hown' hgrow3 hnil3; rw [Nat.zero_add, List.nil_append] at hown'; obtain ⟨-, Ao, co, rfl, -, -⟩ := Rd.of_owns hown'; have HOw := Lib.hid hown'; have HCw := Lib.hid (hC.out.grown hgrow3 (fun q hq => .inl (by cases hq; simp))); clear hown' hgrow3 hnil3)
                go_meet
                exact ⟨_, _, rfl, HOw.out, HCw.out⟩
            case rest => as_aux_lemma =>
              obtain ⟨Ao, co, rfl, hO, hC⟩ := hcut
              have HOw := Lib.hid hO
              have HCw := Lib.hid hC
              have HP5 := Lib.hid (HP2.out.idle hC)
              have HO5 := Lib.hid (HOp.out.idle hC)
              clear hO hC d4
              obtain ⟨-, d1, d2, d3, d4, -, -⟩ := HO5.out.all
              have hun := HP5.out.sm.under zid
              go_wp2_with fail
              refine (sent_fresh _ _ s _ S HP5.out.is HP5.out.zone zid zn zm ZI.out _ l (Rd.of_owns HOw.out) HLS.out (fun g o n c' e hm => by
                rcases HOw.out.2 with ⟨hv, -⟩ | ⟨g', cap', cur, hv, -, hh, -⟩
                · rw [hv] at e; cases e
                · rw [hv] at e
                  cases e
                  exact cells_other hh (by decide) hm.2) (by omega)).mono ?_
              rintro e w6 ⟨cv, rfl, hI, hC, hcv⟩
              have HI6 := Lib.hid hI
              have HC6 := Lib.hid hC
              have HCV := Lib.hid hcv
              have HR6 := Lib.hid (HP5.out.ref.zone hC)
              have HO6 := Lib.hid (HO5.out.zone hC)
              have HW6 := Lib.hid (chg_zone HP5.out.chg hC)
              have HOw6 := Lib.hid (rng_zone HOw.out hC)
              have hsz6 : _ ≤ w6.heap.size := Chg.size hC
              clear hI hC hcv d1 d2 d3 d4
              obtain ⟨-, d1, d2, d3, d4, -, -⟩ := HO6.out.all
              have hun2 : underR R zid < 100000 := by rw [← HP5.out.rel.under]; omega
              go_wp2_with fail
              refine (sentR_any _ y R HR6.out zid zn zm _ l (ZR.out.same (HC0.out.trans' HW6.out)) HLS.out (fun h0 g' o' n' c' e hm => by
                have := rd_low hlow ZR.out h0 e
                have := hm.1
                omega) ZNIL.out hun2).mono ?_
              rintro e w7 ⟨lv, cv2, rfl, hI, hC, hcv2⟩
              have HF7 := Lib.hid (HP5.out.both HI6.out.more HC6.out hI hC (HP5.out.rel.sent zid zn zm cv lv cv2 l) (HP5.out.sm.sent zid zn zm cv lv cv2 l))
              have HO7 := Lib.hid (HO6.out.refs hC)
              have HOw7 := Lib.hid (rng_ref HOw6.out hC)
              have HNR := Lib.hid (show ∀ b, (Value.slice Ao l.length co).ownBlock = some b → NoRow (sentS S zid zn zm cv l) b ∧ NoRowR (sentRS R zid zn zm lv cv2 l) b from fun b hb => by
                obtain ⟨h1, h2⟩ := HOw.out.lt b hb
                exact ⟨noRow_sent HP2.out.is (by simp; omega) zid zn zm cv l (fun q hq => by have := HCV.out q hq; omega), noRowR_sent HP2.out.ref (by simp; omega) zid zn zm lv cv2 l (fun q hq => by have := hcv2 q hq; omega)⟩)
              clear hI hC hcv2 d1 d2 d3 d4 hsz6
              have hwr0 : w0.heap.size ≤ wr.heap.size + 1 := by omega
              obtain ⟨bs, hbs⟩ : ∃ x, wr.heap.size + 1 = x := ⟨_, rfl⟩
              rw [hbs] at HOw7 hwr0
              obtain ⟨dd, hdd⟩ : ∃ x, wr.heap.size = x := ⟨_, rfl⟩
              have HDD := Lib.hid hdd
              rw [hdd] at HO7
              clear hbs hdd
              go_wp2_with fail
              go_loopw [12] (fun i wz => ∃ (j : Nat) (xs : List Value), j ≤ l.length ∧ i = .int .i64 j ∧ Hid (Pl w0 s (k + 1) y (sentS S zid zn zm cv l) (sentRS R zid zn zm lv cv2 l) (k + 1) wz) ∧ Hid (OpAt wz dd zk zid zn zm (.slice B l.length cb) (.slice Ba live.length cba) (.slice Br rtt.length cbr)) ∧ Hid (wz.ownsRow bs 49 2 (.slice Ao l.length co) l.length xs)) (fun i _ => 2000001 - (intOf i).toNat)
              case atStart => exact ⟨0, _, by omega, rfl, HF7, HO7, HOw7⟩
              case round =>
                clear HF7 HO7 HOw7
                obtain ⟨j, xs, hj, rfl, HF, HO, HW⟩ := hrel
                have hls := HLS.out
                by_cases hj2 : j < l.length
                · obtain ⟨gb, ob, cp, e, hgb, hgl, hcur, ⟨u1, hu1⟩, ⟨u2, hu2⟩, hfz, hset⟩ := own_put2 HW.out hj2
                  simp only [Value.slice.injEq] at e
                  obtain ⟨rfl, -, rfl⟩ := e
                  have f1 := hfz (ob + j * 2)
                  have f2 := hfz (ob + j * 2 + 1)
                  obtain ⟨n1, n2⟩ := HNR.out gb (by rcases HW.out.2 with ⟨hv, -⟩ | ⟨g', cap', cur, hv, -, hh, -⟩; cases hv; cases hv; rfl)
                  have hCh : Chg (At gb) wr ((wr.setCell ⟨gb, ob + j * 2, .none⟩ (.int .i64 99)).setCell ⟨gb, ob + j * 2 + 1, .none⟩ (.int .i64 98)) := ((Chg.refl _ _).putAt).putAt
                  have HF2 := Lib.hid (show Pl w0 s (k + 1) y (sentS S zid zn zm cv l) (sentRS R zid zn zm lv cv2 l) (k + 1) ((wr.setCell ⟨gb, ob + j * 2, .none⟩ (.int .i64 99)).setCell ⟨gb, ob + j * 2 + 1, .none⟩ (.int .i64 98)) from
                    ⟨by obtain ⟨m, F, V, h⟩ := HF.out.is; exact ⟨m, F, V, h.ownR hcur n1 hCh⟩, HF.out.ref.ownR hcur n2 hCh, HF.out.rel, HF.out.sm, HF.out.chg.trans hCh fun q hq e => by have : q = gb := e; omega⟩)
                  have HO2 := Lib.hid (show OpAt ((wr.setCell ⟨gb, ob + j * 2, .none⟩ (.int .i64 99)).setCell ⟨gb, ob + j * 2 + 1, .none⟩ (.int .i64 98)) dd zk zid zn zm (.slice B l.length cb) (.slice Ba live.length cba) (.slice Br rtt.length cbr) from hCh.keep HO.out (fun e => by
                    obtain ⟨cur, hh⟩ := hcur
                    exact types_nott HO.out hh (by decide) (show dd = gb from e)))
                  have HW2 := Lib.hid (hset (.int .i64 99) (.int .i64 98))
                  clear hfz hset n1 n2 hCh hcur HF HO HW
                  obtain ⟨xs2, hx2⟩ := HW2.out
                  have HX2 := Lib.hid hx2
                  clear hx2 HW2
                  go_wp2_with fail
                  go_roundw
                  case rel => exact ⟨j + 1, xs2, by omega, by go_num, HF2, HO2, HX2⟩
                  case measure => simp [intOf]; omega
                · obtain rfl : j = l.length := by omega
                  go_wp2_with fail
                  go_meet
                  exact ⟨s, _, _, rfl, rfl, HF.out, by rw [HDD.out]; exact HO.out⟩
          · as_aux_lemma =>
            obtain ⟨-, d1, d2, d3, d4, -, -⟩ := HOp.out.all
            have hlow := HC0.out.size
            go_wp2_with fail
            refine (got_any _ _ s _ S HP2.out.is HP2.out.zone zid zn zm ZI.out ZN.out _ l ZL.out (ZR.out.same (HC0.out.trans' HP2.out.chg)) (fun h0 g' o' n' c' e hm => by
              have := rd_low hlow ZR.out h0 e
              have := hm.1
              omega)).mono ?_
            rintro e w5 ⟨vg, rfl, r1, hI, hC⟩
            have HI5 := Lib.hid hI
            have HC5 := Lib.hid hC
            have HV5 := Lib.hid r1
            have HR5 := Lib.hid (HP2.out.ref.zone hC)
            have HO5 := Lib.hid (HOp.out.zone hC)
            have HW5 := Lib.hid (chg_zone HP2.out.chg hC)
            obtain ⟨-, d1, d2, d3, d4, -, -⟩ := HO5.out.all
            obtain ⟨tg, htg⟩ : ∃ t, gotT S zid zn zm = t := ⟨_, rfl⟩
            rw [htg]
            obtain ⟨-, Ag, cg, rfl, -, -⟩ := Rd.of_owns r1
            clear r1 hI hC
            go_wp2_with fail
            refine (gotR_any _ y R HR5.out zid zn zm ZN.out _ l ZL.out (ZR.out.same (HC0.out.trans' HW5.out)) (fun g' o' n' c' e h0 hm => by
              have := rd_low hlow ZR.out h0 e
              have := hm.1
              omega)).mono ?_
            rintro e w6 ⟨vh, vl6, rfl, r1, hI, hC⟩
            obtain ⟨e1, e2, e3⟩ := HP2.out.rel.got zid zn l zm vl6
            rw [← e3, htg]
            rw [← e2] at r1
            have HF := Lib.hid (HP2.out.both HI5.out HC5.out hI hC e1 (HP2.out.sm.got zid zn l vl6))
            have HV6 := Lib.hid (rng_ref HV5.out hC)
            have HO6 := Lib.hid (HO5.out.refs hC)
            have HB := Lib.hid r1
            have hm := got_most HP2.out.is HP2.out.sm zid zn l
            obtain ⟨-, Ah, ch, rfl, -, -⟩ := Rd.of_owns r1
            clear r1 hI hC e1 e2 e3 htg
            go_wp2_with fail
            refine (same_any _ _ (gotL S zid zn l) (gotL S zid zn l) _ (Rd.of_owns HV6.out) (Rd.of_owns HB.out) (by omega) (by omega)).mono ?_
            rw [decide_eq_true rfl]
            rintro e w7 ⟨rfl, hC⟩
            have HF7 := Lib.hid ((HF.out.idle hC).more)
            have HO7 := Lib.hid (HO6.out.idle hC)
            clear hC
            have htt : (tg == tg) = true := by simp
            go_wp2_with fail
            go_meet
            exact ⟨s, _, _, rfl, rfl, HF7.out, HO7.out⟩
          · as_aux_lemma =>
            obtain ⟨-, d1, d2, d3, -, -, -⟩ := HOp.out.all
            have HP3 := Lib.hid (HP2.out.idle ((Chg.refl Nowhere _).drew))
            have HO3 := Lib.hid (HOp.out.idle ((Chg.refl Nowhere _).drew))
            have hm := late_most HP2.out.is HP2.out.sm zid zm zn
            have hdl := lt_blk HOp.out
            go_upto_region 31 with (fail)
            go_region_held3 (fun w' => w'.cell? ⟨wr.heap.size, 1, .none⟩ = some (.int .i64 zid) ∧ w'.cell? ⟨wr.heap.size, 2, .none⟩ = some (.int .i64 zn) ∧ w'.cell? ⟨wr.heap.size, 3, .none⟩ = some (.int .i64 zm)) (first | exact k5 | exact k6 | exact k7 | exact k8 | exact k9 | exact k10 | go_keep) (first
              | (go_at_call 49; refine (late_any _ _ s _ S HP3.out.is HP3.out.zone zid zm zn ZI.out).mono ?_; rintro e w5 ⟨v5, rfl, r1, hI, hC⟩; have HI5 := Lib.hid hI; have HC5 := Lib.hid hC; have HV5 := Lib.hid r1; have HR5 := Lib.hid (HP3.out.ref.zone hC); have HO5 := Lib.hid (HO3.out.zone hC); have k5 := show _ ∧ _ ∧ _ from ⟨HO5.out.all.2.1, HO5.out.all.2.2.1, HO5.out.all.2.2.2.1⟩; obtain ⟨-, A5, c5, rfl, -, -⟩ := Rd.of_owns r1; clear r1 hI hC)
              | (go_at_call 57; refine (lateR_any w5 y R HR5.out zid zm zn).mono ?_; rintro e w6 ⟨v6, vl6, rfl, r1, hI, hC⟩; have HF6 := Lib.hid (HP3.out.both HI5.out HC5.out hI hC (HP2.out.rel.late zid zm zn vl6).1 (HP2.out.sm.late zid zm zn vl6)).more; rw [← (HP2.out.rel.late zid zm zn vl6).2] at r1; have HV56 := Lib.hid (rng_ref HV5.out hC); have HV6 := Lib.hid r1; have HO6 := Lib.hid (HO5.out.refs hC); have k6 := show _ ∧ _ ∧ _ from ⟨HO6.out.all.2.1, HO6.out.all.2.2.1, HO6.out.all.2.2.2.1⟩; obtain ⟨-, A6, c6, rfl, -, -⟩ := Rd.of_owns r1; clear r1 hI hC)
              | (go_at_call 53; refine (same_any _ _ (lateL S zid zm zn) (lateL S zid zm zn) w6 (Rd.of_owns HV56.out) (Rd.of_owns HV6.out) (by omega) (by omega)).mono ?_; rw [decide_eq_true rfl]; rintro e w7 ⟨rfl, hC⟩; have HF7 := Lib.hid (HF6.out.idle hC); have HO7 := Lib.hid (HO6.out.idle hC); have k7 := show _ ∧ _ ∧ _ from ⟨HO7.out.all.2.1, HO7.out.all.2.2.1, HO7.out.all.2.2.2.1⟩; clear hC)
              | (go_at_call 57; refine (lateR_any _ y R HP3.out.ref zid zm zn).mono ?_; rintro e w8 ⟨v8, vl8, rfl, r1, hI, hC⟩; have HI8 := Lib.hid hI; have HC8 := Lib.hid hC; rw [← (HP2.out.rel.late zid zm zn vl8).2] at r1; have HV8 := Lib.hid r1; have HS8 := Lib.hid (HP3.out.is.refs hC); have HZ8 := Lib.hid (fun q (hq : w8.heap.size ≤ q) => HP3.out.zone q (Nat.le_trans (Chg.size hC) hq)); have HO8 := Lib.hid (HO3.out.refs hC); have k8 := show _ ∧ _ ∧ _ from ⟨HO8.out.all.2.1, HO8.out.all.2.2.1, HO8.out.all.2.2.2.1⟩; obtain ⟨-, A8, c8, rfl, -, -⟩ := Rd.of_owns r1; clear r1 hI hC)
              | (go_at_call 49; refine (late_any _ _ s _ S HS8.out HZ8.out zid zm zn ZI.out).mono ?_; rintro e w9 ⟨v9, rfl, r1, hI, hC⟩; have HF9 := Lib.hid (HP3.out.both' HI8.out HC8.out hI hC (HP2.out.rel.late zid zm zn vl8).1 (HP2.out.sm.late zid zm zn vl8)).more; have HV9 := Lib.hid r1; have HV89 := Lib.hid (rng_zone HV8.out hC); have HO9 := Lib.hid (HO8.out.zone hC); have k9 := show _ ∧ _ ∧ _ from ⟨HO9.out.all.2.1, HO9.out.all.2.2.1, HO9.out.all.2.2.2.1⟩; obtain ⟨-, A9, c9, rfl, -, -⟩ := Rd.of_owns r1; clear r1 hI hC)
              | (go_at_call 53; refine (same_any _ _ (lateL S zid zm zn) (lateL S zid zm zn) w9 (Rd.of_owns HV9.out) (Rd.of_owns HV89.out) (by omega) (by omega)).mono ?_; rw [decide_eq_true rfl]; rintro e w10 ⟨rfl, hC⟩; have HF10 := Lib.hid (HF9.out.idle hC); have HO10 := Lib.hid (HO9.out.idle hC); have k10 := show _ ∧ _ ∧ _ from ⟨HO10.out.all.2.1, HO10.out.all.2.2.1, HO10.out.all.2.2.2.1⟩; clear hC))
            all_goals
              go_wp2_with fail
              go_meet
              first
              | exact ⟨s, _, _, rfl, rfl, HF7.out, HO7.out⟩
              | exact ⟨s, _, _, rfl, rfl, HF10.out, HO10.out⟩
          · as_aux_lemma =>
            obtain ⟨-, -, -, -, -, d5, d6⟩ := HOp.out.all
            obtain ⟨b, hb⟩ : ∃ b, (pkTo S live rtt live.length).1 = b := ⟨_, rfl⟩
            have hb2 := (HP2.out.rel.pk live rtt live.length).1
            rw [hb] at hb2
            obtain ⟨x, hx⟩ : ∃ x, (if b < 0 then 0 else b) = x := ⟨_, rfl⟩
            obtain ⟨dd, hdd⟩ : ∃ x, decide (0 ≤ b) = x := ⟨_, rfl⟩
            have HB := Lib.hid hb
            have HB2 := Lib.hid hb2
            have HX := Lib.hid hx
            have HD := Lib.hid hdd
            clear hb hb2 hx hdd
            go_wp2_with fail
            refine (pick_any _ _ s _ S HP2.out.is _ _ live rtt (ZA.out.same (HC0.out.trans' HP2.out.chg)) (ZB.out.same (HC0.out.trans' HP2.out.chg)) ZIA.out ZLA.out ZLB.out).mono ?_
            rintro e w5 ⟨h1, hI, hC⟩
            rw [HB.out, HX.out, HD.out] at h1
            rw [HB.out] at hI
            subst h1
            have HI5 := Lib.hid hI
            have HC5 := Lib.hid hC
            have HR5 := Lib.hid (HP2.out.ref.zone hC)
            have HO5 := Lib.hid (HOp.out.zone hC)
            have HW5 := Lib.hid (chg_zone HP2.out.chg hC)
            obtain ⟨-, -, -, -, -, d5, d6⟩ := HO5.out.all
            clear hI hC
            go_wp2_with fail
            refine (pickR_any _ y R HR5.out _ _ live rtt (ZA.out.same (HC0.out.trans' HW5.out)) (ZB.out.same (HC0.out.trans' HW5.out)) ZLA.out ZLB.out).mono ?_
            rintro e w6 ⟨h1, hI, hC⟩
            rw [← HB2.out, HX.out, HD.out] at h1
            rw [← HB2.out] at hI
            subst h1
            have HF := Lib.hid (HP2.out.both HI5.out HC5.out hI hC (HP2.out.rel.pick b) (HP2.out.sm.pick b)).more
            have HO6 := Lib.hid (HO5.out.refs hC)
            clear hI hC
            have hxx : (x == x) = true := by simp
            have hyy : (dd == dd) = true := by simp
            go_wp2_with fail
            go_meet
            exact ⟨s, _, _, rfl, rfl, HF.out, HO6.out⟩
          · as_aux_lemma =>
            obtain ⟨h0, hh0⟩ : ∃ x, (wr.alloc (.cells #[.int .i64 zk, .int .i64 zid, .int .i64 zn, .int .i64 zm, .slice B l.length cb, .slice Ba live.length cba, .slice Br rtt.length cbr] 71)).heap.size = x := ⟨_, rfl⟩
            have HH0 := Lib.hid hh0
            have hw0 := HP2.out.chg.size
            rw [hh0] at hw0
            clear hh0
            go_wp2_with fail
            refine (cloneS_any _ _ s _ S HP2.out.is (by omega)).mono ?_
            rintro e w5 ⟨c, rfl, hI, hC⟩
            rw [HH0.out] at hI
            have hs5 := hC.size
            rw [HH0.out] at hs5
            have HN5 := Lib.hid (hI.zmono (Z' := fun i => h0 ≤ i ∧ i < w5.heap.size) fun i hi hz => ⟨hz, hi⟩)
            have HS5 := Lib.hid ((HP2.out.is.zmono (Z' := fun i => w0.heap.size ≤ i ∧ (i < h0 ∨ w5.heap.size ≤ i)) fun i hi hz => ⟨hz, .inl (by rw [HH0.out] at hi; exact hi)⟩).idle hC)
            have HR5 := Lib.hid (HP2.out.ref.idle hC)
            have HO5 := Lib.hid (HOp.out.idle hC)
            have HW5 := Lib.hid (HP2.out.chg.trans' hC)
            have hdis : ∀ i, (h0 ≤ i ∧ i < w5.heap.size) → ¬ (w0.heap.size ≤ i ∧ (i < h0 ∨ w5.heap.size ≤ i)) := fun i h1 h2 => by omega
            have HDis := Lib.hid hdis
            have hsm1 := (HP2.out.sm.open 77).under 1
            have hw5 := HW5.out.size
            clear hI hC hdis
            go_wp2_with fail
            refine (openS_any _ _ s _ S HS5.out (fun i hi => ⟨by omega, .inr hi⟩) (by omega) 77 (inI (by omega))).mono ?_
            rintro e w6 ⟨rfl, hI, hC⟩
            have HS6 := Lib.hid hI
            have HN6 := Lib.hid (HN5.out.apart hC HDis.out)
            have HR6 := Lib.hid (HR5.out.zone hC)
            have HO6 := Lib.hid (HO5.out.zone hC)
            have HW6 := Lib.hid (show Chg Nowhere w0 w6 from HW5.out.trans hC fun i hi2 e => by have := e.1.1; omega)
            have hs6 : w5.heap.size ≤ w6.heap.size := Chg.size hC
            clear hI hC
            go_wp2_with fail
            refine (sent_any _ _ s _ _ HS6.out (fun i hi => ⟨by omega, .inr (by omega)⟩) 1 1099511627776 0 (inI (by omega)) _ [] (Rd.nil _ 2) (by simp) (fun g o n c' e hm => by cases e) (by omega)).mono ?_
            rintro e w7 ⟨cv, rfl, hI, hC⟩
            have HS7 := Lib.hid hI
            have HN7 := Lib.hid (HN6.out.apart hC HDis.out)
            have HR7 := Lib.hid (HR6.out.zone hC)
            have HO7 := Lib.hid (HO6.out.zone hC)
            have HW7 := Lib.hid (show Chg Nowhere w0 w7 from HW6.out.trans hC fun i hi2 e => by have := e.1.1; omega)
            clear hI hC
            go_wp2_with fail
            refine (closeS_any _ _ s _ _ HS7.out 0 (inI (by omega))).mono ?_
            rintro e w8 ⟨v8, rfl, r1, hI, hC⟩
            have HN8 := Lib.hid (HN7.out.apart hC HDis.out)
            have HR8 := Lib.hid (HR7.out.zone hC)
            have HO8 := Lib.hid (HO7.out.zone hC)
            have HW8 := Lib.hid (show Chg Nowhere w0 w8 from HW7.out.trans hC fun i hi2 e => by have := e.1.1; omega)
            have HF := Lib.hid (show Pl w0 c k y S R k w8 from ⟨HN8.out.zmono fun i hi hz => by omega, HR8.out, HP2.out.rel, HP2.out.sm, HW8.out⟩).more
            clear hI hC r1
            go_wp2_with fail
            go_meet
            exact ⟨c, _, _, rfl, rfl, HF.out, HO8.out⟩
        case rest => as_aux_lemma =>
          obtain ⟨s', S', R', rfl, rfl, hP, hO⟩ := hcut
          clear c0 c1 c2 c3 c4 c5 c6 HP hq
          have HP3 := Lib.hid (hP.idle ((Chg.refl Nowhere _).drew))
          have HPN := Lib.hid hP
          have HO3 := Lib.hid (hO.idle ((Chg.refl Nowhere _).drew))
          have d1 := hO.all.2.1
          have hdl := lt_blk hO
          obtain ⟨x, hx⟩ : ∃ x, window S' zid = x := ⟨_, rfl⟩
          obtain ⟨u, hu⟩ : ∃ x, under S' zid = x := ⟨_, rfl⟩
          have HX := Lib.hid hx
          have HU := Lib.hid hu
          have HX2 := Lib.hid ((hP.rel.window zid).symm.trans hx)
          have HU2 := Lib.hid ((hP.rel.under zid).symm.trans hu)
          clear hx hu hP hO
          go_upto_region 44 with (fail)
          go_region_held3 (fun w' => w'.cell? ⟨wr.heap.size, 1, .none⟩ = some (.int .i64 zid)) (first | exact k6 | exact k5 | go_keep) (first
            | (go_at_call 48; refine (windowS_any _ _ s' _ S' HP3.out.is zid ZI.out).mono ?_; rw [HX.out]; rintro e w5 ⟨rfl, hC⟩; have HP5 := Lib.hid (HP3.out.idle hC); have HO5 := Lib.hid (HO3.out.idle hC); have k5 := HO5.out.all.2.1; clear hC)
            | (go_at_call 60; refine (windowR_any w5 y R' HP5.out.ref zid).mono ?_; rw [HX2.out]; rintro e wq ⟨rfl, rfl⟩)
            | (go_at_call 60; refine (windowR_any _ y R' HP3.out.ref zid).mono ?_; rw [HX2.out]; rintro e wq ⟨rfl, rfl⟩)
            | (go_at_call 47; refine (underS_any _ _ s' _ S' HP5.out.is zid ZI.out).mono ?_; rw [HU.out]; rintro e w6 ⟨rfl, hC⟩; have HP6 := Lib.hid (HP5.out.idle hC); have HO6 := Lib.hid (HO5.out.idle hC); have k6 := HO6.out.all.2.1; clear hC)
            | (go_at_call 61; refine (underR_any w6 y R' HP6.out.ref zid).mono ?_; rw [HU2.out]; rintro e wq ⟨rfl, rfl⟩)
            | (go_at_call 61; refine (underR_any _ y R' HP5.out.ref zid).mono ?_; rw [HU2.out]; rintro e wq ⟨rfl, rfl⟩))
          all_goals
            go_wp2_with fail
            go_roundw
            case rel => exact ⟨k + 1, s', S', R', by omega, by omega, rfl, by go_num, HP6⟩
            case measure => simp [intOf]; omega
      · go_wp2_with fail
        go_ret
        exact ⟨rfl, HC0.out.trans' HP.out.chg⟩
    · go_wp2_with fail
      go_ret
      exact ⟨rfl, HC0.out.trans' HP.out.chg⟩
end Go.Proofs.Ytiijnhgafadokaa
