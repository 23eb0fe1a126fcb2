/-
  InboxCounts: the walk.
-/
import Derived.Test.YtlkbfacdaelbfaaInLa
namespace Go.Proofs.Ytlkbfacdaelbfaa
open Go.RowKit Ae
set_option linter.unusedVariables false
set_option linter.unusedSimpArgs false

set_option maxHeartbeats 8000000 in
set_option maxRecDepth 100000 in
theorem inboxCounts_walk (s0 : Option Addr) (cap : Nat) (l : List Op19) (w : World) (hl : Ops19 w s0 cap l) :
    Calls Try.prog 8 #[.slice s0 l.length cap] w (Gives w (.bool true)) := by
  have HL := Lib.hid hl
  have hb1 : (l.length : Int) ≤ 9223372036854775807 := by have := hl.fits; have := hl.small; unfold maxLen at this; omega
  obtain ⟨N, hN⟩ : ∃ N, N = l.length := ⟨_, rfl⟩
  rw [← hN]
  rw [← hN] at hb1
  have HN := Lib.hid hN
  clear hl hN
  go_enter Try.func8, Try.ntmps8
  go_upto_region 5 with (first
    | (go_at_call 35; refine (InS.new_ w _ H1.out 500 500 (by decide)).mono ?_; rintro e w2 ⟨o, F, rfl, h1, -, -⟩; have HX0 := Lib.hid h1; clear h1)
    | (go_at_call 34; refine (shown19_any w).mono ?_; rintro e w1 ⟨rfl, h1⟩; have H1 := Lib.hid h1; clear h1))
  go_wp2_with fail
  go_loopw [5, 6, 7] (fun tk rd i wr => ∃ (k D : Nat) (X : Int) (x : In) (F : Nat → Prop), i = .int .i64 (k : Int) ∧ tk = .int .i64 X ∧ rd = .int .i64 (D : Int) ∧ k ≤ 60 ∧ k ≤ N ∧ Hid (X = Ra.total x.L) ∧ Hid (D = x.done) ∧ Hid (InS w F wr o x) ∧ Hid (0 ≤ X ∧ X ≤ 1000 * (k : Int) ∧ (D : Int) ≤ X)) (fun _ _ i _ => 60 - (intOf i).toNat)
  case atStart => exact ⟨0, 0, 0, _, F, rfl, rfl, rfl, by omega, by omega, Lib.hid rfl, Lib.hid rfl, HX0, Lib.hid (by decide)⟩
  case round =>
    obtain ⟨k, D, X, x, F, rfl, rfl, rfl, hk, hkN, HXT, HDD, HX, HBD⟩ := hrel
    by_cases hk1 : k < N
    · have hd : decide ((k : Int) < (N : Int)) = true := decide_eq_true (by omega)
      have hk3 : (k : Int) < (N : Int) := by omega
      by_cases hk2 : k < 60
      · have hd2 : decide ((k : Int) < 60) = true := decide_eq_true (by omega)
        have hk4 : (k : Int) < 60 := by omega
        obtain ⟨g, og, rfl, hg, hx⟩ := HL.out.cells (by rw [← HN.out]; omega)
        obtain ⟨⟨z0, z1, vb, lb⟩, hz⟩ : ∃ z, l[k]? = some z := ⟨_, List.getElem?_eq_getElem (by rw [← HN.out]; omega)⟩
        have HZ := Lib.hid (HL.out.ok _ (List.mem_of_getElem? hz))
        obtain ⟨-, B, cb, hvb, hncb, -⟩ := HZ.out.rd
        simp only at hvb hncb
        subst hvb
        have ZK := Lib.hid HZ.out.k
        have hlb := HZ.out.len
        have c0 : wr.cell? ⟨g, og + k * 3, none⟩ = some (.int .i64 z0) := (HX.out.chg.cell (p := ⟨g, og + k * 3, none⟩) hg (not_nowhere _)).trans (hx _ _ hz).1
        have c1 : wr.cell? ⟨g, og + k * 3 + 1, none⟩ = some (.int .i64 z1) := (HX.out.chg.cell (p := ⟨g, og + k * 3 + 1, none⟩) hg (not_nowhere _)).trans (hx _ _ hz).2.1
        obtain ⟨n, hn⟩ : ∃ n, n = lb.length := ⟨_, rfl⟩
        have HNL := Lib.hid hn
        have c2 : wr.cell? ⟨g, og + k * 3 + 2, none⟩ = some (.slice B n cb) := by rw [hn]; exact (HX.out.chg.cell (p := ⟨g, og + k * 3 + 2, none⟩) hg (not_nowhere _)).trans (hx _ _ hz).2.2
        simp only at hlb
        rw [← hn] at hncb hlb
        have hnz : (n : Int) ≤ 9223372036854775807 := by omega
        clear hx hz hn hlb
        go_upto_region 11 with fail
        have HX5 := Lib.hid (HX.out.idle ((Chg.refl Nowhere wr).alloc (Obj.cells #[.int .i64 z0, .int .i64 z1, .slice B n cb] 55)))
        have HV5 := Lib.hid (show Opv _ _ z0 z1 (.slice B n cb) from alloc_new wr (Obj.cells #[.int .i64 z0, .int .i64 z1, .slice B n cb] 55))
        obtain ⟨zb, hzb⟩ : ∃ x, x = wr.heap.size := ⟨_, rfl⟩
        have HZF := Lib.hid (show ¬ F zb from fun h => by have := HX.out.hi _ h; omega)
        rw [← hzb] at HV5 ⊢
        generalize wr.alloc (Obj.cells #[.int .i64 z0, .int .i64 z1, .slice B n cb] 55) = w5 at HX5 HV5 ⊢
        clear hzb HX c0 c1 c2
        have e0 : w5.cell? ⟨zb, 0, none⟩ = some (.int .i64 z0) := by rw [cell_blk HV5.out]; rfl
        have HDB := Lib.hid (show x.done ≤ 800000 by have := HBD.out; have := HDD.out; omega)
        go_cut [36, 37] (fun u t wx => (∃ c : Int, u = .int .i64 c) ∧ ∃ q : Bool, t = .bool q ∧ wx = w5)
        case first =>
          go_wp2_with (go_at_call 36; refine (kind19_any z0 4 _ ZK.out (by omega) (by omega)).mono ?_; rintro e w6 ⟨q, hq, rfl, rfl⟩)
          all_goals
            go_meet
            exact ⟨⟨_, rfl⟩, _, rfl, rfl⟩
        case rest =>
          obtain ⟨⟨cq, rfl⟩, q, rfl, rfl⟩ := hcut
          clear e0
          cases q with
          | true =>
            have e1 : wc.cell? ⟨zb, 1, none⟩ = some (.int .i64 z1) := by rw [cell_blk HV5.out]; rfl
            obtain ⟨y, hy⟩ := next_ex HX5.out.ok.good (x.done : Int)
            have hyh := HX5.out.ok.here hy
            rw [← HDD.out] at hyh
            obtain ⟨b, hb⟩ : ∃ b : Nat, y - (D : Int) = (b : Int) := ⟨(y - D).toNat, by omega⟩
            have hbb : b ≤ 1048576 := by have := HX5.out.ok.len; have := HX5.out.ok.s2; omega
            have HY := Lib.hid hy
            go_upto_region 13 with (go_at_call 43; refine (HX5.out.here HDB.out HY.out).mono ?_; rintro e w6 ⟨rfl, q⟩; have HX6 := Lib.hid (HX5.out.idle q); have HV6 := Lib.hid (show Opv w6 zb z0 z1 (.slice B n cb) from q.same HV5.out); clear q)
            have f1 : w6.cell? ⟨zb, 1, none⟩ = some (.int .i64 z1) := by rw [cell_blk HV6.out]; rfl
            go_upto_region 14 with (go_at_call 38; refine (HX6.out.read HDB.out z1).mono ?_; rintro e wv ⟨v9, y9, m9, F2, rfl, r0, r1, r2, r3, -, -, r4⟩; obtain ⟨A9, c9, rfl⟩ := ownR_shape r2.1; have hmb := (HX6.out.ok.here r0); have hml : (x.bs.take m9).length = m9 := List.length_take_of_le (by omega); rw [hml]; have HM9 := Lib.hid (show (m9 : Int) = min (b : Int) (max z1 0) by have e := r0.only HY.out; rw [e] at r1; have := HDD.out; omega); obtain ⟨x2, hx2⟩ : (∃ x2, x2 = x.read m9) := ⟨_, rfl⟩; rw [← hx2] at r3; have HX2 := Lib.hid r3; have HE := Lib.hid hx2; have HV7 := Lib.hid (show Opv wv zb z0 z1 (.slice B n cb) from r4.keep HV6.out (HZF.out)); clear r0 r1 r2 r3 r4 hx2 hmb hml)
            have g1 : wv.cell? ⟨zb, 1, none⟩ = some (.int .i64 z1) := by rw [cell_blk HV7.out]; rfl
            clear e1 f1
            obtain ⟨D2, hD2⟩ : ∃ D2 : Nat, (D : Int) + (m9 : Int) = (D2 : Int) := ⟨D + m9, by omega⟩
            have HD2 := Lib.hid (show D2 = x2.done by rw [HE.out]; show D2 = x.done + m9; have := HDD.out; omega)
            obtain ⟨U, hU⟩ : ∃ U, U = X := ⟨_, rfl⟩
            have HU := Lib.hid (show U = Ra.total x2.L by rw [hU, HE.out]; exact HXT.out)
            have HB2 := Lib.hid (show 0 ≤ U ∧ U ≤ 1000 * ((k : Int) + 1) ∧ (D2 : Int) ≤ U by
              have h1 := HBD.out
              have h3 := HX2.out.ok.held_le
              rw [← HU.out, ← HD2.out] at h3
              omega)
            subst hU
            clear hyh hy
            go_cut [53] (fun t wx => t = .bool false ∧ wx = wv)
            case first =>
              have hbw : IntKind.i64.wrap (b : Int) = (b : Int) := by rw [IntKind.wrap_i64]; omega
              rcases (by omega : (b : Int) < z1 ∨ ¬ ((b : Int) < z1)) with h0 | h0
              · have E := Lib.hid (show (m9 : Int) = (b : Int) by have := HM9.out; omega)
                rcases (by omega : (0 : Int) < (b : Int) ∨ ¬ ((0 : Int) < (b : Int))) with h1 | h1
                · obtain rfl : m9 = b := by have := E.out; omega
                  go_wp2_with fail
                  go_meet
                  exact ⟨by simp, rfl⟩
                · obtain rfl : b = 0 := by omega
                  obtain rfl : m9 = 0 := by have := E.out; omega
                  go_wp2_with fail
                  go_meet
                  exact ⟨by simp, rfl⟩
              · rcases (by omega : (0 : Int) < z1 ∨ ¬ ((0 : Int) < z1)) with h1 | h1
                · obtain rfl : z1 = (m9 : Int) := by have := HM9.out; omega
                  go_wp2_with fail
                  go_meet
                  exact ⟨by simp, rfl⟩
                · obtain rfl : m9 = 0 := by have := HM9.out; omega
                  go_wp2_with fail
                  go_meet
                  exact ⟨by simp, rfl⟩
            case rest =>
              obtain ⟨rfl, rfl⟩ := hcut
              clear g1
              have hXb : 0 ≤ U ∧ U ≤ 100000 := by have := HB2.out; omega
              obtain ⟨T, hUT⟩ : ∃ T : Int, (D2 : Int) + T = U := ⟨U - D2, by omega⟩
              have hdb : x2.done ≤ 800000 := by have := HB2.out; have := HD2.out; omega
              have HQHeld := Lib.hid (show ∀ w', Chg Nowhere wc w' → Calls Try.prog 39 #[.pointer (some ⟨o, 0, none⟩)] w' (Gives w' (.int .i64 T)) from fun w' hc => by
                have := (HX2.out.idle hc).held hdb
                rwa [← HU.out, ← HD2.out, show U - (D2 : Int) = T by omega] at this)
              have HQDone := Lib.hid (show ∀ w', Chg Nowhere wc w' → Calls Try.prog 40 #[.pointer (some ⟨o, 0, none⟩)] w' (Gives w' (.int .i64 (D2 : Int))) from fun w' hc => by rw [HD2.out]; exact (HX2.out.idle hc).done)
              have hDb : D2 ≤ 800000 := by have := HB2.out; omega
              have hTb : 0 ≤ T ∧ T ≤ 2000000 := by have := HB2.out; omega
              have HC0 := Lib.hid (Chg.refl Nowhere wc)
              clear hdb
              go_upto_region 22 with (first
                | (go_at_call 40; refine (HQDone.out _ HC1.out).mono ?_; rintro e v2 ⟨rfl, qc⟩; have HC2 := Lib.hid (HC1.out.then_none qc); clear qc)
                | (go_at_call 39; refine (HQHeld.out _ HC0.out).mono ?_; rintro e v1 ⟨rfl, qc⟩; have HC1 := Lib.hid (HC0.out.then_none qc); clear qc))
              go_wp2_with fail
              go_roundw
              case rel => exact ⟨k + 1, D2, U, x2, F2, by go_num, rfl, rfl, by omega, by omega, HU, HD2, Lib.hid (HX2.out.idle HC2.out), Lib.hid (by have := HB2.out; omega)⟩
              case measure => simp [intOf]; omega
          | false =>
            by_cases hn1 : 1000 < n
            · have hni : (1000 : Int) < (n : Int) := by omega
              have hnd : decide ((1000 : Int) < (n : Int)) = true := decide_eq_true hni
              have HLN := Lib.hid (show (lb.take 1000).length = 1000 from List.length_take_of_le (by rw [← HNL.out]; omega))
              have HRB := Lib.hid (show ∀ w', Chg F wc w' → RdB w' (.slice B 1000 cb) (lb.take 1000) from fun w' hc => by
                have := (HZ.out.rd.same (HX5.out.old hc))
                exact by rw [← HNL.out] at this; exact this.takeS (by rw [← HNL.out]; omega))
              have HBY := Lib.hid (show Byt (lb.take 1000) from HZ.out.byt.take 1000)
              have hll : ((lb.take 1000)).length ≤ 1000000 := by rw [HLN.out]; decide
              have e1 : wc.cell? ⟨zb, 1, none⟩ = some (.int .i64 z1) := by rw [cell_blk HV5.out]; rfl
              have e2 : wc.cell? ⟨zb, 2, none⟩ = some (.slice B n cb) := by rw [cell_blk HV5.out]; rfl
              have hXb : 0 ≤ X ∧ X ≤ 100000 := by have := HBD.out; omega
              have hcb : 1000 ≤ cb := by omega
              have hcbi : (1000 : Int) ≤ (cb : Int) := by omega
              go_upto_region 21 with (go_at_call 37; refine (HX5.out.take HDB.out z1 _ _ HRB.out HBY.out hll).mono ?_; rintro e wv ⟨x2, F2, rfl, q1, q2, -, -⟩; have HX2 := Lib.hid q2; have hpt := (q1.told HX5.out.ok); rw [show ((lb.take 1000)).length = 1000 from HLN.out] at hpt; have HPD := Lib.hid q1.done; obtain ⟨U, hU⟩ : (∃ U : Int, U = Ra.total x2.L) := ⟨_, rfl⟩; obtain ⟨r, hr⟩ : (∃ r : Int, r = Ra.total x2.L - Ra.total x.L) := ⟨_, rfl⟩; rw [← hr] at hpt ⊢; have hXr : X + r = U := (by rw [hU, hr, HXT.out]; omega); have HU := Lib.hid hU; have hUb : 0 ≤ U ∧ U ≤ 200000 := (by omega); clear q1 q2 hU hr)
              obtain ⟨D2, hD2⟩ : ∃ D2, D2 = D := ⟨_, rfl⟩
              have HD2 := Lib.hid (show D2 = x2.done by rw [HPD.out, hD2, HDD.out])
              have HB2 := Lib.hid (show 0 ≤ U ∧ U ≤ 1000 * ((k : Int) + 1) ∧ (D2 : Int) ≤ U by
                have h1 := HBD.out
                have h4 : (1000 : Nat) ≤ 1000 := by omega
                omega)
              subst hD2
              clear e1 e2 hll hXr hpt hXb
              obtain ⟨T, hUT⟩ : ∃ T : Int, (D2 : Int) + T = U := ⟨U - D2, by omega⟩
              have hdb : x2.done ≤ 800000 := by have := HB2.out; have := HD2.out; omega
              have HQHeld := Lib.hid (show ∀ w', Chg Nowhere wv w' → Calls Try.prog 39 #[.pointer (some ⟨o, 0, none⟩)] w' (Gives w' (.int .i64 T)) from fun w' hc => by
                have := (HX2.out.idle hc).held hdb
                rwa [← HU.out, ← HD2.out, show U - (D2 : Int) = T by omega] at this)
              have HQDone := Lib.hid (show ∀ w', Chg Nowhere wv w' → Calls Try.prog 40 #[.pointer (some ⟨o, 0, none⟩)] w' (Gives w' (.int .i64 (D2 : Int))) from fun w' hc => by rw [HD2.out]; exact (HX2.out.idle hc).done)
              have hDb : D2 ≤ 800000 := by have := HB2.out; omega
              have hTb : 0 ≤ T ∧ T ≤ 2000000 := by have := HB2.out; omega
              have HC0 := Lib.hid (Chg.refl Nowhere wv)
              clear hdb
              go_upto_region 22 with (first
                | (go_at_call 40; refine (HQDone.out _ HC1.out).mono ?_; rintro e v2 ⟨rfl, qc⟩; have HC2 := Lib.hid (HC1.out.then_none qc); clear qc)
                | (go_at_call 39; refine (HQHeld.out _ HC0.out).mono ?_; rintro e v1 ⟨rfl, qc⟩; have HC1 := Lib.hid (HC0.out.then_none qc); clear qc))
              go_wp2_with fail
              go_roundw
              case rel => exact ⟨k + 1, D2, U, x2, F2, by go_num, rfl, rfl, by omega, by omega, HU, HD2, Lib.hid (HX2.out.idle HC2.out), Lib.hid (by have := HB2.out; omega)⟩
              case measure => simp [intOf]; omega
            · have hni : ¬ ((1000 : Int) < (n : Int)) := by omega
              have hnd : decide ((1000 : Int) < (n : Int)) = false := decide_eq_false hni
              have HLN := Lib.hid (show lb.length = n from HNL.out.symm)
              have HRB := Lib.hid (show ∀ w', Chg F wc w' → RdB w' (.slice B n cb) lb from fun w' hc => by
                have := (HZ.out.rd.same (HX5.out.old hc))
                exact by rw [← HNL.out] at this; exact this)
              have HBY := Lib.hid (show Byt lb from HZ.out.byt)
              have hll : (lb).length ≤ 1000000 := by rw [HLN.out]; omega
              have e1 : wc.cell? ⟨zb, 1, none⟩ = some (.int .i64 z1) := by rw [cell_blk HV5.out]; rfl
              have e2 : wc.cell? ⟨zb, 2, none⟩ = some (.slice B n cb) := by rw [cell_blk HV5.out]; rfl
              have hXb : 0 ≤ X ∧ X ≤ 100000 := by have := HBD.out; omega
              have hz0 : 0 = 0 := rfl
              go_upto_region 21 with (go_at_call 37; refine (HX5.out.take HDB.out z1 _ _ HRB.out HBY.out hll).mono ?_; rintro e wv ⟨x2, F2, rfl, q1, q2, -, -⟩; have HX2 := Lib.hid q2; have hpt := (q1.told HX5.out.ok); rw [show (lb).length = n from HLN.out] at hpt; have HPD := Lib.hid q1.done; obtain ⟨U, hU⟩ : (∃ U : Int, U = Ra.total x2.L) := ⟨_, rfl⟩; obtain ⟨r, hr⟩ : (∃ r : Int, r = Ra.total x2.L - Ra.total x.L) := ⟨_, rfl⟩; rw [← hr] at hpt ⊢; have hXr : X + r = U := (by rw [hU, hr, HXT.out]; omega); have HU := Lib.hid hU; have hUb : 0 ≤ U ∧ U ≤ 200000 := (by omega); clear q1 q2 hU hr)
              obtain ⟨D2, hD2⟩ : ∃ D2, D2 = D := ⟨_, rfl⟩
              have HD2 := Lib.hid (show D2 = x2.done by rw [HPD.out, hD2, HDD.out])
              have HB2 := Lib.hid (show 0 ≤ U ∧ U ≤ 1000 * ((k : Int) + 1) ∧ (D2 : Int) ≤ U by
                have h1 := HBD.out
                have h4 : (n : Nat) ≤ 1000 := by omega
                omega)
              subst hD2
              clear e1 e2 hll hXr hpt hXb
              obtain ⟨T, hUT⟩ : ∃ T : Int, (D2 : Int) + T = U := ⟨U - D2, by omega⟩
              have hdb : x2.done ≤ 800000 := by have := HB2.out; have := HD2.out; omega
              have HQHeld := Lib.hid (show ∀ w', Chg Nowhere wv w' → Calls Try.prog 39 #[.pointer (some ⟨o, 0, none⟩)] w' (Gives w' (.int .i64 T)) from fun w' hc => by
                have := (HX2.out.idle hc).held hdb
                rwa [← HU.out, ← HD2.out, show U - (D2 : Int) = T by omega] at this)
              have HQDone := Lib.hid (show ∀ w', Chg Nowhere wv w' → Calls Try.prog 40 #[.pointer (some ⟨o, 0, none⟩)] w' (Gives w' (.int .i64 (D2 : Int))) from fun w' hc => by rw [HD2.out]; exact (HX2.out.idle hc).done)
              have hDb : D2 ≤ 800000 := by have := HB2.out; omega
              have hTb : 0 ≤ T ∧ T ≤ 2000000 := by have := HB2.out; omega
              have HC0 := Lib.hid (Chg.refl Nowhere wv)
              clear hdb
              go_upto_region 22 with (first
                | (go_at_call 40; refine (HQDone.out _ HC1.out).mono ?_; rintro e v2 ⟨rfl, qc⟩; have HC2 := Lib.hid (HC1.out.then_none qc); clear qc)
                | (go_at_call 39; refine (HQHeld.out _ HC0.out).mono ?_; rintro e v1 ⟨rfl, qc⟩; have HC1 := Lib.hid (HC0.out.then_none qc); clear qc))
              go_wp2_with fail
              go_roundw
              case rel => exact ⟨k + 1, D2, U, x2, F2, by go_num, rfl, rfl, by omega, by omega, HU, HD2, Lib.hid (HX2.out.idle HC2.out), Lib.hid (by have := HB2.out; omega)⟩
              case measure => simp [intOf]; omega
      · have hd2 : decide ((k : Int) < 60) = false := decide_eq_false (by omega)
        have hk4 : ¬ ((k : Int) < 60) := by omega
        go_wp2_with fail
        go_ret
        exact ⟨rfl, HX.out.chg⟩
    · have hd : decide ((k : Int) < (N : Int)) = false := decide_eq_false (by omega)
      have hk3 : ¬ ((k : Int) < (N : Int)) := by omega
      go_wp2_with fail
      go_ret
      exact ⟨rfl, HX.out.chg⟩
theorem inboxCounts_walk' (s : Option Addr) (cap : Nat) (w : World) (zs : List {z : Op19 // Op19Ok w z}) (hle : zs.length ≤ cap) (hcap : cap ≤ maxLen)
    (hz : 0 < zs.length → ∃ g o, s = some ⟨g, o, none⟩ ∧ g < w.heap.size ∧ ∀ (i : Nat) z, zs[i]? = some z → ∀ j u, (op19R w z)[j]? = some u → w.cell? ⟨g, o + (i * 3 + j), none⟩ = some u) :
    Calls Try.prog 8 #[.slice s zs.length cap] w (Gives w (.bool true)) := by
  have := inboxCounts_walk s cap (zs.map (·.1)) w (ops19_open hle hcap hz)
  rw [List.length_map] at this
  exact this
end Go.Proofs.Ytlkbfacdaelbfaa
