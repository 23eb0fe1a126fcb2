/-
  InboxBounds: the walk.
-/
import Derived.Test.YtlkbfacdaelbfaaInO
namespace Go.Proofs.Ytlkbfacdaelbfaa
open Go.RowKit Ae
set_option linter.unusedVariables false
set_option linter.unusedSimpArgs false

theorem In.span (x : In) (a : Int) (n : Nat) : x.hi a n - x.lo a ≤ n := by
  unfold In.lo In.hi
  split <;> omega
theorem In.lo_ge (x : In) (a : Int) : (x.done : Int) ≤ x.lo a := by
  unfold In.lo
  split <;> omega
/-- What a Take tells lies between nothing and what was handed in. -/
theorem In.Put.told {x x' : In} {a : Int} {n : Nat} {c : Int → Nat} (h : x.Put x' (x.lo a) (x.hi a n) c) (hx : x.Ok) : 0 ≤ Ra.total x'.L - Ra.total x.L ∧ Ra.total x'.L - Ra.total x.L ≤ n := by
  have h1 := h.count hx (x.lo_ge a)
  have h2 := x.span a n
  omega
abbrev Opv (w : World) (zb : Nat) (z0 z1 : Int) (vb : Value) : Prop := w.heap[zb]? = some (.cells #[.int .i64 z0, .int .i64 z1, vb] 55 (0, 0))
set_option maxHeartbeats 8000000 in
set_option maxRecDepth 100000 in
theorem inboxBounds_walk (sz : Int) (s0 : Option Addr) (cap : Nat) (l : List Op19) (w : World) (hl : Ops19 w s0 cap l) (hsz : -9223372036854775808 ≤ sz ∧ sz ≤ 9223372036854775807) :
    Calls Try.prog 7 #[.int .i64 sz, .slice s0 l.length cap] w (Gives w (.bool true)) := by
  have HL := Lib.hid hl
  have hb1 : (l.length : Int) ≤ 9223372036854775807 := by have := hl.fits; have := hl.small; unfold maxLen at this; omega
  obtain ⟨N, hN⟩ : ∃ N, N = l.length := ⟨_, rfl⟩
  rw [← hN]
  rw [← hN] at hb1
  have HN := Lib.hid hN
  obtain ⟨s, hs⟩ : ∃ s : Nat, (s : Int) = max 1 (min sz 1048576) := ⟨(max 1 (min sz 1048576)).toNat, by omega⟩
  have hsb : 1 ≤ s ∧ s ≤ 1048576 := by omega
  have HS := Lib.hid hs
  clear hl hN hs hsz
  go_enter Try.func7, Try.ntmps7
  go_upto_region 5 with (first
    | (go_at_call 35; refine (InS.new_ w _ H1.out sz s HS.out).mono ?_; rintro e w2 ⟨o, F, rfl, h1, -, -⟩; have HX0 := Lib.hid h1; clear h1)
    | (go_at_call 34; refine (shown19_any w).mono ?_; rintro e w1 ⟨rfl, h1⟩; have H1 := Lib.hid h1; clear h1))
  go_cut [7] (fun t wx => t = .int .i64 (s : Int) ∧ wx = w2)
  case first =>
    rcases (by omega : sz ≤ 1 ∨ (1 < sz ∧ sz ≤ 1048576) ∨ 1048576 < sz) with h0 | ⟨h0, h1⟩ | h0
    · have a1 : ¬ ((1048576 : Int) < sz) := by omega
      have a2 : ¬ ((1 : Int) < sz) := by omega
      have a3 : sz < 1048576 := by omega
      have E := Lib.hid (show (1 : Int) = (s : Int) by have := HS.out; omega)
      go_wp2_with fail
      go_meet
      exact ⟨by rw [← E.out], rfl⟩
    · have a1 : ¬ ((1048576 : Int) < sz) := by omega
      have E := Lib.hid (show sz = (s : Int) by have := HS.out; omega)
      clear h1
      go_wp2_with fail
      go_meet
      exact ⟨by rw [← E.out], rfl⟩
    · have a2 : ¬ (sz < 1048576) := by omega
      have E := Lib.hid (show (1048576 : Int) = (s : Int) by have := HS.out; omega)
      go_wp2_with fail
      go_meet
      exact ⟨by rw [← E.out], rfl⟩
  case rest =>
    obtain ⟨rfl, rfl⟩ := hcut
    go_upto_region 6 with fail
    go_wp2_with fail
    go_loopw [8, 9] (fun lv i wr => ∃ (k la : Nat) (x : In) (F : Nat → Prop), i = .int .i64 (k : Int) ∧ lv = .int .i64 (la : Int) ∧ k ≤ 60 ∧ k ≤ N ∧ Hid (InS w F wr o x) ∧ Hid (x.size = s) ∧ Hid (la ≤ x.done + s) ∧ Hid (0 ≤ Ra.total x.L ∧ Ra.total x.L ≤ 1000 * (k : Int) ∧ (x.done : Int) ≤ Ra.total x.L)) (fun _ i _ => 60 - (intOf i).toNat)
    case atStart => exact ⟨0, 0, _, F, rfl, rfl, by omega, by omega, HX0, Lib.hid rfl, Lib.hid (by omega), Lib.hid (by simp [In.start, Ra.total])⟩
    case round =>
      obtain ⟨k, la, x, F, rfl, rfl, hk, hkN, HX, HSZ, HLA, HTT⟩ := hrel
      by_cases hk1 : k < N
      · have hd : decide ((k : Int) < (N : Int)) = true := decide_eq_true (by omega)
        have hk3 : (k : Int) < (N : Int) := by omega
        by_cases hk2 : k < 60
        · have hd2 : decide ((k : Int) < 60) = true := decide_eq_true (by omega)
          have hk4 : (k : Int) < 60 := by omega
          obtain ⟨g, og, rfl, hg, hx⟩ := HL.out.cells (by rw [← HN.out]; omega)
          obtain ⟨⟨z0, z1, vb, lb⟩, hz⟩ : ∃ z, l[k]? = some z := ⟨_, List.getElem?_eq_getElem (by rw [← HN.out]; omega)⟩
          have HZ := Lib.hid (HL.out.ok _ (List.mem_of_getElem? hz))
          obtain ⟨-, B, cb, hvb, hncb, -⟩ := HZ.out.rd
          simp only at hvb hncb
          subst hvb
          have ZK := Lib.hid HZ.out.k
          have hlb := HZ.out.len
          have c0 : wr.cell? ⟨g, og + k * 3, none⟩ = some (.int .i64 z0) := (HX.out.chg.cell (p := ⟨g, og + k * 3, none⟩) hg (not_nowhere _)).trans (hx _ _ hz).1
          have c1 : wr.cell? ⟨g, og + k * 3 + 1, none⟩ = some (.int .i64 z1) := (HX.out.chg.cell (p := ⟨g, og + k * 3 + 1, none⟩) hg (not_nowhere _)).trans (hx _ _ hz).2.1
          obtain ⟨n, hn⟩ : ∃ n, n = lb.length := ⟨_, rfl⟩
          have HNL := Lib.hid hn
          have c2 : wr.cell? ⟨g, og + k * 3 + 2, none⟩ = some (.slice B n cb) := by rw [hn]; exact (HX.out.chg.cell (p := ⟨g, og + k * 3 + 2, none⟩) hg (not_nowhere _)).trans (hx _ _ hz).2.2
          simp only at hlb
          rw [← hn] at hncb hlb
          have hnz : (n : Int) ≤ 9223372036854775807 := by omega
          clear hx hz hn hlb
          go_upto_region 11 with fail
          have HX5 := Lib.hid (HX.out.idle ((Chg.refl Nowhere wr).alloc (Obj.cells #[.int .i64 z0, .int .i64 z1, .slice B n cb] 55)))
          have HV5 := Lib.hid (show Opv _ _ z0 z1 (.slice B n cb) from alloc_new wr (Obj.cells #[.int .i64 z0, .int .i64 z1, .slice B n cb] 55))
          obtain ⟨zb, hzb⟩ : ∃ x, x = wr.heap.size := ⟨_, rfl⟩
          rw [← hzb] at HV5 ⊢
          generalize wr.alloc (Obj.cells #[.int .i64 z0, .int .i64 z1, .slice B n cb] 55) = w5 at HX5 HV5 ⊢
          clear hzb HX c0 c1 c2
          have e0 : w5.cell? ⟨zb, 0, none⟩ = some (.int .i64 z0) := by rw [cell_blk HV5.out]; rfl
          have HDB := Lib.hid (show x.done ≤ 800000 by have := HTT.out; omega)
          go_cut [42] (fun t wx => ∃ q : Bool, t = .bool q ∧ wx = w5)
          case first =>
            go_wp2_with (go_at_call 36; refine (kind19_any z0 4 _ ZK.out (by omega) (by omega)).mono ?_; rintro e w6 ⟨q, hq, rfl, rfl⟩)
            all_goals
              go_meet
              exact ⟨_, rfl, rfl⟩
          case rest =>
            obtain ⟨q, rfl, rfl⟩ := hcut
            clear e0
            cases q with
            | true =>
              have e1 : wc.cell? ⟨zb, 1, none⟩ = some (.int .i64 z1) := by rw [cell_blk HV5.out]; rfl
              go_upto_region 19 with (go_at_call 38; refine (HX5.out.read HDB.out z1).mono ?_; rintro e wv ⟨v9, y9, m9, F2, rfl, -, -, -, r3, -, -, -⟩; obtain ⟨x2, hx2⟩ : (∃ x2, x2 = x.read m9) := ⟨_, rfl⟩; rw [← hx2] at r3; have HX2 := Lib.hid r3; have HE := Lib.hid hx2; clear r3 hx2)
              clear e1
              have HSZ2 := Lib.hid (show x2.size = s by rw [HE.out]; exact HSZ.out)
              have HD2 := Lib.hid (show x.done ≤ x2.done by rw [HE.out]; show x.done ≤ x.done + m9; omega)
              have HT2 := Lib.hid (show 0 ≤ Ra.total x2.L ∧ Ra.total x2.L ≤ 1000 * ((k : Int) + 1) ∧ (x2.done : Int) ≤ Ra.total x2.L by
                have h1 := HTT.out
                have h3 := HX2.out.ok.held_le
                have e : x2.L = x.L := by rw [HE.out]; rfl
                rw [e] at h3 ⊢
                omega)
              have hok := HX2.out.ok
              obtain ⟨y, hy⟩ := next_ex hok.good (x2.done : Int)
              have hh := hok.here hy
              have hlen := hok.len
              have hheld := hok.held_le
              rw [HSZ2.out] at hlen hheld
              obtain ⟨D, hD⟩ : ∃ D, D = x2.done := ⟨_, rfl⟩
              have HD := Lib.hid hD
              obtain ⟨T, hT⟩ : ∃ T : Int, T = Ra.total x2.L - (x2.done : Int) := ⟨_, rfl⟩
              have hdb : x2.done ≤ 800000 := by have := HT2.out; omega
              have HQHeld := Lib.hid (show ∀ w', Chg Nowhere wv w' → Calls Try.prog 39 #[.pointer (some ⟨o, 0, none⟩)] w' (Gives w' (.int .i64 T)) from fun w' hc => hT ▸ (HX2.out.idle hc).held hdb)
              have HQLimit := Lib.hid (show ∀ w', Chg Nowhere wv w' → Calls Try.prog 42 #[.pointer (some ⟨o, 0, none⟩)] w' (Gives w' (.int .i64 ((D : Int) + (s : Int)))) from fun w' hc => by rw [hD, ← HSZ2.out]; exact (HX2.out.idle hc).limit hdb)
              have HQDone := Lib.hid (show ∀ w', Chg Nowhere wv w' → Calls Try.prog 40 #[.pointer (some ⟨o, 0, none⟩)] w' (Gives w' (.int .i64 (D : Int))) from fun w' hc => by rw [hD]; exact (HX2.out.idle hc).done)
              have HQHere := Lib.hid (show ∀ w', Chg Nowhere wv w' → Calls Try.prog 43 #[.pointer (some ⟨o, 0, none⟩)] w' (Gives w' (.int .i64 y)) from fun w' hc => (HX2.out.idle hc).here hdb hy)
              have t1 : ¬ ((s : Int) < T) := by omega
              have t2 : ¬ ((D : Int) + (s : Int) < (la : Int)) := by have := HLA.out; have := HD2.out; omega
              have t3 : ¬ (y < (D : Int)) := by omega
              have t4 : ¬ ((D : Int) + (s : Int) < y) := by omega
              have t1' : decide ((s : Int) < T) = false := decide_eq_false t1
              have t2' : decide ((D : Int) + (s : Int) < (la : Int)) = false := decide_eq_false t2
              have t3' : decide (y < (D : Int)) = false := decide_eq_false t3
              have t4' : decide ((D : Int) + (s : Int) < y) = false := decide_eq_false t4
              have hDb : D ≤ 800000 := by omega
              have HC0 := Lib.hid (Chg.refl Nowhere wv)
              have HLS := Lib.hid (show x2.done + s = D + s by rw [hD])
              clear hok hy hh hlen hheld hD hT hdb
              go_upto_region 20 with (first
                | (go_at_call 42; refine (HQLimit.out _ HC8.out).mono ?_; rintro e v9 ⟨rfl, qc⟩; have HC9 := Lib.hid (HC8.out.then_none qc); clear qc)
                | (go_at_call 42; refine (HQLimit.out _ HC7.out).mono ?_; rintro e v8 ⟨rfl, qc⟩; have HC8 := Lib.hid (HC7.out.then_none qc); clear qc)
                | (go_at_call 43; refine (HQHere.out _ HC6.out).mono ?_; rintro e v7 ⟨rfl, qc⟩; have HC7 := Lib.hid (HC6.out.then_none qc); clear qc)
                | (go_at_call 40; refine (HQDone.out _ HC5.out).mono ?_; rintro e v6 ⟨rfl, qc⟩; have HC6 := Lib.hid (HC5.out.then_none qc); clear qc)
                | (go_at_call 43; refine (HQHere.out _ HC4.out).mono ?_; rintro e v5 ⟨rfl, qc⟩; have HC5 := Lib.hid (HC4.out.then_none qc); clear qc)
                | (go_at_call 42; refine (HQLimit.out _ HC3.out).mono ?_; rintro e v4 ⟨rfl, qc⟩; have HC4 := Lib.hid (HC3.out.then_none qc); clear qc)
                | (go_at_call 40; refine (HQDone.out _ HC2.out).mono ?_; rintro e v3 ⟨rfl, qc⟩; have HC3 := Lib.hid (HC2.out.then_none qc); clear qc)
                | (go_at_call 42; refine (HQLimit.out _ HC1.out).mono ?_; rintro e v2 ⟨rfl, qc⟩; have HC2 := Lib.hid (HC1.out.then_none qc); clear qc)
                | (go_at_call 39; refine (HQHeld.out _ HC0.out).mono ?_; rintro e v1 ⟨rfl, qc⟩; have HC1 := Lib.hid (HC0.out.then_none qc); clear qc))
              go_wp2_with fail
              go_roundw
              case rel => exact ⟨k + 1, D + s, x2, F2, by go_num, by go_num, by omega, by omega, Lib.hid (HX2.out.idle HC9.out), HSZ2, Lib.hid (by have := HLS.out; omega), Lib.hid (by have := HT2.out; omega)⟩
              case measure => simp [intOf]; omega
            | false =>
              by_cases hn1 : 1000 < n
              · have hni : (1000 : Int) < (n : Int) := by omega
                have hnd : decide ((1000 : Int) < (n : Int)) = true := decide_eq_true hni
                have HLN := Lib.hid (show (lb.take 1000).length = 1000 from List.length_take_of_le (by rw [← HNL.out]; omega))
                have HRB := Lib.hid (show ∀ w', Chg F wc w' → RdB w' (.slice B 1000 cb) (lb.take 1000) from fun w' hc => by
                  have := (HZ.out.rd.same (HX5.out.old hc))
                  exact by rw [← HNL.out] at this; exact this.takeS (by rw [← HNL.out]; omega))
                have HBY := Lib.hid (show Byt (lb.take 1000) from HZ.out.byt.take 1000)
                have hll : ((lb.take 1000)).length ≤ 1000000 := by rw [HLN.out]; decide
                have e1 : wc.cell? ⟨zb, 1, none⟩ = some (.int .i64 z1) := by rw [cell_blk HV5.out]; rfl
                have e2 : wc.cell? ⟨zb, 2, none⟩ = some (.slice B n cb) := by rw [cell_blk HV5.out]; rfl
                have hcb : 1000 ≤ cb := by omega
                have hcbi : (1000 : Int) ≤ (cb : Int) := by omega
                go_upto_region 17 with (go_at_call 37; refine (HX5.out.take HDB.out z1 _ _ HRB.out HBY.out hll).mono ?_; rintro e wv ⟨x2, F2, rfl, q1, q2, -, -⟩; have HX2 := Lib.hid q2; have HP := Lib.hid (q1.told HX5.out.ok); have HPS := Lib.hid q1.size; have HPD := Lib.hid q1.done; clear q1 q2)
                obtain ⟨r, hr⟩ : ∃ r : Int, r = Ra.total x2.L - Ra.total x.L := ⟨_, rfl⟩
                have hrb : 0 ≤ r ∧ r ≤ (1000 : Nat) := by rw [hr]; have := HP.out; rw [show ((lb.take 1000)).length = 1000 from HLN.out] at this; exact this
                have HR := Lib.hid hr
                rw [← hr]
                have r1 : ¬ (r < 0) := by omega
                have r1' : decide (r < 0) = false := decide_eq_false r1
                have r2 : ¬ (((1000 : Nat) : Int) < r) := by omega
                have r2' : decide (((1000 : Nat) : Int) < r) = false := decide_eq_false r2
                have r3 : ¬ ((1000 : Int) < r) := by omega
                have HSZ2 := Lib.hid (show x2.size = s by rw [HPS.out]; exact HSZ.out)
                have HD2 := Lib.hid (show x.done ≤ x2.done by rw [HPD.out]; exact Nat.le_refl _)
                have HT2 := Lib.hid (show 0 ≤ Ra.total x2.L ∧ Ra.total x2.L ≤ 1000 * ((k : Int) + 1) ∧ (x2.done : Int) ≤ Ra.total x2.L by
                  have h1 := HTT.out
                  have h2 := HR.out
                  have h3 := HX2.out.ok.held_le
                  have h4 : (1000 : Nat) ≤ 1000 := by omega
                  omega)
                clear hr e1 e2
                go_upto_region 19 with fail
                clear r1 r1' r2 r2' hrb hll
                have hok := HX2.out.ok
                obtain ⟨y, hy⟩ := next_ex hok.good (x2.done : Int)
                have hh := hok.here hy
                have hlen := hok.len
                have hheld := hok.held_le
                rw [HSZ2.out] at hlen hheld
                obtain ⟨D, hD⟩ : ∃ D, D = x2.done := ⟨_, rfl⟩
                have HD := Lib.hid hD
                obtain ⟨T, hT⟩ : ∃ T : Int, T = Ra.total x2.L - (x2.done : Int) := ⟨_, rfl⟩
                have hdb : x2.done ≤ 800000 := by have := HT2.out; omega
                have HQHeld := Lib.hid (show ∀ w', Chg Nowhere wv w' → Calls Try.prog 39 #[.pointer (some ⟨o, 0, none⟩)] w' (Gives w' (.int .i64 T)) from fun w' hc => hT ▸ (HX2.out.idle hc).held hdb)
                have HQLimit := Lib.hid (show ∀ w', Chg Nowhere wv w' → Calls Try.prog 42 #[.pointer (some ⟨o, 0, none⟩)] w' (Gives w' (.int .i64 ((D : Int) + (s : Int)))) from fun w' hc => by rw [hD, ← HSZ2.out]; exact (HX2.out.idle hc).limit hdb)
                have HQDone := Lib.hid (show ∀ w', Chg Nowhere wv w' → Calls Try.prog 40 #[.pointer (some ⟨o, 0, none⟩)] w' (Gives w' (.int .i64 (D : Int))) from fun w' hc => by rw [hD]; exact (HX2.out.idle hc).done)
                have HQHere := Lib.hid (show ∀ w', Chg Nowhere wv w' → Calls Try.prog 43 #[.pointer (some ⟨o, 0, none⟩)] w' (Gives w' (.int .i64 y)) from fun w' hc => (HX2.out.idle hc).here hdb hy)
                have t1 : ¬ ((s : Int) < T) := by omega
                have t2 : ¬ ((D : Int) + (s : Int) < (la : Int)) := by have := HLA.out; have := HD2.out; omega
                have t3 : ¬ (y < (D : Int)) := by omega
                have t4 : ¬ ((D : Int) + (s : Int) < y) := by omega
                have t1' : decide ((s : Int) < T) = false := decide_eq_false t1
                have t2' : decide ((D : Int) + (s : Int) < (la : Int)) = false := decide_eq_false t2
                have t3' : decide (y < (D : Int)) = false := decide_eq_false t3
                have t4' : decide ((D : Int) + (s : Int) < y) = false := decide_eq_false t4
                have hDb : D ≤ 800000 := by omega
                have HC0 := Lib.hid (Chg.refl Nowhere wv)
                have HLS := Lib.hid (show x2.done + s = D + s by rw [hD])
                clear hok hy hh hlen hheld hD hT hdb
                go_upto_region 20 with (first
                  | (go_at_call 42; refine (HQLimit.out _ HC8.out).mono ?_; rintro e v9 ⟨rfl, qc⟩; have HC9 := Lib.hid (HC8.out.then_none qc); clear qc)
                  | (go_at_call 42; refine (HQLimit.out _ HC7.out).mono ?_; rintro e v8 ⟨rfl, qc⟩; have HC8 := Lib.hid (HC7.out.then_none qc); clear qc)
                  | (go_at_call 43; refine (HQHere.out _ HC6.out).mono ?_; rintro e v7 ⟨rfl, qc⟩; have HC7 := Lib.hid (HC6.out.then_none qc); clear qc)
                  | (go_at_call 40; refine (HQDone.out _ HC5.out).mono ?_; rintro e v6 ⟨rfl, qc⟩; have HC6 := Lib.hid (HC5.out.then_none qc); clear qc)
                  | (go_at_call 43; refine (HQHere.out _ HC4.out).mono ?_; rintro e v5 ⟨rfl, qc⟩; have HC5 := Lib.hid (HC4.out.then_none qc); clear qc)
                  | (go_at_call 42; refine (HQLimit.out _ HC3.out).mono ?_; rintro e v4 ⟨rfl, qc⟩; have HC4 := Lib.hid (HC3.out.then_none qc); clear qc)
                  | (go_at_call 40; refine (HQDone.out _ HC2.out).mono ?_; rintro e v3 ⟨rfl, qc⟩; have HC3 := Lib.hid (HC2.out.then_none qc); clear qc)
                  | (go_at_call 42; refine (HQLimit.out _ HC1.out).mono ?_; rintro e v2 ⟨rfl, qc⟩; have HC2 := Lib.hid (HC1.out.then_none qc); clear qc)
                  | (go_at_call 39; refine (HQHeld.out _ HC0.out).mono ?_; rintro e v1 ⟨rfl, qc⟩; have HC1 := Lib.hid (HC0.out.then_none qc); clear qc))
                go_wp2_with fail
                go_roundw
                case rel => exact ⟨k + 1, D + s, x2, F2, by go_num, by go_num, by omega, by omega, Lib.hid (HX2.out.idle HC9.out), HSZ2, Lib.hid (by have := HLS.out; omega), Lib.hid (by have := HT2.out; omega)⟩
                case measure => simp [intOf]; omega
              · have hni : ¬ ((1000 : Int) < (n : Int)) := by omega
                have hnd : decide ((1000 : Int) < (n : Int)) = false := decide_eq_false hni
                have HLN := Lib.hid (show lb.length = n from HNL.out.symm)
                have HRB := Lib.hid (show ∀ w', Chg F wc w' → RdB w' (.slice B n cb) lb from fun w' hc => by
                  have := (HZ.out.rd.same (HX5.out.old hc))
                  exact by rw [← HNL.out] at this; exact this)
                have HBY := Lib.hid (show Byt lb from HZ.out.byt)
                have hll : (lb).length ≤ 1000000 := by rw [HLN.out]; omega
                have e1 : wc.cell? ⟨zb, 1, none⟩ = some (.int .i64 z1) := by rw [cell_blk HV5.out]; rfl
                have e2 : wc.cell? ⟨zb, 2, none⟩ = some (.slice B n cb) := by rw [cell_blk HV5.out]; rfl
                have hz0 : 0 = 0 := rfl
                go_upto_region 17 with (go_at_call 37; refine (HX5.out.take HDB.out z1 _ _ HRB.out HBY.out hll).mono ?_; rintro e wv ⟨x2, F2, rfl, q1, q2, -, -⟩; have HX2 := Lib.hid q2; have HP := Lib.hid (q1.told HX5.out.ok); have HPS := Lib.hid q1.size; have HPD := Lib.hid q1.done; clear q1 q2)
                obtain ⟨r, hr⟩ : ∃ r : Int, r = Ra.total x2.L - Ra.total x.L := ⟨_, rfl⟩
                have hrb : 0 ≤ r ∧ r ≤ (n : Nat) := by rw [hr]; have := HP.out; rw [show (lb).length = n from HLN.out] at this; exact this
                have HR := Lib.hid hr
                rw [← hr]
                have r1 : ¬ (r < 0) := by omega
                have r1' : decide (r < 0) = false := decide_eq_false r1
                have r2 : ¬ (((n : Nat) : Int) < r) := by omega
                have r2' : decide ((n : Int) < r) = false := decide_eq_false r2
                have HSZ2 := Lib.hid (show x2.size = s by rw [HPS.out]; exact HSZ.out)
                have HD2 := Lib.hid (show x.done ≤ x2.done by rw [HPD.out]; exact Nat.le_refl _)
                have HT2 := Lib.hid (show 0 ≤ Ra.total x2.L ∧ Ra.total x2.L ≤ 1000 * ((k : Int) + 1) ∧ (x2.done : Int) ≤ Ra.total x2.L by
                  have h1 := HTT.out
                  have h2 := HR.out
                  have h3 := HX2.out.ok.held_le
                  have h4 : (n : Nat) ≤ 1000 := by omega
                  omega)
                clear hr e1 e2
                go_upto_region 19 with fail
                clear r1 r1' r2 r2' hrb hll
                have hok := HX2.out.ok
                obtain ⟨y, hy⟩ := next_ex hok.good (x2.done : Int)
                have hh := hok.here hy
                have hlen := hok.len
                have hheld := hok.held_le
                rw [HSZ2.out] at hlen hheld
                obtain ⟨D, hD⟩ : ∃ D, D = x2.done := ⟨_, rfl⟩
                have HD := Lib.hid hD
                obtain ⟨T, hT⟩ : ∃ T : Int, T = Ra.total x2.L - (x2.done : Int) := ⟨_, rfl⟩
                have hdb : x2.done ≤ 800000 := by have := HT2.out; omega
                have HQHeld := Lib.hid (show ∀ w', Chg Nowhere wv w' → Calls Try.prog 39 #[.pointer (some ⟨o, 0, none⟩)] w' (Gives w' (.int .i64 T)) from fun w' hc => hT ▸ (HX2.out.idle hc).held hdb)
                have HQLimit := Lib.hid (show ∀ w', Chg Nowhere wv w' → Calls Try.prog 42 #[.pointer (some ⟨o, 0, none⟩)] w' (Gives w' (.int .i64 ((D : Int) + (s : Int)))) from fun w' hc => by rw [hD, ← HSZ2.out]; exact (HX2.out.idle hc).limit hdb)
                have HQDone := Lib.hid (show ∀ w', Chg Nowhere wv w' → Calls Try.prog 40 #[.pointer (some ⟨o, 0, none⟩)] w' (Gives w' (.int .i64 (D : Int))) from fun w' hc => by rw [hD]; exact (HX2.out.idle hc).done)
                have HQHere := Lib.hid (show ∀ w', Chg Nowhere wv w' → Calls Try.prog 43 #[.pointer (some ⟨o, 0, none⟩)] w' (Gives w' (.int .i64 y)) from fun w' hc => (HX2.out.idle hc).here hdb hy)
                have t1 : ¬ ((s : Int) < T) := by omega
                have t2 : ¬ ((D : Int) + (s : Int) < (la : Int)) := by have := HLA.out; have := HD2.out; omega
                have t3 : ¬ (y < (D : Int)) := by omega
                have t4 : ¬ ((D : Int) + (s : Int) < y) := by omega
                have t1' : decide ((s : Int) < T) = false := decide_eq_false t1
                have t2' : decide ((D : Int) + (s : Int) < (la : Int)) = false := decide_eq_false t2
                have t3' : decide (y < (D : Int)) = false := decide_eq_false t3
                have t4' : decide ((D : Int) + (s : Int) < y) = false := decide_eq_false t4
                have hDb : D ≤ 800000 := by omega
                have HC0 := Lib.hid (Chg.refl Nowhere wv)
                have HLS := Lib.hid (show x2.done + s = D + s by rw [hD])
                clear hok hy hh hlen hheld hD hT hdb
                go_upto_region 20 with (first
                  | (go_at_call 42; refine (HQLimit.out _ HC8.out).mono ?_; rintro e v9 ⟨rfl, qc⟩; have HC9 := Lib.hid (HC8.out.then_none qc); clear qc)
                  | (go_at_call 42; refine (HQLimit.out _ HC7.out).mono ?_; rintro e v8 ⟨rfl, qc⟩; have HC8 := Lib.hid (HC7.out.then_none qc); clear qc)
                  | (go_at_call 43; refine (HQHere.out _ HC6.out).mono ?_; rintro e v7 ⟨rfl, qc⟩; have HC7 := Lib.hid (HC6.out.then_none qc); clear qc)
                  | (go_at_call 40; refine (HQDone.out _ HC5.out).mono ?_; rintro e v6 ⟨rfl, qc⟩; have HC6 := Lib.hid (HC5.out.then_none qc); clear qc)
                  | (go_at_call 43; refine (HQHere.out _ HC4.out).mono ?_; rintro e v5 ⟨rfl, qc⟩; have HC5 := Lib.hid (HC4.out.then_none qc); clear qc)
                  | (go_at_call 42; refine (HQLimit.out _ HC3.out).mono ?_; rintro e v4 ⟨rfl, qc⟩; have HC4 := Lib.hid (HC3.out.then_none qc); clear qc)
                  | (go_at_call 40; refine (HQDone.out _ HC2.out).mono ?_; rintro e v3 ⟨rfl, qc⟩; have HC3 := Lib.hid (HC2.out.then_none qc); clear qc)
                  | (go_at_call 42; refine (HQLimit.out _ HC1.out).mono ?_; rintro e v2 ⟨rfl, qc⟩; have HC2 := Lib.hid (HC1.out.then_none qc); clear qc)
                  | (go_at_call 39; refine (HQHeld.out _ HC0.out).mono ?_; rintro e v1 ⟨rfl, qc⟩; have HC1 := Lib.hid (HC0.out.then_none qc); clear qc))
                go_wp2_with fail
                go_roundw
                case rel => exact ⟨k + 1, D + s, x2, F2, by go_num, by go_num, by omega, by omega, Lib.hid (HX2.out.idle HC9.out), HSZ2, Lib.hid (by have := HLS.out; omega), Lib.hid (by have := HT2.out; omega)⟩
                case measure => simp [intOf]; omega
        · have hd2 : decide ((k : Int) < 60) = false := decide_eq_false (by omega)
          have hk4 : ¬ ((k : Int) < 60) := by omega
          go_wp2_with fail
          go_ret
          exact ⟨rfl, HX.out.chg⟩
      · have hd : decide ((k : Int) < (N : Int)) = false := decide_eq_false (by omega)
        have hk3 : ¬ ((k : Int) < (N : Int)) := by omega
        go_wp2_with fail
        go_ret
        exact ⟨rfl, HX.out.chg⟩
theorem inboxBounds_walk' (sz : Int) (s : Option Addr) (cap : Nat) (w : World) (zs : List {z : Op19 // Op19Ok w z}) (hsz : -9223372036854775808 ≤ sz ∧ sz ≤ 9223372036854775807) (hle : zs.length ≤ cap) (hcap : cap ≤ maxLen)
    (hz : 0 < zs.length → ∃ g o, s = some ⟨g, o, none⟩ ∧ g < w.heap.size ∧ ∀ (i : Nat) z, zs[i]? = some z → ∀ j u, (op19R w z)[j]? = some u → w.cell? ⟨g, o + (i * 3 + j), none⟩ = some u) :
    Calls Try.prog 7 #[.int .i64 sz, .slice s zs.length cap] w (Gives w (.bool true)) := by
  have := inboxBounds_walk sz s cap (zs.map (·.1)) w (ops19_open hle hcap hz) hsz
  rw [List.length_map] at this
  exact this
end Go.Proofs.Ytlkbfacdaelbfaa
