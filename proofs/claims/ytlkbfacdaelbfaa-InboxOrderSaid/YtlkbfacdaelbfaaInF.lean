/-
  Package inbox: Take (the walk).
-/
import Derived.Test.YtlkbfacdaelbfaaInE
namespace Go.Proofs.Ytlkbfacdaelbfaa
open Go.RowKit Ae
set_option linter.unusedVariables false
set_option linter.unusedSimpArgs false

/-- From where and up to where a Take goes. -/
def In.lo (x : In) (at_ : Int) : Int := if 0 ≤ at_ ∧ at_ < x.done + x.size then max at_ x.done else x.done
def In.hi (x : In) (at_ : Int) (n : Nat) : Int := if 0 ≤ at_ ∧ at_ < x.done + x.size then min (at_ + n) (x.done + x.size) else x.done
def InTake (w : World) (o : Nat) (F : Nat → Prop) (x : In) (at_ : Int) (l : List Nat) : Ending → World → Prop := fun e w' => ∃ x', e = .returned (.int .i64 (Ra.total x'.L - Ra.total x.L)) ∧ x.Put x' (x.lo at_) (x.hi at_ l.length) (fun n => l.getD (n - at_).toNat 0) ∧ InAt w' o (Grow F w w') x' ∧ Chg F w w'
set_option maxHeartbeats 8000000 in
set_option maxRecDepth 100000 in
theorem takeIn_any (o : Nat) (F : Nat → Prop) (x : In) (at_ : Int) (v : Value) (l : List Nat) (w : World) (h : InAt w o F x) (hx : x.Ok) (hd : x.done ≤ 800000) (hb : ∀ w', Chg F w w' → RdB w' v l) (hby : Byt l) (hl : l.length ≤ 1000000) : Calls Try.prog 37 #[.pointer (some ⟨o, 0, none⟩), .int .i64 at_, v] w (InTake w o F x at_ l) := by
  have H := Lib.hid h
  have HX := Lib.hid hx
  obtain ⟨p, vb, vL, hq⟩ := h.q
  have HQ := Lib.hid hq
  have hs1 := hx.s1
  have hs2 := hx.s2
  have hd9 : x.done ≤ 900000 := by omega
  obtain ⟨S, hS⟩ : ∃ S : Nat, S = x.done + x.size := ⟨_, rfl⟩
  have HSS := Lib.hid hS
  have HLIM := Lib.hid (show ∀ w', Chg Nowhere w w' → Calls Try.prog 42 #[.pointer (some ⟨o, 0, none⟩)] w' (Gives w' (.int .i64 (S : Int))) from fun w' hc => by have := limIn_any o F x w' (h.idle hc) hd9 hs2; rw [hS]; exact_mod_cast this)
  have HBY := Lib.hid hby
  have HRB := Lib.hid hb
  have HNO := Lib.hid (show ¬ (0 ≤ at_ ∧ at_ < x.done + x.size) → ∀ w', Chg Nowhere w w' → InTake w o F x at_ l (.returned (.int .i64 0)) w' from fun hn w' hc => by
    refine ⟨x, by rw [Int.sub_self], ?_, (hq.idle hc).at', hc.mono fun _ _ h => h.elim⟩
    rw [In.lo, In.hi, if_neg hn, if_neg hn]
    exact In.Put.none hx _ (Int.le_refl _))
  obtain ⟨n, hn⟩ : ∃ n, n = l.length := ⟨_, rfl⟩
  have HN := Lib.hid hn
  obtain ⟨-, Ab, cb, rfl, hncb, -⟩ := hb w (Chg.refl _ _)
  rw [← hn] at hl hncb HRB ⊢
  have hSb : S ≤ 1900000 := by omega
  clear h hx hb hby hn hq
  by_cases h0 : at_ < 0
  · have HF := Lib.hid (HNO.out (by omega) w (Chg.refl _ _))
    go_enter Try.func37, Try.ntmps37
    go_wp2_with fail
    go_ret
    exact HF.out
  obtain ⟨a, rfl⟩ : ∃ a : Nat, at_ = (a : Int) := ⟨at_.toNat, by omega⟩
  have hna : ¬ ((a : Int) < 0) := by omega
  by_cases h1 : S ≤ a
  · have h2 : (S : Int) ≤ (a : Int) := by omega
    have HN2 := Lib.hid (HNO.out (by omega))
    clear HNO
    go_enter Try.func37, Try.ntmps37
    go_wp2_with (first | (go_at_call 42; refine (HLIM.out w (Chg.refl _ _)).mono ?_; rintro e w2 ⟨rfl, q⟩; have HF := Lib.hid (HN2.out _ q); clear q))
    go_ret
    exact HF.out
  have h2 : ¬ ((S : Int) ≤ (a : Int)) := by omega
  clear HNO h0
  obtain ⟨f0, hf0⟩ : ∃ f0 : Nat, f0 = max a x.done := ⟨_, rfl⟩
  obtain ⟨t0, ht0⟩ : ∃ t0 : Nat, t0 = min (a + n) S := ⟨_, rfl⟩
  have HLO := Lib.hid (show x.lo (a : Int) = (f0 : Int) by rw [In.lo, if_pos (by omega)]; omega)
  have HHI := Lib.hid (show x.hi (a : Int) n = (t0 : Int) by rw [In.hi, if_pos (by omega)]; omega)
  have HF0 := Lib.hid hf0
  have HT0 := Lib.hid ht0
  have hfb : f0 ≤ 1900000 := by omega
  have htb : t0 ≤ 1900000 := by omega
  clear hf0 ht0 hS
  go_enter Try.func37, Try.ntmps37
  go_upto_region 3 with (first | (go_at_call 42; refine (HLIM.out w (Chg.refl _ _)).mono ?_; rintro e w2 ⟨rfl, q⟩; have HC2 := Lib.hid q; clear q))
  go_cut [7, 8] (fun t u wx => t = .int .i64 (f0 : Int) ∧ u = .int .i64 (t0 : Int) ∧ Chg Nowhere w wx)
  case first =>
    have HC3 := Lib.hid (HC2.out.then_none (Chg.refl Nowhere w2).drew)
    have k1 : w2.drew.cell? ⟨o, 1, none⟩ = some (.int .i64 x.done) := by rw [cell_blk (HC3.out.same HQ.out.blk)]; rfl
    have hanw : IntKind.i64.wrap ((a : Int) + (n : Int)) = (a : Int) + (n : Int) := by rw [IntKind.wrap_i64]; omega
    rcases (by omega : a < x.done ∨ ¬ (a < x.done)) with c1 | c1
    · have c2 : (a : Int) < (x.done : Int) := by omega
      have c2' : ¬ ((x.done : Int) < (a : Int)) := by omega
      have EF := Lib.hid (show (x.done : Int) = (f0 : Int) by have := HF0.out; omega)
      rcases (by omega : S < a + n ∨ ¬ (S < a + n)) with c3 | c3
      · have c4 : (S : Int) < (a : Int) + (n : Int) := by omega
        have ET := Lib.hid (show (S : Int) = (t0 : Int) by have := HT0.out; omega)
        clear c1 c3
        go_region_held3 (fun w' => w'.cell? ⟨o, 1, none⟩ = some (.int .i64 x.done)) (first | exact k2 | exact k1 | go_keep) (first | (go_at_call 42; refine (HLIM.out _ HC3.out).mono ?_; rintro e w4 ⟨rfl, q⟩; have HC4 := Lib.hid (HC3.out.then_none q); have k2 : w4.cell? ⟨o, 1, none⟩ = some (.int .i64 x.done) := (by rw [cell_blk (HC4.out.same HQ.out.blk)]; rfl); clear q))
        all_goals
          go_wp2_with fail
          go_meet
          exact ⟨by rw [← EF.out], by rw [← ET.out], HC4.out⟩
      · have c4 : ¬ ((S : Int) < (a : Int) + (n : Int)) := by omega
        have ET := Lib.hid (show (a : Int) + (n : Int) = (t0 : Int) by have := HT0.out; omega)
        clear c1 c3
        go_region_held3 (fun w' => w'.cell? ⟨o, 1, none⟩ = some (.int .i64 x.done)) (first | exact k2 | exact k1 | go_keep) (first | (go_at_call 42; refine (HLIM.out _ HC3.out).mono ?_; rintro e w4 ⟨rfl, q⟩; have HC4 := Lib.hid (HC3.out.then_none q); have k2 : w4.cell? ⟨o, 1, none⟩ = some (.int .i64 x.done) := (by rw [cell_blk (HC4.out.same HQ.out.blk)]; rfl); clear q))
        all_goals
          go_wp2_with fail
          go_meet
          exact ⟨by rw [← EF.out], by rw [← ET.out], HC4.out⟩
    · have c2 : ¬ ((a : Int) < (x.done : Int)) := by omega
      have c2' : (x.done : Int) ≤ (a : Int) := by omega
      have EF := Lib.hid (show (a : Int) = (f0 : Int) by have := HF0.out; omega)
      rcases (by omega : S < a + n ∨ ¬ (S < a + n)) with c3 | c3
      · have c4 : (S : Int) < (a : Int) + (n : Int) := by omega
        have ET := Lib.hid (show (S : Int) = (t0 : Int) by have := HT0.out; omega)
        clear c1 c3
        go_region_held3 (fun w' => w'.cell? ⟨o, 1, none⟩ = some (.int .i64 x.done)) (first | exact k2 | exact k1 | go_keep) (first | (go_at_call 42; refine (HLIM.out _ HC3.out).mono ?_; rintro e w4 ⟨rfl, q⟩; have HC4 := Lib.hid (HC3.out.then_none q); have k2 : w4.cell? ⟨o, 1, none⟩ = some (.int .i64 x.done) := (by rw [cell_blk (HC4.out.same HQ.out.blk)]; rfl); clear q))
        all_goals
          go_wp2_with fail
          go_meet
          exact ⟨by rw [← EF.out], by rw [← ET.out], HC4.out⟩
      · have c4 : ¬ ((S : Int) < (a : Int) + (n : Int)) := by omega
        have ET := Lib.hid (show (a : Int) + (n : Int) = (t0 : Int) by have := HT0.out; omega)
        clear c1 c3
        go_region_held3 (fun w' => w'.cell? ⟨o, 1, none⟩ = some (.int .i64 x.done)) (first | exact k2 | exact k1 | go_keep) (first | (go_at_call 42; refine (HLIM.out _ HC3.out).mono ?_; rintro e w4 ⟨rfl, q⟩; have HC4 := Lib.hid (HC3.out.then_none q); have k2 : w4.cell? ⟨o, 1, none⟩ = some (.int .i64 x.done) := (by rw [cell_blk (HC4.out.same HQ.out.blk)]; rfl); clear q))
        all_goals
          go_wp2_with fail
          go_meet
          exact ⟨by rw [← EF.out], by rw [← ET.out], HC4.out⟩
  case rest =>
    obtain ⟨rfl, rfl, hC⟩ := hcut
    have HC := Lib.hid hC
    clear hC HC2
    obtain ⟨c, hc⟩ : ∃ c : Int → Nat, c = fun (m : Int) => l.getD (m - (a : Int)).toNat 0 := ⟨_, rfl⟩
    have HCC := Lib.hid hc
    have HFT := Lib.hid (show x.done ≤ f0 ∧ a ≤ f0 ∧ t0 ≤ S ∧ t0 ≤ a + n by have := HF0.out; have := HT0.out; omega)
    obtain ⟨T, hT⟩ : ∃ T, T = Ra.total x.L := ⟨_, rfl⟩
    have HT := Lib.hid hT
    have htb : 0 ≤ T ∧ T ≤ 4611686018427387904 := by rw [hT]; exact Ra.total_in HX.out.good
    have HEND := Lib.hid (show ∀ (f : Nat) (y : In) vb' vL' wr, InQ w F wr o p vb' vL' y → x.Put y f0 (f : Int) c → (f0 ≤ f) → (f ≤ t0 ∨ f = f0) → (∀ m : Int, (f : Int) ≤ m → m < t0 → Ra.mem y.L m) → InTake w o F x (a : Int) l (.returned (.int .i64 (Ra.total y.L - T))) wr from fun (f : Nat) y vb' vL' wr h1 h2 h3 h4 h5 => by
      refine ⟨y, by rw [HT.out], ?_, h1.at', h1.chg⟩
      rw [HLO.out, ← HN.out, HHI.out, ← HCC.out]
      exact h2.last (by omega) (by unfold Ra.M; omega) ⟨by omega, by omega⟩ h5)
    have HST := Lib.hid (show x.Put x f0 (f0 : Int) c from In.Put.none HX.out c (Int.le_refl _))
    clear hc hT
    go_upto_region 4 with fail
    go_wp2_with fail
    go_loopw [7, 9] (fun i j wr => ∃ (f : Nat) (y : In) (vb' vL' : Value), i = .int .i64 (f : Int) ∧ j = .int .i64 (Ra.total y.L - T) ∧ f0 ≤ f ∧ (f ≤ t0 ∨ f = f0) ∧ Hid (x.Put y f0 (f : Int) c) ∧ Hid (InQ w F wr o p vb' vL' y)) (fun i _ _ => t0 - (intOf i).toNat)
    case atStart => exact ⟨f0, x, vb, vL, rfl, by rw [← HT.out, Int.sub_self], Nat.le_refl _, .inr rfl, HST, Lib.hid (HQ.out.idle HC.out)⟩
    case round =>
      obtain ⟨f, y, vb', vL', rfl, rfl, hf1, hf2, HP, HY⟩ := hrel
      by_cases hlt : f < t0
      · have hlti : (f : Int) < (t0 : Int) := by omega
        have hltd : decide ((f : Int) < (t0 : Int)) = true := decide_eq_true hlti
        have HG := Lib.hid (gap_any p vL' y.L f t0 wr HY.out.ra HP.out.ok.good (by have := HP.out.ok.rows (by rw [HP.out.done]; omega); omega))
        have k3 : wr.cell? ⟨o, 3, none⟩ = some (.pointer (some ⟨p, 0, none⟩)) := by rw [cell_blk HY.out.blk]; rfl
        go_upto_region 7 with (first | (go_at_call 20; refine HG.out.mono ?_; rintro e w5 ⟨⟨g1, g2⟩, gb, rfl, q1, q2⟩; have HGI := Lib.hid q1; have HY5 := Lib.hid (HY.out.idle q2); clear q1 q2))
        cases gb with
        | false =>
          have HF := Lib.hid (HEND.out f y vb' vL' _ (HY5.out.idle ((Chg.refl Nowhere w5).alloc (Obj.cells #[.int .i64 g1, .int .i64 g2] 33))) HP.out hf1 hf2 (fun m h1 h2 => (HGI.out.no rfl).2 m (by omega) (by unfold Ra.M; omega)))
          clear HG HGI HY5 HY k3
          go_wp2_with fail
          go_ret
          exact HF.out
        | true =>
          obtain ⟨⟨q1, q2, q3⟩, -, -, -⟩ := HGI.out.yes rfl
          simp only [Ra.M] at q1 q2 q3
          obtain ⟨ga, rfl⟩ : ∃ n : Nat, g1 = (n : Int) := ⟨g1.toNat, by omega⟩
          obtain ⟨gb, rfl⟩ : ∃ n : Nat, g2 = (n : Int) := ⟨g2.toNat, by omega⟩
          obtain ⟨z1, z2, z3, z4⟩ := HFT.out
          obtain ⟨i, hi⟩ : ∃ i : Nat, (ga : Int) - (x.done : Int) = (i : Int) := ⟨ga - x.done, by omega⟩
          obtain ⟨j, hj⟩ : ∃ i : Nat, (gb : Int) - (x.done : Int) = (i : Int) := ⟨gb - x.done, by omega⟩
          obtain ⟨k, hk⟩ : ∃ i : Nat, (ga : Int) - (a : Int) = (i : Int) := ⟨ga - a, by omega⟩
          have hiw : IntKind.i64.wrap (i : Int) = (i : Int) := by rw [IntKind.wrap_i64]; omega
          have hjw : IntKind.i64.wrap (j : Int) = (j : Int) := by rw [IntKind.wrap_i64]; omega
          have hkw : IntKind.i64.wrap (k : Int) = (k : Int) := by rw [IntKind.wrap_i64]; omega
          have hij : i < j := by omega
          have hjb : j ≤ 1900000 := by omega
          have hkn : k < n := by omega
          have hjk : j - i ≤ n - k := by omega
          have HGAB := Lib.hid (show f ≤ ga ∧ ga < gb ∧ gb ≤ t0 ∧ j ≤ y.size by
            have := HP.out.size; have := HSS.out; omega)
          clear q1 q2 q3 z1 z2 z3 z4 hlt hlti hltd
          have HV6 := Lib.hid (alloc_new w5 (Obj.cells #[.int .i64 (ga : Int), .int .i64 (gb : Int)] 33))
          have HY6 := Lib.hid (HY5.out.idle ((Chg.refl Nowhere w5).alloc (Obj.cells #[.int .i64 (ga : Int), .int .i64 (gb : Int)] 33)))
          obtain ⟨gz, hgz⟩ : ∃ z, z = w5.heap.size := ⟨_, rfl⟩
          have HGZ := Lib.hid (show ∀ i, (i = p ∨ vL'.ownBlock = some i) → i < gz from fun i hi => by
            rw [hgz]
            rcases hi with rfl | hi
            · exact lt_blk HY5.out.ra.blk
            · obtain ⟨cur, hh⟩ := own_blk HY5.out.ra.row hi
              exact lt_blk hh)
          rw [← hgz] at HV6 ⊢
          generalize w5.alloc (Obj.cells #[.int .i64 (ga : Int), .int .i64 (gb : Int)] 33) = w6 at HV6 HY6 ⊢
          clear hgz HY5 HY HG k3
          have m1 : w6.cell? ⟨gz, 1, none⟩ = some (.int .i64 (gb : Int)) := by rw [cell_blk HV6.out]; rfl
          have k1 : w6.cell? ⟨o, 1, none⟩ = some (.int .i64 (x.done : Int)) := by rw [cell_blk HY6.out.blk, ← HP.out.done]; rfl
          go_upto_region 8 with fail
          go_quiet (fail)
          have HV7 := Lib.hid (show (w6.drewN nq).heap[gz]? = some (Obj.cells #[.int .i64 (ga : Int), .int .i64 (gb : Int)] 33 (0, 0)) from HV6.out)
          have HY7 := Lib.hid (HY6.out.idle ((Chg.refl Nowhere w6).drewN nq))
          generalize w6.drewN nq = w7 at HV7 HY7 ⊢
          clear HV6 HY6 m1 k1
          obtain ⟨A', c', rfl⟩ := ownR_shape HY7.out.own
          have k2 : w7.cell? ⟨o, 2, none⟩ = some (.slice A' y.bs.length c') := by rw [cell_blk HY7.out.blk]; rfl
          have hyl : y.bs.length ≤ 1048576 := by have := HP.out.ok.len; have := HP.out.ok.s2; omega
          by_cases hgt : y.bs.length < j
          · have hgti : (y.bs.length : Int) < (j : Int) := by omega
            have hgtd : decide (y.bs.length < j) = true := decide_eq_true hgt
            obtain ⟨q, hq⟩ : ∃ q : Nat, (j : Int) - (y.bs.length : Int) = (q : Int) := ⟨j - y.bs.length, by omega⟩
            have hqw : IntKind.i64.wrap (q : Int) = (q : Int) := by rw [IntKind.wrap_i64]; omega
            have hqn : q = j - y.bs.length := by omega
            have HQN := Lib.hid hqn
            have HYW := Lib.hid (HY7.out.idle ((Chg.refl Nowhere w7).drew))
            obtain ⟨v8, w8, hrun, h1, h2, h3⟩ := append_zeros w7.drew 47 (.slice A' y.bs.length c') y.bs.length (bl y.bs) HYW.out.own q (by omega) (by omega)
            obtain ⟨bs2, hbs2⟩ : ∃ b, b = y.bs ++ List.replicate q 0 := ⟨_, rfl⟩
            have HBS2 := Lib.hid (show bs2 = y.bs ++ List.replicate (j - y.bs.length) 0 by rw [hbs2, hqn])
            have hjl : j ≤ bs2.length := by rw [hbs2, List.length_append, List.length_replicate]; omega
            have hbl : bs2.length ≤ 3000000 := by rw [hbs2, List.length_append, List.length_replicate]; omega
            have h1' : w8.ownsRow 0 5 1 v8 bs2.length (bl bs2) := by
              rw [hbs2, bl_append, List.length_append, List.length_replicate]; exact h1
            have HY8 := Lib.hid (HYW.out.grow h1' h2 h3)
            have hc8 : Chg (fun i => (Value.slice A' y.bs.length c').ownBlock = some i) w7.drew w8 := (Chg.refl _ _).grown h2 (fun k hk => .inr hk)
            have hob : ¬ ((Value.slice A' y.bs.length c').ownBlock = some o) := fun e => (HYW.out.bo.1 o e).1 rfl
            have hog : ¬ ((Value.slice A' y.bs.length c').ownBlock = some gz) := fun e => by
              obtain ⟨cur, hh⟩ := own_blk HY7.out.own e
              rw [HV7.out] at hh
              simp at hh
            have e2 : w8.cell? ⟨o, 2, none⟩ = some (.slice A' y.bs.length c') := by rw [cell_blk (hc8.keep HYW.out.blk hob)]; rfl
            have e3 : w8.frozen? ⟨o, 2, none⟩ = false := frozen_blk (hc8.keep HYW.out.blk hob)
            have hoz : gz ≠ o := by
              rintro rfl
              have := HV7.out
              rw [HY7.out.blk] at this
              simp at this
            have HV8 := Lib.hid (show (w8.setCell ⟨o, 2, none⟩ v8).heap[gz]? = _ from ((set_other (b := gz) (a := ⟨o, 2, none⟩) v8 hoz).trans (hc8.keep (show w7.drew.heap[gz]? = _ from HV7.out) hog)))
            obtain ⟨A8, c8, rfl⟩ := ownR_shape h1'
            clear h1 h1' h2 h3 hbs2 hqn hob hog hc8 hoz
            go_upto_region 10 with fail
            go_region_law (refine step_app_run rfl _ _ 47 3 rfl _ _ (by simp [Act.eval, Act.put]) (by simp [Act.eval, Act.put]) hrun ?_)
            all_goals
              obtain ⟨vq, hvq⟩ : ∃ v, v = Value.slice A8 bs2.length c8 := ⟨_, rfl⟩
              rw [← hvq] at HY8 HV8 ⊢
              generalize w8.setCell ⟨o, 2, none⟩ vq = wx at HY8 HV8 ⊢
              clear hvq e2 e3 hrun HYW HY7 HV7 k2
              have HVX := HV8
              have HYX := HY8
              have HV9 := Lib.hid (show wx.heap[gz]? = some (Obj.cells #[.int .i64 (ga : Int), .int .i64 (gb : Int)] 33 (0, 0)) from HVX.out)
              obtain ⟨gq, cap, hve⟩ : ∃ gq cap, vq = .slice (some ⟨gq, 0, none⟩) bs2.length cap := by
                rcases HYX.out.own.2 with ⟨-, h0⟩ | ⟨gq, cap, cur, e, -⟩
                · exact absurd (show bs2.length = 0 from h0) (by omega)
                · exact ⟨gq, cap, e⟩
              subst hve
              have hbc : bs2.length ≤ cap := own_cap HYX.out.own
              have hci : ¬ (cap = i) := by omega
              have hcbk : ¬ (cb = k) := by omega
              have HYD := Lib.hid (HYX.out.idle ((Chg.refl Nowhere wx).drew))
              have HVD := Lib.hid (show wx.drew.heap[gz]? = some (Obj.cells #[.int .i64 (ga : Int), .int .i64 (gb : Int)] 33 (0, 0)) from HVX.out)
              have HSRC := Lib.hid (show RdB wx.drew (.slice (Ab.map (fun x => x.add k)) (n - k) (cb - k)) (l.drop k) from by
                have := (HRB.out _ HYD.out.chg).cut (lo := k) (hi := n) (m := cb) (by omega) (Nat.le_refl _) hncb (Nat.le_refl _)
                rw [List.take_of_length_le (by rw [List.length_drop, ← HN.out]; omega)] at this
                rwa [cutB, if_neg hcbk] at this)
              obtain ⟨wd, hrun, hown, hchg⟩ := copyB_own wx.drew gq cap i j bs2 (l.drop k) _ (n - k) (cb - k) HYD.out.own HSRC.out hij hjl hjk
              obtain ⟨bs3, hbs3⟩ : ∃ b, b = bs2.take i ++ (l.drop k).take (j - i) ++ bs2.drop j := ⟨_, rfl⟩
              have hl3 : bs3.length = bs2.length := by
                rw [hbs3, List.length_append, List.length_append, List.length_take_of_le (by omega), List.length_take_of_le (by rw [List.length_drop, ← HN.out]; exact hjk), List.length_drop]
                omega
              rw [← hbs3] at hown
              have hown2 : wd.ownsRow 0 5 1 (.slice (some ⟨gq, 0, none⟩) bs2.length cap) bs3.length (bl bs3) := by rw [← hl3]; exact hown
              have HYE := Lib.hid (HYD.out.copy hown2 hchg)
              have HB3 := Lib.hid (show bs3 = In.lay y.bs i j ((l.drop k).take (j - i)) by rw [hbs3, HBS2.out, In.lay])
              have HL3 := Lib.hid hl3
              have HVE := Lib.hid (hchg.keep HVD.out (by
                rintro e
                simp only [At] at e
                subst e
                obtain ⟨cur, hh⟩ := own_blk HYD.out.own (i := gz) rfl
                rw [HVD.out] at hh
                simp at hh))
              have HRUN := Lib.hid hrun
              clear hrun hown hown2 hchg HYD HVD hbs3 hl3
              have m0 : wx.cell? ⟨gz, 0, none⟩ = some (.int .i64 (ga : Int)) := by rw [cell_blk HV9.out]; rfl
              have m1 : wx.cell? ⟨gz, 1, none⟩ = some (.int .i64 (gb : Int)) := by rw [cell_blk HV9.out]; rfl
              have k1 : wx.cell? ⟨o, 1, none⟩ = some (.int .i64 (x.done : Int)) := by rw [cell_blk HYX.out.blk, ← HP.out.done]; rfl
              have k2 : wx.cell? ⟨o, 2, none⟩ = some (.slice (some ⟨gq, 0, none⟩) bs2.length cap) := by rw [cell_blk HYX.out.blk]; rfl
              have hic : i ≤ cap := by omega
              have hjc : j ≤ cap := by omega
              have hij2 : i ≤ j := by omega
              have hkn2 : k ≤ n := by omega
              go_upto_region 11 with fail
              go_still_tail 25, (by kernel_rfl)
              change wpList _ _ _ _ _ wx.drew
              go_upto_region 12 with (refine wpList_copy_run _ rfl _ _ 47 47 rfl _ _ rfl rfl (HRUN.out _ _) ?_)
              clear m0 m1 k1 k2 HRUN HYX HVX HV9 HSRC
              have HYF := Lib.hid (HYE.out.idle ((Chg.refl Nowhere wd).drew))
              have HVF := Lib.hid (show wd.drew.heap[gz]? = some (Obj.cells #[.int .i64 (ga : Int), .int .i64 (gb : Int)] 33 (0, 0)) from HVE.out)
              have HADD := Lib.hid (add_any p vL' y.L ga gb wd.drew HYF.out.ra HP.out.ok.good (HP.out.ok.rows (by rw [HP.out.done]; omega)))
              have m0 : wd.drew.cell? ⟨gz, 0, none⟩ = some (.int .i64 (ga : Int)) := by rw [cell_blk HVF.out]; rfl
              have m1 : wd.drew.cell? ⟨gz, 1, none⟩ = some (.int .i64 (gb : Int)) := by rw [cell_blk HVF.out]; rfl
              have k3 : wd.drew.cell? ⟨o, 3, none⟩ = some (.pointer (some ⟨p, 0, none⟩)) := by rw [cell_blk HYF.out.blk]; rfl
              clear HYE HVE
              have htb2 := Ra.total_in HP.out.ok.good
              have hTt : 0 ≤ Ra.total y.L - T := by rw [HT.out]; exact (HP.out.count HX.out (by have := HFT.out; omega)).1
              go_region_held3 (fun w' => w'.cell? ⟨gz, 0, none⟩ = some (.int .i64 (ga : Int)) ∧ w'.cell? ⟨gz, 1, none⟩ = some (.int .i64 (gb : Int)) ∧ w'.cell? ⟨o, 3, none⟩ = some (.pointer (some ⟨p, 0, none⟩))) (first | exact ⟨n0, n1, n3⟩ | exact ⟨m0, m1, k3⟩ | go_keep) (first
                | (go_at_call 16; refine HADD.out.mono ?_; rintro e wf ⟨L', rfl, q1, q2, -, q3⟩; have HGL := Lib.hid q1; have HML := Lib.hid q2; have hLb := Ra.total_in q1; have HVG := Lib.hid (q3.chg.keep HVF.out (fun h => Nat.lt_irrefl _ (HGZ.out _ h))); obtain ⟨vL2, hQG⟩ := HYF.out.moved q3; have HQG := Lib.hid hQG; have n0 : wf.cell? ⟨gz, 0, none⟩ = some (.int .i64 (ga : Int)) := (by rw [cell_blk HVG.out]; rfl); have n1 : wf.cell? ⟨gz, 1, none⟩ = some (.int .i64 (gb : Int)) := (by rw [cell_blk HVG.out]; rfl); have n3 : wf.cell? ⟨o, 3, none⟩ = some (.pointer (some ⟨p, 0, none⟩)) := (by rw [cell_blk HQG.out.blk]; rfl); clear q1 q2 q3 hQG))
              all_goals
                have EW : IntKind.i64.wrap (Ra.total y.L - T + (Ra.total L' - Ra.total y.L)) = Ra.total L' - T := by
                  unfold Ra.M at hLb htb2
                  rw [show Ra.total y.L - T + (Ra.total L' - Ra.total y.L) = Ra.total L' - T by omega, IntKind.wrap_i64]
                  all_goals omega
                rw [EW]
                have HPS := Lib.hid (show x.Put ⟨y.size, y.done, bs3, L'⟩ f0 (gb : Int) c from by
                  have h1 := HFT.out
                  have h2 := HSS.out
                  have hu : ((l.drop k).take (j - i)).length = j - i := List.length_take_of_le (by rw [List.length_drop, ← HN.out]; exact hjk)
                  have := HP.out.step (hi := (t0 : Int)) (by omega) (by omega) (by omega) HGI.out HGL.out HML.out (u := (l.drop k).take (j - i)) ((HBY.out.drop k).take _) (by rw [hu]; show _ = ((gb : Int) - (ga : Int)).toNat; omega) (fun q hq => by
                    rw [hu] at hq
                    rw [HCC.out]
                    show _ = l.getD ((ga : Int) + (q : Int) - (a : Int)).toNat 0
                    rw [show ((ga : Int) + (q : Int) - (a : Int)).toNat = k + q by omega, List.getD_eq_getElem?_getD, List.getD_eq_getElem?_getD, List.getElem?_take_of_lt hq, List.getElem?_drop])
                  rw [HB3.out]
                  simp only at this
                  rwa [show ((ga : Int) - (x.done : Int)).toNat = i by omega, show ((gb : Int) - (x.done : Int)).toNat = j by omega] at this)
                clear EW m0 m1 k3 n3
                go_wp2_with fail
                go_roundw
                case rel => exact ⟨gb, ⟨y.size, y.done, bs3, L'⟩, _, vL2, rfl, rfl, by have := HGAB.out; omega, .inl HGAB.out.2.2.1, HPS, HQG⟩
                case measure => have := HGAB.out; simp [intOf]; omega
          · have hgti : ¬ ((y.bs.length : Int) < (j : Int)) := by omega
            have hgtd : decide (y.bs.length < j) = false := decide_eq_false hgt
            obtain ⟨bs2, hbs2⟩ : ∃ b, b = y.bs := ⟨_, rfl⟩
            have HBS2 := Lib.hid (show bs2 = y.bs ++ List.replicate (j - y.bs.length) 0 by rw [hbs2, show j - y.bs.length = 0 by omega]; simp)
            have hjl : j ≤ bs2.length := by rw [hbs2]; omega
            have hbl : bs2.length ≤ 3000000 := by rw [hbs2]; omega
            have HYX := Lib.hid (show InQ w F w7 o p (.slice A' y.bs.length c') vL' ⟨y.size, y.done, bs2, y.L⟩ from by rw [hbs2]; exact HY7.out)
            have HVX := HV7
            have HBL2 := Lib.hid (show bs2.length = y.bs.length by rw [hbs2])
            clear hbs2
            go_upto_region 11 with fail
            clear k2 hyl hgt hgti hgtd
            rw [← HBL2.out] at HYX HY7
            obtain ⟨vq, hvq⟩ : ∃ v, v = Value.slice A' bs2.length c' := ⟨_, rfl⟩
            rw [← hvq] at HYX HY7
            generalize w7 = wx at HVX HYX ⊢
            clear HY7 HV7 hvq
            have HV9 := Lib.hid (show wx.heap[gz]? = some (Obj.cells #[.int .i64 (ga : Int), .int .i64 (gb : Int)] 33 (0, 0)) from HVX.out)
            obtain ⟨gq, cap, hve⟩ : ∃ gq cap, vq = .slice (some ⟨gq, 0, none⟩) bs2.length cap := by
              rcases HYX.out.own.2 with ⟨-, h0⟩ | ⟨gq, cap, cur, e, -⟩
              · exact absurd (show bs2.length = 0 from h0) (by omega)
              · exact ⟨gq, cap, e⟩
            subst hve
            have hbc : bs2.length ≤ cap := own_cap HYX.out.own
            have hci : ¬ (cap = i) := by omega
            have hcbk : ¬ (cb = k) := by omega
            have HYD := Lib.hid (HYX.out.idle ((Chg.refl Nowhere wx).drew))
            have HVD := Lib.hid (show wx.drew.heap[gz]? = some (Obj.cells #[.int .i64 (ga : Int), .int .i64 (gb : Int)] 33 (0, 0)) from HVX.out)
            have HSRC := Lib.hid (show RdB wx.drew (.slice (Ab.map (fun x => x.add k)) (n - k) (cb - k)) (l.drop k) from by
              have := (HRB.out _ HYD.out.chg).cut (lo := k) (hi := n) (m := cb) (by omega) (Nat.le_refl _) hncb (Nat.le_refl _)
              rw [List.take_of_length_le (by rw [List.length_drop, ← HN.out]; omega)] at this
              rwa [cutB, if_neg hcbk] at this)
            obtain ⟨wd, hrun, hown, hchg⟩ := copyB_own wx.drew gq cap i j bs2 (l.drop k) _ (n - k) (cb - k) HYD.out.own HSRC.out hij hjl hjk
            obtain ⟨bs3, hbs3⟩ : ∃ b, b = bs2.take i ++ (l.drop k).take (j - i) ++ bs2.drop j := ⟨_, rfl⟩
            have hl3 : bs3.length = bs2.length := by
              rw [hbs3, List.length_append, List.length_append, List.length_take_of_le (by omega), List.length_take_of_le (by rw [List.length_drop, ← HN.out]; exact hjk), List.length_drop]
              omega
            rw [← hbs3] at hown
            have hown2 : wd.ownsRow 0 5 1 (.slice (some ⟨gq, 0, none⟩) bs2.length cap) bs3.length (bl bs3) := by rw [← hl3]; exact hown
            have HYE := Lib.hid (HYD.out.copy hown2 hchg)
            have HB3 := Lib.hid (show bs3 = In.lay y.bs i j ((l.drop k).take (j - i)) by rw [hbs3, HBS2.out, In.lay])
            have HL3 := Lib.hid hl3
            have HVE := Lib.hid (hchg.keep HVD.out (by
              rintro e
              simp only [At] at e
              subst e
              obtain ⟨cur, hh⟩ := own_blk HYD.out.own (i := gz) rfl
              rw [HVD.out] at hh
              simp at hh))
            have HRUN := Lib.hid hrun
            clear hrun hown hown2 hchg HYD HVD hbs3 hl3
            have m0 : wx.cell? ⟨gz, 0, none⟩ = some (.int .i64 (ga : Int)) := by rw [cell_blk HV9.out]; rfl
            have m1 : wx.cell? ⟨gz, 1, none⟩ = some (.int .i64 (gb : Int)) := by rw [cell_blk HV9.out]; rfl
            have k1 : wx.cell? ⟨o, 1, none⟩ = some (.int .i64 (x.done : Int)) := by rw [cell_blk HYX.out.blk, ← HP.out.done]; rfl
            have k2 : wx.cell? ⟨o, 2, none⟩ = some (.slice (some ⟨gq, 0, none⟩) bs2.length cap) := by rw [cell_blk HYX.out.blk]; rfl
            have hic : i ≤ cap := by omega
            have hjc : j ≤ cap := by omega
            have hij2 : i ≤ j := by omega
            have hkn2 : k ≤ n := by omega
            go_upto_region 11 with fail
            go_still_tail 25, (by kernel_rfl)
            change wpList _ _ _ _ _ wx.drew
            go_upto_region 12 with (refine wpList_copy_run _ rfl _ _ 47 47 rfl _ _ rfl rfl (HRUN.out _ _) ?_)
            clear m0 m1 k1 k2 HRUN HYX HVX HV9 HSRC
            have HYF := Lib.hid (HYE.out.idle ((Chg.refl Nowhere wd).drew))
            have HVF := Lib.hid (show wd.drew.heap[gz]? = some (Obj.cells #[.int .i64 (ga : Int), .int .i64 (gb : Int)] 33 (0, 0)) from HVE.out)
            have HADD := Lib.hid (add_any p vL' y.L ga gb wd.drew HYF.out.ra HP.out.ok.good (HP.out.ok.rows (by rw [HP.out.done]; omega)))
            have m0 : wd.drew.cell? ⟨gz, 0, none⟩ = some (.int .i64 (ga : Int)) := by rw [cell_blk HVF.out]; rfl
            have m1 : wd.drew.cell? ⟨gz, 1, none⟩ = some (.int .i64 (gb : Int)) := by rw [cell_blk HVF.out]; rfl
            have k3 : wd.drew.cell? ⟨o, 3, none⟩ = some (.pointer (some ⟨p, 0, none⟩)) := by rw [cell_blk HYF.out.blk]; rfl
            clear HYE HVE
            have htb2 := Ra.total_in HP.out.ok.good
            have hTt : 0 ≤ Ra.total y.L - T := by rw [HT.out]; exact (HP.out.count HX.out (by have := HFT.out; omega)).1
            go_region_held3 (fun w' => w'.cell? ⟨gz, 0, none⟩ = some (.int .i64 (ga : Int)) ∧ w'.cell? ⟨gz, 1, none⟩ = some (.int .i64 (gb : Int)) ∧ w'.cell? ⟨o, 3, none⟩ = some (.pointer (some ⟨p, 0, none⟩))) (first | exact ⟨n0, n1, n3⟩ | exact ⟨m0, m1, k3⟩ | go_keep) (first
              | (go_at_call 16; refine HADD.out.mono ?_; rintro e wf ⟨L', rfl, q1, q2, -, q3⟩; have HGL := Lib.hid q1; have HML := Lib.hid q2; have hLb := Ra.total_in q1; have HVG := Lib.hid (q3.chg.keep HVF.out (fun h => Nat.lt_irrefl _ (HGZ.out _ h))); obtain ⟨vL2, hQG⟩ := HYF.out.moved q3; have HQG := Lib.hid hQG; have n0 : wf.cell? ⟨gz, 0, none⟩ = some (.int .i64 (ga : Int)) := (by rw [cell_blk HVG.out]; rfl); have n1 : wf.cell? ⟨gz, 1, none⟩ = some (.int .i64 (gb : Int)) := (by rw [cell_blk HVG.out]; rfl); have n3 : wf.cell? ⟨o, 3, none⟩ = some (.pointer (some ⟨p, 0, none⟩)) := (by rw [cell_blk HQG.out.blk]; rfl); clear q1 q2 q3 hQG))
            all_goals
              have EW : IntKind.i64.wrap (Ra.total y.L - T + (Ra.total L' - Ra.total y.L)) = Ra.total L' - T := by
                unfold Ra.M at hLb htb2
                rw [show Ra.total y.L - T + (Ra.total L' - Ra.total y.L) = Ra.total L' - T by omega, IntKind.wrap_i64]
                all_goals omega
              rw [EW]
              have HPS := Lib.hid (show x.Put ⟨y.size, y.done, bs3, L'⟩ f0 (gb : Int) c from by
                have h1 := HFT.out
                have h2 := HSS.out
                have hu : ((l.drop k).take (j - i)).length = j - i := List.length_take_of_le (by rw [List.length_drop, ← HN.out]; exact hjk)
                have := HP.out.step (hi := (t0 : Int)) (by omega) (by omega) (by omega) HGI.out HGL.out HML.out (u := (l.drop k).take (j - i)) ((HBY.out.drop k).take _) (by rw [hu]; show _ = ((gb : Int) - (ga : Int)).toNat; omega) (fun q hq => by
                  rw [hu] at hq
                  rw [HCC.out]
                  show _ = l.getD ((ga : Int) + (q : Int) - (a : Int)).toNat 0
                  rw [show ((ga : Int) + (q : Int) - (a : Int)).toNat = k + q by omega, List.getD_eq_getElem?_getD, List.getD_eq_getElem?_getD, List.getElem?_take_of_lt hq, List.getElem?_drop])
                rw [HB3.out]
                simp only at this
                rwa [show ((ga : Int) - (x.done : Int)).toNat = i by omega, show ((gb : Int) - (x.done : Int)).toNat = j by omega] at this)
              clear EW m0 m1 k3 n3
              go_wp2_with fail
              go_roundw
              case rel => exact ⟨gb, ⟨y.size, y.done, bs3, L'⟩, _, vL2, rfl, rfl, by have := HGAB.out; omega, .inl HGAB.out.2.2.1, HPS, HQG⟩
              case measure => have := HGAB.out; simp [intOf]; omega
      · have hlti : ¬ ((f : Int) < (t0 : Int)) := by omega
        have hltd : decide ((f : Int) < (t0 : Int)) = false := decide_eq_false hlti
        have HF := Lib.hid (HEND.out f y vb' vL' _ HY.out HP.out hf1 hf2 (fun m h1 h2 => by omega))
        go_wp2_with fail
        go_ret
        exact HF.out
end Go.Proofs.Ytlkbfacdaelbfaa
