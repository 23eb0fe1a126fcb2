/-
  RangesPlays: the walk.
-/
import Derived.Test.YtlkbfacdaelbfaaRbG
import Derived.Deep.DeepCutAuto
import Derived.Deep.CutBlock
import Derived.Deep.RegionHeld3
import Derived.Test.YtlkbfacdaelbfaaCalmR
namespace Go.Proofs.Ytlkbfacdaelbfaa
open Go.RowKit
set_option linter.unusedVariables false
set_option linter.unusedSimpArgs false

theorem en_tot : Enters Try.prog 27 := enters_of Try.func27 (by kernel_rfl) rfl
theorem en_rtot : Enters Try.prog 28 := enters_of Try.func28 (by kernel_rfl) rfl
theorem en_has : Enters Try.prog 21 := enters_of Try.func21 (by kernel_rfl) rfl
theorem en_rhas : Enters Try.prog 29 := enters_of Try.func29 (by kernel_rfl) rfl
theorem en_next : Enters Try.prog 30 := enters_of Try.func30 (by kernel_rfl) rfl
theorem en_rnext : Enters Try.prog 31 := enters_of Try.func31 (by kernel_rfl) rfl
theorem en_cov : Enters Try.prog 32 := enters_of Try.func32 (by kernel_rfl) rfl
theorem en_rcov : Enters Try.prog 33 := enters_of Try.func33 (by kernel_rfl) rfl
theorem two_args {x : Nat → Value} {d f : Nat} {u s : Value} (h1 : [x d] = [u]) (h3 : [x f] = [s]) : [x d, x f] = [u, s] := by rw [List.head_eq_of_cons_eq h1, List.head_eq_of_cons_eq h3]
theorem three_args {x : Nat → Value} {d f g : Nat} {u s t : Value} (h1 : [x d] = [u]) (h3 : [x f] = [s]) (h4 : [x g] = [t]) : [x d, x f, x g] = [u, s, t] := by rw [List.head_eq_of_cons_eq h1, List.head_eq_of_cons_eq h3, List.head_eq_of_cons_eq h4]
theorem fa_op1 (g : Nat) (w : World) : (Instr.fieldAt 29 (.pointer (some ⟨g, 0, none⟩)) 1).run Try.prog w = .ok (.pointer (some ⟨g, 1, none⟩)) w := by go_simp
theorem fa_op2 (g : Nat) (w : World) : (Instr.fieldAt 29 (.pointer (some ⟨g, 0, none⟩)) 2).run Try.prog w = .ok (.pointer (some ⟨g, 2, none⟩)) w := by go_simp
/-- A call's row, as the law holds it. -/
abbrev Opb (w : World) (zb : Nat) (z0 z1 z2 : Int) : Prop := w.heap[zb]? = some (.cells #[.int .i64 z0, .int .i64 z1, .int .i64 z2] 29 (0, 0))
theorem Opb.c1 {w : World} {zb : Nat} {z0 z1 z2 : Int} (h : Opb w zb z0 z1 z2) : w.cell? ⟨zb, 1, none⟩ = some (.int .i64 z1) := by rw [cell_blk h]; rfl
theorem Opb.c2 {w : World} {zb : Nat} {z0 z1 z2 : Int} (h : Opb w zb z0 z1 z2) : w.cell? ⟨zb, 2, none⟩ = some (.int .i64 z2) := by rw [cell_blk h]; rfl
theorem Opb.keep {w w' : World} {zb : Nat} {z0 z1 z2 : Int} (h : Opb w zb z0 z1 z2) (k : Keeps3 w w') : Opb w' zb z0 z1 z2 := k _ _ _ (by decide) (by decide) (by decide) h
/-- What is so behind a call. -/
def PlAft (w : World) (b k zb : Nat) (z0 z1 z2 : Int) (r d e : Value) (wx : World) : Prop := ∃ (a : Nat) (L : List Ra.Row) (x : Int), r = .pointer (some ⟨a, 0, none⟩) ∧ d = .int .i64 x ∧ e = .int .i64 x ∧ L.length ≤ k + 1 ∧ Both w a b L L wx ∧ Opb wx zb z0 z1 z2
set_option maxHeartbeats 8000000 in
set_option maxRecDepth 100000 in
theorem rangesPlays_walk (s : Option Addr) (cap : Nat) (l : List Op3) (w : World) (hl : OpsAt w s cap l) :
    Calls Try.prog 5 #[.slice s l.length cap] w (Gives w (.bool true)) := by
  have HL := Lib.hid hl
  have hb1 : (l.length : Int) ≤ 9223372036854775807 := by have := hl.fits; have := hl.small; unfold maxLen at this; omega
  obtain ⟨N, hN⟩ : ∃ N, N = l.length := ⟨_, rfl⟩
  rw [← hN]
  rw [← hN] at hb1
  have HN := Lib.hid hN
  clear hl hN
  go_enter Try.func5, Try.ntmps5
  go_upto_region 3 with (first
    | (go_at_call 14; refine (shownRa_any w).mono ?_; rintro e w1 ⟨rfl, h1⟩; have H1 := Lib.hid h1; clear h1)
    | (go_at_call 15; refine (Rn.new_ w _ H1.out).mono ?_; rintro e w2 ⟨a, rfl, hR⟩; have HA := Lib.hid hR; clear hR))
  go_upto_region 6 with fail
  have HB0 := Lib.hid (HA.out.both)
  obtain ⟨b, hb⟩ : ∃ x, x = w2.heap.size := ⟨_, rfl⟩
  rw [← hb] at HB0 ⊢
  generalize w2.alloc (.cells #[.slice none 0 0] 42) = w3 at HB0 ⊢
  clear hb HA
  go_wp2_with fail
  go_loopw [4, 6] (fun r i wr => ∃ (k a : Nat) (L : List Ra.Row), i = .int .i64 (k : Int) ∧ r = .pointer (some ⟨a, 0, none⟩) ∧ k ≤ 60 ∧ k ≤ N ∧ L.length ≤ k ∧ Hid (Both w a b L L wr)) (fun _ i _ => 60 - (intOf i).toNat)
  case atStart => exact ⟨0, a, [], rfl, rfl, by omega, by omega, by simp, HB0⟩
  case round =>
    obtain ⟨k, a, L, rfl, rfl, hk, hkN, hLk, HR⟩ := hrel
    by_cases hin : k < N ∧ k < 60
    · obtain ⟨hk1, hk2⟩ := hin
      have hd : decide ((k : Int) < (N : Int)) = true := decide_eq_true (by omega)
      have hd2 : decide ((k : Int) < 60) = true := decide_eq_true (by omega)
      have hk3 : (k : Int) < (N : Int) := by omega
      have hk4 : (k : Int) < 60 := by omega
      obtain ⟨g, o, rfl, hg, hx⟩ := HL.out.cells (by rw [← HN.out]; omega)
      obtain ⟨⟨z0, z1, z2⟩, hz⟩ : ∃ z, l[k]? = some z := ⟨_, List.getElem?_eq_getElem (by rw [← HN.out]; omega)⟩
      have ZK := Lib.hid (show -9223372036854775808 ≤ z0 ∧ z0 ≤ 9223372036854775807 from (HL.out.ok _ (List.mem_of_getElem? hz)).1)
      have c0 : wr.cell? ⟨g, o + k * 3, none⟩ = some (.int .i64 z0) := (HR.out.chg.cell (p := ⟨g, o + k * 3, none⟩) hg (not_nowhere _)).trans (hx _ _ hz).1
      have c1 : wr.cell? ⟨g, o + k * 3 + 1, none⟩ = some (.int .i64 z1) := (HR.out.chg.cell (p := ⟨g, o + k * 3 + 1, none⟩) hg (not_nowhere _)).trans (hx _ _ hz).2.1
      have c2 : wr.cell? ⟨g, o + k * 3 + 2, none⟩ = some (.int .i64 z2) := (HR.out.chg.cell (p := ⟨g, o + k * 3 + 2, none⟩) hg (not_nowhere _)).trans (hx _ _ hz).2.2
      clear hx hz
      go_upto_region 10 with fail
      have HB5 := Lib.hid (HR.out.idle ((Chg.refl Nowhere wr).alloc (Obj.cells #[.int .i64 z0, .int .i64 z1, .int .i64 z2] 29)))
      have HV5 := Lib.hid (show Opb _ _ z0 z1 z2 from alloc_new wr (Obj.cells #[.int .i64 z0, .int .i64 z1, .int .i64 z2] 29))
      obtain ⟨zb, hzb⟩ : ∃ x, x = wr.heap.size := ⟨_, rfl⟩
      rw [← hzb] at HV5 ⊢
      generalize wr.alloc (Obj.cells #[.int .i64 z0, .int .i64 z1, .int .i64 z2] 29) = w5 at HB5 HV5 ⊢
      clear hzb HR c0 c1 c2
      have c0 : w5.cell? ⟨zb, 0, none⟩ = some (.int .i64 z0) := by rw [cell_blk HV5.out]; rfl
      have hLb : L.length ≤ 1000000 := by omega
      go_upto_block 2 with (go_at_call 19; refine (kind17_any z0 4 _ ZK.out (.inl rfl)).mono ?_; rintro e w6 ⟨q, hq, rfl, rfl⟩)
      clear c0
      go_cut [4, 8, 9] (fun r d e wx => PlAft w b k zb z0 z1 z2 r d e wx)
      case first =>
        have c1 := HV5.out.c1
        have c2 := HV5.out.c2
        rcases (by omega : q = 0 ∨ q = 1 ∨ q = 2 ∨ q = 3) with rfl | rfl | rfl | rfl
        · as_aux_lemma =>
          go_wp2_with (first
            | (go_at_call 16; refine (HB5.out.add hLb z1 z2).mono ?_; rintro e w6 ⟨L', rfl, q1, q2, q3, q4⟩; have HB6 := Lib.hid q3; have HV6 := Lib.hid (HV5.out.keep q4); have HM := Lib.hid q1; have HLL := Lib.hid q2; have d1 := HV6.out.c1; have d2 := HV6.out.c2; clear q1 q2 q3 q4)
            | (go_at_call 22; refine (HB6.out.radd hLb z1 z2 HM.out).mono ?_; rintro e w7 ⟨rfl, q1, q2⟩; have HB7 := Lib.hid q1; have HV7 := Lib.hid (HV6.out.keep q2); clear q1 q2))
          go_meet
          exact ⟨a, L', _, rfl, rfl, rfl, by have := HLL.out; omega, HB7.out, HV7.out⟩
        · as_aux_lemma =>
          go_wp2_with (first
            | (go_at_call 16; refine (HB5.out.add hLb z1 z2).mono ?_; rintro e w6 ⟨L', rfl, q1, q2, q3, q4⟩; have HB6 := Lib.hid q3; have HV6 := Lib.hid (HV5.out.keep q4); have HM := Lib.hid q1; have HLL := Lib.hid q2; have d1 := HV6.out.c1; have d2 := HV6.out.c2; clear q1 q2 q3 q4)
            | (go_at_call 22; refine (HB6.out.radd hLb z1 z2 HM.out).mono ?_; rintro e w7 ⟨rfl, q1, q2⟩; have HB7 := Lib.hid q1; have HV7 := Lib.hid (HV6.out.keep q2); clear q1 q2))
          go_meet
          exact ⟨a, L', _, rfl, rfl, rfl, by have := HLL.out; omega, HB7.out, HV7.out⟩
        · as_aux_lemma =>
          go_wp2_with (first
            | (go_at_call 23; refine (HB5.out.cut hLb z1 z2).mono ?_; rintro e w6 ⟨L', rfl, q1, q2, q3, q4⟩; have HB6 := Lib.hid q3; have HV6 := Lib.hid (HV5.out.keep q4); have HM := Lib.hid q1; have HLL := Lib.hid q2; have d1 := HV6.out.c1; have d2 := HV6.out.c2; clear q1 q2 q3 q4)
            | (go_at_call 24; refine (HB6.out.rcut hLb z1 z2 HM.out).mono ?_; rintro e w7 ⟨rfl, q1, q2⟩; have HB7 := Lib.hid q1; have HV7 := Lib.hid (HV6.out.keep q2); clear q1 q2))
          go_meet
          exact ⟨a, L', _, rfl, rfl, rfl, by have := HLL.out; omega, HB7.out, HV7.out⟩
        · as_aux_lemma =>
          go_wp2_with (first
            | (go_at_call 25; refine (HB5.out.clone hLb).mono ?_; rintro e w6 ⟨c, rfl, q1, q2⟩; have HB6 := Lib.hid q1; have HV6 := Lib.hid (HV5.out.keep (Keeps3.of_chg q2)); clear q1 q2)
            | (go_at_call 16; refine (HB6.out.old hLb 0 1000).mono ?_; rintro e w7 ⟨x, rfl, q1, q2⟩; have HB7 := Lib.hid q1; have HV7 := Lib.hid (HV6.out.keep q2); clear q1 q2))
          go_meet
          exact ⟨c, L, 0, rfl, rfl, rfl, by omega, HB7.out, HV7.out⟩
      case rest =>
        obtain ⟨a2, L2, x, rfl, rfl, rfl, hL2, hB, hV⟩ := hcut
        have HB := Lib.hid hB
        have HV := Lib.hid hV
        clear hB hV HB5 HV5 hLb hLk
        have hLb : L2.length ≤ 1000000 := by omega
        have c1 := HV.out.c1
        have c2 := HV.out.c2
        go_upto_region 27 with (go_at_call 20; refine (HB.out.a.gap hLb z1 z2).mono ?_; rintro e wg ⟨⟨g1, g2⟩, gb, rfl, q1, q2⟩; have HG := Lib.hid q1; have HBg := Lib.hid (HB.out.idle q2); have HVg := Lib.hid (show Opb wg zb z0 z1 z2 from q2.same HV.out); have d1 := HVg.out.c1; have d2 := HVg.out.c2; clear q1 q2)
        have HBa := Lib.hid (HBg.out.idle ((Chg.refl Nowhere wg).alloc (Obj.cells #[.int .i64 g1, .int .i64 g2] 33)))
        have HVa := Lib.hid (show Opb (wg.alloc (Obj.cells #[.int .i64 g1, .int .i64 g2] 33)) zb z0 z1 z2 from alloc_old HVg.out)
        have HGa := Lib.hid (alloc_new wg (Obj.cells #[.int .i64 g1, .int .i64 g2] 33))
        obtain ⟨ga, hga⟩ : ∃ x, x = wg.heap.size := ⟨_, rfl⟩
        rw [← hga] at HGa ⊢
        generalize wg.alloc (Obj.cells #[.int .i64 g1, .int .i64 g2] 33) = wa at HBa HVa HGa ⊢
        clear hga HBg HVg d1 d2 c1 c2 HB HV
        have c1 := HVa.out.c1
        have c2 := HVa.out.c2
        go_upto_region 28 with (go_at_call 26; refine (HBa.out.rgap hLb z1 z2 HG.out).mono ?_; rintro e wh ⟨rfl, q2⟩; have HBh := Lib.hid (HBa.out.idle q2); have HVh := Lib.hid (show Opb wh zb z0 z1 z2 from q2.same HVa.out); have HGh := Lib.hid (q2.same HGa.out); have d1 := HVh.out.c1; have d2 := HVh.out.c2; clear q2)
        have HBb := Lib.hid (HBh.out.idle ((Chg.refl Nowhere wh).alloc (Obj.cells #[.int .i64 g1, .int .i64 g2] 33)))
        have HVb := Lib.hid (show Opb (wh.alloc (Obj.cells #[.int .i64 g1, .int .i64 g2] 33)) zb z0 z1 z2 from alloc_old HVh.out)
        have HGb := Lib.hid (show (wh.alloc (Obj.cells #[.int .i64 g1, .int .i64 g2] 33)).heap[ga]? = _ from alloc_old HGh.out)
        have HHb := Lib.hid (alloc_new wh (Obj.cells #[.int .i64 g1, .int .i64 g2] 33))
        obtain ⟨gh, hgh⟩ : ∃ x, x = wh.heap.size := ⟨_, rfl⟩
        rw [← hgh] at HHb ⊢
        generalize wh.alloc (Obj.cells #[.int .i64 g1, .int .i64 g2] 33) = wb at HBb HVb HGb HHb ⊢
        clear hgh HBh HVh HGh d1 d2 c1 c2 HBa HVa HGa HG
        obtain ⟨vb, hvb⟩ := HBb.out.b
        have k0 := hvb.cell0
        have HVB := Lib.hid hvb
        clear hvb
        have HB3 := Lib.hid (HBb.out.idle ((Chg.refl Nowhere wb).drew))
        have HV3 := Lib.hid (show Opb wb.drew zb z0 z1 z2 from HVb.out)
        have HG3 := Lib.hid (show wb.drew.heap[ga]? = _ from HGb.out)
        have HH3 := Lib.hid (show wb.drew.heap[gh]? = _ from HHb.out)
        have HR3 := Lib.hid (HVB.out.idle ((Chg.refl Nowhere wb).drew))
        go_region_held3 (fun w' => w'.cell? ⟨b, 0, .none⟩ = some vb) (first | exact k5 | exact k7 | go_keep) (first
          | (go_at_call 18; refine (same17_any v5 vb L2 L2 w5 (Rd.of_owns HL5.out) (Rd.of_owns HR5.out.row) (by omega) (by omega)).mono ?_; rw [decide_eq_true rfl]; rintro e w30 ⟨rfl, hC⟩; have HB30 := Lib.hid (HB5.out.idle hC); have HV30 := Lib.hid (show Opb w30 zb z0 z1 z2 from hC.same HV5.out); have HG30 := Lib.hid (hC.same HG5.out); have HH30 := Lib.hid (hC.same HH5.out); have k7 := (HR5.out.idle hC).cell0; clear hC)
          | (go_at_call 17; refine (HB3.out.a.list hLb).mono ?_; rintro e w5 ⟨v5, rfl, r1, hC, -⟩; have HL5 := Lib.hid r1; have HB5 := Lib.hid (HB3.out.idle hC); have HV5 := Lib.hid (show Opb w5 zb z0 z1 z2 from hC.same HV3.out); have HG5 := Lib.hid (hC.same HG3.out); have HH5 := Lib.hid (hC.same HH3.out); have HR5 := Lib.hid (HR3.out.idle hC); have k5 := HR5.out.cell0; clear r1 hC))
        all_goals
          clear HB3 HV3 HG3 HH3 HR3 HL5 HB5 HV5 HG5 HH5 HR5 HBb HVb HGb HHb HVB k0
          obtain ⟨T, hT⟩ : ∃ T, T = Ra.total L2 := ⟨_, rfl⟩
          obtain ⟨hx, hhx⟩ : ∃ T, T = hasV L2 z1 := ⟨_, rfl⟩
          obtain ⟨nx, hnx⟩ : ∃ T, T = nxtV L2 z1 := ⟨_, rfl⟩
          obtain ⟨ny, hny⟩ : ∃ T, T = nxtV L2 z2 := ⟨_, rfl⟩
          obtain ⟨cv, hcv⟩ : ∃ T, T = covV L2 z1 z2 := ⟨_, rfl⟩
          have HQ1 := Lib.hid (show ∀ w', Chg Nowhere w30 w' → Calls Try.prog 27 #[.pointer (some ⟨a2, 0, none⟩)] w' (Gives w' (.int .i64 T)) from fun w' h => hT ▸ (HB30.out.idle h).a.total hLb)
          have HQ2 := Lib.hid (show ∀ w', Chg Nowhere w30 w' → Calls Try.prog 28 #[.pointer (some ⟨b, 0, none⟩)] w' (Gives w' (.int .i64 T)) from fun w' h => hT ▸ (HB30.out.idle h).rtotal hLb)
          have HQ3 := Lib.hid (show ∀ w', Chg Nowhere w30 w' → Calls Try.prog 21 #[.pointer (some ⟨a2, 0, none⟩), .int .i64 z1] w' (Gives w' (.bool hx)) from fun w' h => hhx ▸ Calls.has_v ((HB30.out.idle h).a.has hLb z1))
          have HQ4 := Lib.hid (show ∀ w', Chg Nowhere w30 w' → Calls Try.prog 29 #[.pointer (some ⟨b, 0, none⟩), .int .i64 z1] w' (Gives w' (.bool hx)) from fun w' h => hhx ▸ Calls.has_v ((HB30.out.idle h).rhas0 hLb z1))
          have HQ5 := Lib.hid (show ∀ w', Chg Nowhere w30 w' → Calls Try.prog 30 #[.pointer (some ⟨a2, 0, none⟩), .int .i64 z1] w' (Gives w' (.int .i64 nx)) from fun w' h => hnx ▸ Calls.next_v ((HB30.out.idle h).a.next hLb z1))
          have HQ6 := Lib.hid (show ∀ w', Chg Nowhere w30 w' → Calls Try.prog 31 #[.pointer (some ⟨b, 0, none⟩), .int .i64 z1] w' (Gives w' (.int .i64 nx)) from fun w' h => hnx ▸ Calls.next_v ((HB30.out.idle h).rnext0 hLb z1))
          have HQ7 := Lib.hid (show ∀ w', Chg Nowhere w30 w' → Calls Try.prog 30 #[.pointer (some ⟨a2, 0, none⟩), .int .i64 z2] w' (Gives w' (.int .i64 ny)) from fun w' h => hny ▸ Calls.next_v ((HB30.out.idle h).a.next hLb z2))
          have HQ8 := Lib.hid (show ∀ w', Chg Nowhere w30 w' → Calls Try.prog 31 #[.pointer (some ⟨b, 0, none⟩), .int .i64 z2] w' (Gives w' (.int .i64 ny)) from fun w' h => hny ▸ Calls.next_v ((HB30.out.idle h).rnext0 hLb z2))
          have HQ9 := Lib.hid (show ∀ w', Chg Nowhere w30 w' → Calls Try.prog 32 #[.pointer (some ⟨a2, 0, none⟩), .int .i64 z1, .int .i64 z2] w' (Gives w' (.bool cv)) from fun w' h => hcv ▸ Calls.cov_v ((HB30.out.idle h).a.covers hLb z1 z2))
          have HQ10 := Lib.hid (show ∀ w', Chg Nowhere w30 w' → Calls Try.prog 33 #[.pointer (some ⟨b, 0, none⟩), .int .i64 z1, .int .i64 z2] w' (Gives w' (.bool cv)) from fun w' h => hcv ▸ Calls.cov_v ((HB30.out.idle h).rcov0 hLb z1 z2))
          have HM0 := Lib.hid (show ∀ w', Chg Nowhere w30 w' → w'.cell? ⟨ga, 0, none⟩ = some (.int .i64 g1) ∧ w'.cell? ⟨ga, 0 + 1, none⟩ = some (.int .i64 g2) from fun w' h => ⟨by rw [cell_blk (h.same HG30.out)]; rfl, by rw [cell_blk (h.same HG30.out)]; rfl⟩)
          have HN0 := Lib.hid (show ∀ w', Chg Nowhere w30 w' → w'.cell? ⟨gh, 0, none⟩ = some (.int .i64 g1) ∧ w'.cell? ⟨gh, 0 + 1, none⟩ = some (.int .i64 g2) from fun w' h => ⟨by rw [cell_blk (h.same HH30.out)]; rfl, by rw [cell_blk (h.same HH30.out)]; rfl⟩)
          have HOP := Lib.hid (show ∀ w', Chg Nowhere w30 w' → w'.cell? ⟨zb, 1, none⟩ = some (.int .i64 z1) ∧ w'.cell? ⟨zb, 2, none⟩ = some (.int .i64 z2) from fun w' h => ⟨Opb.c1 (h.same HV30.out), Opb.c2 (h.same HV30.out)⟩)
          clear hT hhx hnx hny hcv HV30 HG30 HH30 k5 k7
          go_upto_region 29 with fail
          dsimp only [HAppend.hAppend, Append.append, List.append]
          refine wp_region_calmG 72 [106, 107, 108, 109, 110, 111, 112, 113, 114, 115, 116, 117, 118, 119, 120, 121, 122, 123, 124, 125, 126, 127, 128, 129, 130, 131, 132, 133, 134, 135, 136, 137, 138, 139, 140, 141, 142, 143, 144, 145, 146, 147, 148, 149, 150, 151, 152, 153, 154, 155, 156, 157, 158, 159, 160, 161, 162, 163, 164, 165, 166, 167, 168, 169, 170, 171, 172, 173, 174, 175, 176, 177] [] [⟨[106], fun v _ => v = [.int .i64 x]⟩, ⟨[107], fun v _ => v = [.int .i64 x]⟩, ⟨[108], fun v _ => v = [.bool false]⟩, ⟨[109], fun v _ => v = [.bool false]⟩, ⟨[110], fun v _ => v = [.agg #[.int .i64 g1, .int .i64 g2]]⟩, ⟨[111], fun v _ => v = [.agg #[.int .i64 g1, .int .i64 g2]]⟩, ⟨[112], fun v _ => v = [.bool false]⟩, ⟨[113], fun v _ => v = [.bool false]⟩, ⟨[114], fun v _ => v = [.bool false]⟩, ⟨[115], fun v _ => v = [.bool gb]⟩, ⟨[116], fun v _ => v = [.bool gb]⟩, ⟨[117], fun v _ => v = [.bool false]⟩, ⟨[118], fun v _ => v = [.bool false]⟩, ⟨[119], fun v _ => v = [.bool false]⟩, ⟨[120], fun v _ => v = [.bool true]⟩, ⟨[121], fun v _ => v = [.bool false]⟩, ⟨[122], fun v _ => v = [.bool false]⟩, ⟨[123], fun v _ => v = [.bool false]⟩, ⟨[124], fun v _ => v = [.pointer (some ⟨a2, 0, none⟩)]⟩, ⟨[125], fun v _ => v = [.int .i64 T]⟩, ⟨[126], fun v _ => v = [.pointer (some ⟨b, 0, none⟩)]⟩, ⟨[127], fun v _ => v = [.int .i64 T]⟩, ⟨[128], fun v _ => v = [.bool false]⟩, ⟨[129], fun v _ => v = [.bool false]⟩, ⟨[130], fun v _ => v = [.bool false]⟩, ⟨[131], fun v _ => v = [.pointer (some ⟨a2, 0, none⟩)]⟩, ⟨[132], fun v _ => v = [.pointer (some ⟨zb, 1, none⟩)]⟩, ⟨[133], fun v _ => v = [.int .i64 z1]⟩, ⟨[134], fun v _ => v = [.bool hx]⟩, ⟨[135], fun v _ => v = [.pointer (some ⟨b, 0, none⟩)]⟩, ⟨[136], fun v _ => v = [.pointer (some ⟨zb, 1, none⟩)]⟩, ⟨[137], fun v _ => v = [.int .i64 z1]⟩, ⟨[138], fun v _ => v = [.bool hx]⟩, ⟨[139], fun v _ => v = [.bool false]⟩, ⟨[140], fun v _ => v = [.bool false]⟩, ⟨[141], fun v _ => v = [.bool false]⟩, ⟨[142], fun v _ => v = [.pointer (some ⟨a2, 0, none⟩)]⟩, ⟨[143], fun v _ => v = [.pointer (some ⟨zb, 1, none⟩)]⟩, ⟨[144], fun v _ => v = [.int .i64 z1]⟩, ⟨[145], fun v _ => v = [.int .i64 nx]⟩, ⟨[146], fun v _ => v = [.pointer (some ⟨b, 0, none⟩)]⟩, ⟨[147], fun v _ => v = [.pointer (some ⟨zb, 1, none⟩)]⟩, ⟨[148], fun v _ => v = [.int .i64 z1]⟩, ⟨[149], fun v _ => v = [.int .i64 nx]⟩, ⟨[150], fun v _ => v = [.bool false]⟩, ⟨[151], fun v _ => v = [.bool false]⟩, ⟨[152], fun v _ => v = [.bool false]⟩, ⟨[153], fun v _ => v = [.pointer (some ⟨a2, 0, none⟩)]⟩, ⟨[154], fun v _ => v = [.pointer (some ⟨zb, 2, none⟩)]⟩, ⟨[155], fun v _ => v = [.int .i64 z2]⟩, ⟨[156], fun v _ => v = [.int .i64 ny]⟩, ⟨[157], fun v _ => v = [.pointer (some ⟨b, 0, none⟩)]⟩, ⟨[158], fun v _ => v = [.pointer (some ⟨zb, 2, none⟩)]⟩, ⟨[159], fun v _ => v = [.int .i64 z2]⟩, ⟨[160], fun v _ => v = [.int .i64 ny]⟩, ⟨[161], fun v _ => v = [.bool false]⟩, ⟨[162], fun v _ => v = [.bool false]⟩, ⟨[163], fun v _ => v = [.bool false]⟩, ⟨[164], fun v _ => v = [.pointer (some ⟨a2, 0, none⟩)]⟩, ⟨[165], fun v _ => v = [.pointer (some ⟨zb, 1, none⟩)]⟩, ⟨[166], fun v _ => v = [.int .i64 z1]⟩, ⟨[167], fun v _ => v = [.pointer (some ⟨zb, 2, none⟩)]⟩, ⟨[168], fun v _ => v = [.int .i64 z2]⟩, ⟨[169], fun v _ => v = [.bool cv]⟩, ⟨[170], fun v _ => v = [.pointer (some ⟨b, 0, none⟩)]⟩, ⟨[171], fun v _ => v = [.pointer (some ⟨zb, 1, none⟩)]⟩, ⟨[172], fun v _ => v = [.int .i64 z1]⟩, ⟨[173], fun v _ => v = [.pointer (some ⟨zb, 2, none⟩)]⟩, ⟨[174], fun v _ => v = [.int .i64 z2]⟩, ⟨[175], fun v _ => v = [.bool cv]⟩, ⟨[176], fun v _ => v = [.bool false]⟩, ⟨[177], fun v _ => v = [.bool false]⟩] (Chg Nowhere) (by kernel_rfl) (by kernel_rfl) (Chg.refl _) Chg.trans' Chg.size (by decide) (Chg.refl Nowhere _).drew ?_ ?_ ?_
          · exact ⟨fun _ _ _ _ h => h, fun _ _ _ _ h => h, fun _ _ _ _ h => h, fun _ _ _ _ h => h, fun _ _ _ _ h => h, fun _ _ _ _ h => h, fun _ _ _ _ h => h, fun _ _ _ _ h => h, fun _ _ _ _ h => h, fun _ _ _ _ h => h, fun _ _ _ _ h => h, fun _ _ _ _ h => h, fun _ _ _ _ h => h, fun _ _ _ _ h => h, fun _ _ _ _ h => h, fun _ _ _ _ h => h, fun _ _ _ _ h => h, fun _ _ _ _ h => h, fun _ _ _ _ h => h, fun _ _ _ _ h => h, fun _ _ _ _ h => h, fun _ _ _ _ h => h, fun _ _ _ _ h => h, fun _ _ _ _ h => h, fun _ _ _ _ h => h, fun _ _ _ _ h => h, fun _ _ _ _ h => h, fun _ _ _ _ h => h, fun _ _ _ _ h => h, fun _ _ _ _ h => h, fun _ _ _ _ h => h, fun _ _ _ _ h => h, fun _ _ _ _ h => h, fun _ _ _ _ h => h, fun _ _ _ _ h => h, fun _ _ _ _ h => h, fun _ _ _ _ h => h, fun _ _ _ _ h => h, fun _ _ _ _ h => h, fun _ _ _ _ h => h, fun _ _ _ _ h => h, fun _ _ _ _ h => h, fun _ _ _ _ h => h, fun _ _ _ _ h => h, fun _ _ _ _ h => h, fun _ _ _ _ h => h, fun _ _ _ _ h => h, fun _ _ _ _ h => h, fun _ _ _ _ h => h, fun _ _ _ _ h => h, fun _ _ _ _ h => h, fun _ _ _ _ h => h, fun _ _ _ _ h => h, fun _ _ _ _ h => h, fun _ _ _ _ h => h, fun _ _ _ _ h => h, fun _ _ _ _ h => h, fun _ _ _ _ h => h, fun _ _ _ _ h => h, fun _ _ _ _ h => h, fun _ _ _ _ h => h, fun _ _ _ _ h => h, fun _ _ _ _ h => h, fun _ _ _ _ h => h, fun _ _ _ _ h => h, fun _ _ _ _ h => h, fun _ _ _ _ h => h, fun _ _ _ _ h => h, fun _ _ _ _ h => h, fun _ _ _ _ h => h, fun _ _ _ _ h => h, fun _ _ _ _ h => h, trivial⟩
          · simp only [List.take_succ_cons, List.take_zero]
            refine StepsG.cons (fun _ _ _ _ => want_none rfl) ?_ (StepsG.cons (fun _ _ _ _ => want_none rfl) ?_ (StepsG.cons (fun _ _ _ _ => want_none rfl) ?_ (StepsG.cons (fun _ _ _ _ => want_none rfl) ?_ (StepsG.cons (fun f w' hR hd => want_some (j := 3) (d := 109) rfl rfl rfl rfl (List.head_eq_of_cons_eq (hd 3 (by kernel_rfl)))) ?_ (StepsG.cons (fun f w' hR hd => want_some (j := 3) (d := 109) rfl rfl rfl rfl (List.head_eq_of_cons_eq (hd 3 (by kernel_rfl)))) ?_ (StepsG.cons (fun f w' hR hd => want_some (j := 3) (d := 109) rfl rfl rfl rfl (List.head_eq_of_cons_eq (hd 3 (by kernel_rfl)))) ?_ (StepsG.cons (fun _ _ _ _ => want_none rfl) ?_ (StepsG.cons (fun _ _ _ _ => want_none rfl) ?_ (StepsG.cons (fun f w' hR hd => want_some (j := 8) (d := 114) rfl rfl rfl rfl (List.head_eq_of_cons_eq (hd 8 (by kernel_rfl)))) ?_ (StepsG.cons (fun f w' hR hd => want_some (j := 8) (d := 114) rfl rfl rfl rfl (List.head_eq_of_cons_eq (hd 8 (by kernel_rfl)))) ?_ (StepsG.cons (fun f w' hR hd => want_some (j := 8) (d := 114) rfl rfl rfl rfl (List.head_eq_of_cons_eq (hd 8 (by kernel_rfl)))) ?_ (StepsG.cons (fun _ _ _ _ => want_none rfl) ?_ (StepsG.cons (fun _ _ _ _ => want_none rfl) ?_ (StepsG.cons (fun f w' hR hd => want_some (j := 13) (d := 119) rfl rfl rfl rfl (List.head_eq_of_cons_eq (hd 13 (by kernel_rfl)))) ?_ (StepsG.cons (fun f w' hR hd => want_some (j := 13) (d := 119) rfl rfl rfl rfl (List.head_eq_of_cons_eq (hd 13 (by kernel_rfl)))) ?_ (StepsG.cons (fun _ _ _ _ => want_none rfl) ?_ (StepsG.cons (fun _ _ _ _ => want_none rfl) ?_ (StepsG.cons (fun f w' hR hd => want_some (j := 17) (d := 123) rfl rfl rfl rfl (List.head_eq_of_cons_eq (hd 17 (by kernel_rfl)))) ?_ (StepsG.cons (fun f w' hR hd => want_some (j := 17) (d := 123) rfl rfl rfl rfl (List.head_eq_of_cons_eq (hd 17 (by kernel_rfl)))) ?_ (StepsG.cons (fun f w' hR hd => want_some (j := 17) (d := 123) rfl rfl rfl rfl (List.head_eq_of_cons_eq (hd 17 (by kernel_rfl)))) ?_ (StepsG.cons (fun f w' hR hd => want_some (j := 17) (d := 123) rfl rfl rfl rfl (List.head_eq_of_cons_eq (hd 17 (by kernel_rfl)))) ?_ (StepsG.cons (fun f w' hR hd => want_some (j := 17) (d := 123) rfl rfl rfl rfl (List.head_eq_of_cons_eq (hd 17 (by kernel_rfl)))) ?_ (StepsG.cons (fun _ _ _ _ => want_none rfl) ?_ (StepsG.cons (fun _ _ _ _ => want_none rfl) ?_ (StepsG.cons (fun f w' hR hd => want_some (j := 24) (d := 130) rfl rfl rfl rfl (List.head_eq_of_cons_eq (hd 24 (by kernel_rfl)))) ?_ (StepsG.cons (fun f w' hR hd => want_some (j := 24) (d := 130) rfl rfl rfl rfl (List.head_eq_of_cons_eq (hd 24 (by kernel_rfl)))) ?_ (StepsG.cons (fun f w' hR hd => want_some (j := 24) (d := 130) rfl rfl rfl rfl (List.head_eq_of_cons_eq (hd 24 (by kernel_rfl)))) ?_ (StepsG.cons (fun f w' hR hd => want_some (j := 24) (d := 130) rfl rfl rfl rfl (List.head_eq_of_cons_eq (hd 24 (by kernel_rfl)))) ?_ (StepsG.cons (fun f w' hR hd => want_some (j := 24) (d := 130) rfl rfl rfl rfl (List.head_eq_of_cons_eq (hd 24 (by kernel_rfl)))) ?_ (StepsG.cons (fun f w' hR hd => want_some (j := 24) (d := 130) rfl rfl rfl rfl (List.head_eq_of_cons_eq (hd 24 (by kernel_rfl)))) ?_ (StepsG.cons (fun f w' hR hd => want_some (j := 24) (d := 130) rfl rfl rfl rfl (List.head_eq_of_cons_eq (hd 24 (by kernel_rfl)))) ?_ (StepsG.cons (fun f w' hR hd => want_some (j := 24) (d := 130) rfl rfl rfl rfl (List.head_eq_of_cons_eq (hd 24 (by kernel_rfl)))) ?_ (StepsG.cons (fun f w' hR hd => want_some (j := 24) (d := 130) rfl rfl rfl rfl (List.head_eq_of_cons_eq (hd 24 (by kernel_rfl)))) ?_ (StepsG.cons (fun _ _ _ _ => want_none rfl) ?_ (StepsG.cons (fun _ _ _ _ => want_none rfl) ?_ (StepsG.cons (fun f w' hR hd => want_some (j := 35) (d := 141) rfl rfl rfl rfl (List.head_eq_of_cons_eq (hd 35 (by kernel_rfl)))) ?_ (StepsG.cons (fun f w' hR hd => want_some (j := 35) (d := 141) rfl rfl rfl rfl (List.head_eq_of_cons_eq (hd 35 (by kernel_rfl)))) ?_ (StepsG.cons (fun f w' hR hd => want_some (j := 35) (d := 141) rfl rfl rfl rfl (List.head_eq_of_cons_eq (hd 35 (by kernel_rfl)))) ?_ (StepsG.cons (fun f w' hR hd => want_some (j := 35) (d := 141) rfl rfl rfl rfl (List.head_eq_of_cons_eq (hd 35 (by kernel_rfl)))) ?_ (StepsG.cons (fun f w' hR hd => want_some (j := 35) (d := 141) rfl rfl rfl rfl (List.head_eq_of_cons_eq (hd 35 (by kernel_rfl)))) ?_ (StepsG.cons (fun f w' hR hd => want_some (j := 35) (d := 141) rfl rfl rfl rfl (List.head_eq_of_cons_eq (hd 35 (by kernel_rfl)))) ?_ (StepsG.cons (fun f w' hR hd => want_some (j := 35) (d := 141) rfl rfl rfl rfl (List.head_eq_of_cons_eq (hd 35 (by kernel_rfl)))) ?_ (StepsG.cons (fun f w' hR hd => want_some (j := 35) (d := 141) rfl rfl rfl rfl (List.head_eq_of_cons_eq (hd 35 (by kernel_rfl)))) ?_ (StepsG.cons (fun f w' hR hd => want_some (j := 35) (d := 141) rfl rfl rfl rfl (List.head_eq_of_cons_eq (hd 35 (by kernel_rfl)))) ?_ (StepsG.cons (fun _ _ _ _ => want_none rfl) ?_ (StepsG.cons (fun _ _ _ _ => want_none rfl) ?_ (StepsG.cons (fun f w' hR hd => want_some (j := 46) (d := 152) rfl rfl rfl rfl (List.head_eq_of_cons_eq (hd 46 (by kernel_rfl)))) ?_ (StepsG.cons (fun f w' hR hd => want_some (j := 46) (d := 152) rfl rfl rfl rfl (List.head_eq_of_cons_eq (hd 46 (by kernel_rfl)))) ?_ (StepsG.cons (fun f w' hR hd => want_some (j := 46) (d := 152) rfl rfl rfl rfl (List.head_eq_of_cons_eq (hd 46 (by kernel_rfl)))) ?_ (StepsG.cons (fun f w' hR hd => want_some (j := 46) (d := 152) rfl rfl rfl rfl (List.head_eq_of_cons_eq (hd 46 (by kernel_rfl)))) ?_ (StepsG.cons (fun f w' hR hd => want_some (j := 46) (d := 152) rfl rfl rfl rfl (List.head_eq_of_cons_eq (hd 46 (by kernel_rfl)))) ?_ (StepsG.cons (fun f w' hR hd => want_some (j := 46) (d := 152) rfl rfl rfl rfl (List.head_eq_of_cons_eq (hd 46 (by kernel_rfl)))) ?_ (StepsG.cons (fun f w' hR hd => want_some (j := 46) (d := 152) rfl rfl rfl rfl (List.head_eq_of_cons_eq (hd 46 (by kernel_rfl)))) ?_ (StepsG.cons (fun f w' hR hd => want_some (j := 46) (d := 152) rfl rfl rfl rfl (List.head_eq_of_cons_eq (hd 46 (by kernel_rfl)))) ?_ (StepsG.cons (fun f w' hR hd => want_some (j := 46) (d := 152) rfl rfl rfl rfl (List.head_eq_of_cons_eq (hd 46 (by kernel_rfl)))) ?_ (StepsG.cons (fun _ _ _ _ => want_none rfl) ?_ (StepsG.cons (fun _ _ _ _ => want_none rfl) ?_ (StepsG.cons (fun f w' hR hd => want_some (j := 57) (d := 163) rfl rfl rfl rfl (List.head_eq_of_cons_eq (hd 57 (by kernel_rfl)))) ?_ (StepsG.cons (fun f w' hR hd => want_some (j := 57) (d := 163) rfl rfl rfl rfl (List.head_eq_of_cons_eq (hd 57 (by kernel_rfl)))) ?_ (StepsG.cons (fun f w' hR hd => want_some (j := 57) (d := 163) rfl rfl rfl rfl (List.head_eq_of_cons_eq (hd 57 (by kernel_rfl)))) ?_ (StepsG.cons (fun f w' hR hd => want_some (j := 57) (d := 163) rfl rfl rfl rfl (List.head_eq_of_cons_eq (hd 57 (by kernel_rfl)))) ?_ (StepsG.cons (fun f w' hR hd => want_some (j := 57) (d := 163) rfl rfl rfl rfl (List.head_eq_of_cons_eq (hd 57 (by kernel_rfl)))) ?_ (StepsG.cons (fun f w' hR hd => want_some (j := 57) (d := 163) rfl rfl rfl rfl (List.head_eq_of_cons_eq (hd 57 (by kernel_rfl)))) ?_ (StepsG.cons (fun f w' hR hd => want_some (j := 57) (d := 163) rfl rfl rfl rfl (List.head_eq_of_cons_eq (hd 57 (by kernel_rfl)))) ?_ (StepsG.cons (fun f w' hR hd => want_some (j := 57) (d := 163) rfl rfl rfl rfl (List.head_eq_of_cons_eq (hd 57 (by kernel_rfl)))) ?_ (StepsG.cons (fun f w' hR hd => want_some (j := 57) (d := 163) rfl rfl rfl rfl (List.head_eq_of_cons_eq (hd 57 (by kernel_rfl)))) ?_ (StepsG.cons (fun f w' hR hd => want_some (j := 57) (d := 163) rfl rfl rfl rfl (List.head_eq_of_cons_eq (hd 57 (by kernel_rfl)))) ?_ (StepsG.cons (fun f w' hR hd => want_some (j := 57) (d := 163) rfl rfl rfl rfl (List.head_eq_of_cons_eq (hd 57 (by kernel_rfl)))) ?_ (StepsG.cons (fun f w' hR hd => want_some (j := 57) (d := 163) rfl rfl rfl rfl (List.head_eq_of_cons_eq (hd 57 (by kernel_rfl)))) ?_ (StepsG.cons (fun f w' hR hd => want_some (j := 57) (d := 163) rfl rfl rfl rfl (List.head_eq_of_cons_eq (hd 57 (by kernel_rfl)))) ?_ (StepsG.cons (fun _ _ _ _ => want_none rfl) ?_ StepsG.nil)))))))))))))))))))))))))))))))))))))))))))))))))))))))))))))))))))))))
            · intro f w' hR hd K Q' hK
              exact wp_move rfl rfl (hK _ _ (Chg.refl _ _) rfl (fun d h1 h2 => by simp at h2))
            · intro f w' hR hd K Q' hK
              exact wp_move rfl rfl (hK _ _ (Chg.refl _ _) rfl (fun d h1 h2 => by simp at h2))
            · intro f w' hR hd K Q' hK
              exact wp_bin rfl (List.head_eq_of_cons_eq (hd 0 (by kernel_rfl))) (List.head_eq_of_cons_eq (hd 1 (by kernel_rfl))) (neg_int _ _ _ _ _) (ne_int _ _) (hK _ _ (Chg.refl _ _) rfl (fun d h1 h2 => by simp at h2))
            · intro f w' hR hd K Q' hK
              exact wp_move rfl (List.head_eq_of_cons_eq (hd 2 (by kernel_rfl))) (hK _ _ (Chg.refl _ _) rfl (fun d h1 h2 => by simp at h2))
            · intro f w' hR hd K Q' hK
              exact wp_load_one rfl rfl (ldR ga 0 g1 g2 w' (HM0.out w' hR).1 (HM0.out w' hR).2) (hK _ _ (Chg.refl _ _) rfl (fun d h1 h2 => by simp at h2))
            · intro f w' hR hd K Q' hK
              exact wp_load_one rfl rfl (ldR gh 0 g1 g2 w' (HN0.out w' hR).1 (HN0.out w' hR).2) (hK _ _ (Chg.refl _ _) rfl (fun d h1 h2 => by simp at h2))
            · intro f w' hR hd K Q' hK
              exact wp_bin rfl (List.head_eq_of_cons_eq (hd 4 (by kernel_rfl))) (List.head_eq_of_cons_eq (hd 5 (by kernel_rfl))) (neg_rng _ _ _ _ _ _ _) (ne_rng _ _ _) (hK _ _ (Chg.refl _ _) rfl (fun d h1 h2 => by simp at h2))
            · intro f w' hR hd K Q' hK
              exact wp_pick (b := false) rfl (List.head_eq_of_cons_eq (hd 3 (by kernel_rfl))) (List.head_eq_of_cons_eq (hd 6 (by kernel_rfl))) (hK _ _ (Chg.refl _ _) rfl (fun d h1 h2 => by simp at h2))
            · intro f w' hR hd K Q' hK
              exact wp_move rfl (List.head_eq_of_cons_eq (hd 7 (by kernel_rfl))) (hK _ _ (Chg.refl _ _) rfl (fun d h1 h2 => by simp at h2))
            · intro f w' hR hd K Q' hK
              exact wp_move rfl rfl (hK _ _ (Chg.refl _ _) rfl (fun d h1 h2 => by simp at h2))
            · intro f w' hR hd K Q' hK
              exact wp_move rfl rfl (hK _ _ (Chg.refl _ _) rfl (fun d h1 h2 => by simp at h2))
            · intro f w' hR hd K Q' hK
              exact wp_bin rfl (List.head_eq_of_cons_eq (hd 9 (by kernel_rfl))) (List.head_eq_of_cons_eq (hd 10 (by kernel_rfl))) (neg_bool _ _ _ _ _) (ne_bool _ _) (hK _ _ (Chg.refl _ _) rfl (fun d h1 h2 => by simp at h2))
            · intro f w' hR hd K Q' hK
              exact wp_pick (b := false) rfl (List.head_eq_of_cons_eq (hd 8 (by kernel_rfl))) (List.head_eq_of_cons_eq (hd 11 (by kernel_rfl))) (hK _ _ (Chg.refl _ _) rfl (fun d h1 h2 => by simp at h2))
            · intro f w' hR hd K Q' hK
              exact wp_move rfl (List.head_eq_of_cons_eq (hd 12 (by kernel_rfl))) (hK _ _ (Chg.refl _ _) rfl (fun d h1 h2 => by simp at h2))
            · intro f w' hR hd K Q' hK
              exact wp_move rfl rfl (hK _ _ (Chg.refl _ _) rfl (fun d h1 h2 => by simp at h2))
            · intro f w' hR hd K Q' hK
              exact wp_un rfl (List.head_eq_of_cons_eq (hd 14 (by kernel_rfl))) (not_true _) (hK _ _ (Chg.refl _ _) rfl (fun d h1 h2 => by simp at h2))
            · intro f w' hR hd K Q' hK
              exact wp_pick (b := false) rfl (List.head_eq_of_cons_eq (hd 13 (by kernel_rfl))) (List.head_eq_of_cons_eq (hd 15 (by kernel_rfl))) (hK _ _ (Chg.refl _ _) rfl (fun d h1 h2 => by simp at h2))
            · intro f w' hR hd K Q' hK
              exact wp_move rfl (List.head_eq_of_cons_eq (hd 16 (by kernel_rfl))) (hK _ _ (Chg.refl _ _) rfl (fun d h1 h2 => by simp at h2))
            · intro f w' hR hd K Q' hK
              exact wp_move rfl rfl (hK _ _ (Chg.refl _ _) rfl (fun d h1 h2 => by simp at h2))
            · intro f w' hR hd K Q' hK
              exact wp_call_fn rfl en_tot [.pointer (some ⟨a2, 0, none⟩)] (hd 18 (by kernel_rfl)) ((HQ1.out w' hR).mono fun e w4 ⟨he, hC4⟩ => ⟨_, he, hK _ _ hC4 rfl (fun d h1 h2 => by simp at h2)⟩)
            · intro f w' hR hd K Q' hK
              exact wp_move rfl rfl (hK _ _ (Chg.refl _ _) rfl (fun d h1 h2 => by simp at h2))
            · intro f w' hR hd K Q' hK
              exact wp_call_fn rfl en_rtot [.pointer (some ⟨b, 0, none⟩)] (hd 20 (by kernel_rfl)) ((HQ2.out w' hR).mono fun e w4 ⟨he, hC4⟩ => ⟨_, he, hK _ _ hC4 rfl (fun d h1 h2 => by simp at h2)⟩)
            · intro f w' hR hd K Q' hK
              exact wp_bin rfl (List.head_eq_of_cons_eq (hd 19 (by kernel_rfl))) (List.head_eq_of_cons_eq (hd 21 (by kernel_rfl))) (neg_int _ _ _ _ _) (ne_int _ _) (hK _ _ (Chg.refl _ _) rfl (fun d h1 h2 => by simp at h2))
            · intro f w' hR hd K Q' hK
              exact wp_pick (b := false) rfl (List.head_eq_of_cons_eq (hd 17 (by kernel_rfl))) (List.head_eq_of_cons_eq (hd 22 (by kernel_rfl))) (hK _ _ (Chg.refl _ _) rfl (fun d h1 h2 => by simp at h2))
            · intro f w' hR hd K Q' hK
              exact wp_move rfl (List.head_eq_of_cons_eq (hd 23 (by kernel_rfl))) (hK _ _ (Chg.refl _ _) rfl (fun d h1 h2 => by simp at h2))
            · intro f w' hR hd K Q' hK
              exact wp_move rfl rfl (hK _ _ (Chg.refl _ _) rfl (fun d h1 h2 => by simp at h2))
            · intro f w' hR hd K Q' hK
              exact wp_field_at rfl rfl (fa_op1 zb _) (hK _ _ (Chg.refl _ _) rfl (fun d h1 h2 => by simp at h2))
            · intro f w' hR hd K Q' hK
              exact wp_load_one rfl (List.head_eq_of_cons_eq (hd 26 (by kernel_rfl))) (ld3 zb 1 z1 w' ((HOP.out w' hR).1)) (hK _ _ (Chg.refl _ _) rfl (fun d h1 h2 => by simp at h2))
            · intro f w' hR hd K Q' hK
              exact wp_call_fn rfl en_has [.pointer (some ⟨a2, 0, none⟩), .int .i64 z1] (two_args (hd 25 (by kernel_rfl)) (hd 27 (by kernel_rfl))) ((HQ3.out w' hR).mono fun e w4 ⟨he, hC4⟩ => ⟨_, he, hK _ _ hC4 rfl (fun d h1 h2 => by simp at h2)⟩)
            · intro f w' hR hd K Q' hK
              exact wp_move rfl rfl (hK _ _ (Chg.refl _ _) rfl (fun d h1 h2 => by simp at h2))
            · intro f w' hR hd K Q' hK
              exact wp_field_at rfl rfl (fa_op1 zb _) (hK _ _ (Chg.refl _ _) rfl (fun d h1 h2 => by simp at h2))
            · intro f w' hR hd K Q' hK
              exact wp_load_one rfl (List.head_eq_of_cons_eq (hd 30 (by kernel_rfl))) (ld3 zb 1 z1 w' ((HOP.out w' hR).1)) (hK _ _ (Chg.refl _ _) rfl (fun d h1 h2 => by simp at h2))
            · intro f w' hR hd K Q' hK
              exact wp_call_fn rfl en_rhas [.pointer (some ⟨b, 0, none⟩), .int .i64 z1] (two_args (hd 29 (by kernel_rfl)) (hd 31 (by kernel_rfl))) ((HQ4.out w' hR).mono fun e w4 ⟨he, hC4⟩ => ⟨_, he, hK _ _ hC4 rfl (fun d h1 h2 => by simp at h2)⟩)
            · intro f w' hR hd K Q' hK
              exact wp_bin rfl (List.head_eq_of_cons_eq (hd 28 (by kernel_rfl))) (List.head_eq_of_cons_eq (hd 32 (by kernel_rfl))) (neg_bool _ _ _ _ _) (ne_bool _ _) (hK _ _ (Chg.refl _ _) rfl (fun d h1 h2 => by simp at h2))
            · intro f w' hR hd K Q' hK
              exact wp_pick (b := false) rfl (List.head_eq_of_cons_eq (hd 24 (by kernel_rfl))) (List.head_eq_of_cons_eq (hd 33 (by kernel_rfl))) (hK _ _ (Chg.refl _ _) rfl (fun d h1 h2 => by simp at h2))
            · intro f w' hR hd K Q' hK
              exact wp_move rfl (List.head_eq_of_cons_eq (hd 34 (by kernel_rfl))) (hK _ _ (Chg.refl _ _) rfl (fun d h1 h2 => by simp at h2))
            · intro f w' hR hd K Q' hK
              exact wp_move rfl rfl (hK _ _ (Chg.refl _ _) rfl (fun d h1 h2 => by simp at h2))
            · intro f w' hR hd K Q' hK
              exact wp_field_at rfl rfl (fa_op1 zb _) (hK _ _ (Chg.refl _ _) rfl (fun d h1 h2 => by simp at h2))
            · intro f w' hR hd K Q' hK
              exact wp_load_one rfl (List.head_eq_of_cons_eq (hd 37 (by kernel_rfl))) (ld3 zb 1 z1 w' ((HOP.out w' hR).1)) (hK _ _ (Chg.refl _ _) rfl (fun d h1 h2 => by simp at h2))
            · intro f w' hR hd K Q' hK
              exact wp_call_fn rfl en_next [.pointer (some ⟨a2, 0, none⟩), .int .i64 z1] (two_args (hd 36 (by kernel_rfl)) (hd 38 (by kernel_rfl))) ((HQ5.out w' hR).mono fun e w4 ⟨he, hC4⟩ => ⟨_, he, hK _ _ hC4 rfl (fun d h1 h2 => by simp at h2)⟩)
            · intro f w' hR hd K Q' hK
              exact wp_move rfl rfl (hK _ _ (Chg.refl _ _) rfl (fun d h1 h2 => by simp at h2))
            · intro f w' hR hd K Q' hK
              exact wp_field_at rfl rfl (fa_op1 zb _) (hK _ _ (Chg.refl _ _) rfl (fun d h1 h2 => by simp at h2))
            · intro f w' hR hd K Q' hK
              exact wp_load_one rfl (List.head_eq_of_cons_eq (hd 41 (by kernel_rfl))) (ld3 zb 1 z1 w' ((HOP.out w' hR).1)) (hK _ _ (Chg.refl _ _) rfl (fun d h1 h2 => by simp at h2))
            · intro f w' hR hd K Q' hK
              exact wp_call_fn rfl en_rnext [.pointer (some ⟨b, 0, none⟩), .int .i64 z1] (two_args (hd 40 (by kernel_rfl)) (hd 42 (by kernel_rfl))) ((HQ6.out w' hR).mono fun e w4 ⟨he, hC4⟩ => ⟨_, he, hK _ _ hC4 rfl (fun d h1 h2 => by simp at h2)⟩)
            · intro f w' hR hd K Q' hK
              exact wp_bin rfl (List.head_eq_of_cons_eq (hd 39 (by kernel_rfl))) (List.head_eq_of_cons_eq (hd 43 (by kernel_rfl))) (neg_int _ _ _ _ _) (ne_int _ _) (hK _ _ (Chg.refl _ _) rfl (fun d h1 h2 => by simp at h2))
            · intro f w' hR hd K Q' hK
              exact wp_pick (b := false) rfl (List.head_eq_of_cons_eq (hd 35 (by kernel_rfl))) (List.head_eq_of_cons_eq (hd 44 (by kernel_rfl))) (hK _ _ (Chg.refl _ _) rfl (fun d h1 h2 => by simp at h2))
            · intro f w' hR hd K Q' hK
              exact wp_move rfl (List.head_eq_of_cons_eq (hd 45 (by kernel_rfl))) (hK _ _ (Chg.refl _ _) rfl (fun d h1 h2 => by simp at h2))
            · intro f w' hR hd K Q' hK
              exact wp_move rfl rfl (hK _ _ (Chg.refl _ _) rfl (fun d h1 h2 => by simp at h2))
            · intro f w' hR hd K Q' hK
              exact wp_field_at rfl rfl (fa_op2 zb _) (hK _ _ (Chg.refl _ _) rfl (fun d h1 h2 => by simp at h2))
            · intro f w' hR hd K Q' hK
              exact wp_load_one rfl (List.head_eq_of_cons_eq (hd 48 (by kernel_rfl))) (ld3 zb 2 z2 w' ((HOP.out w' hR).2)) (hK _ _ (Chg.refl _ _) rfl (fun d h1 h2 => by simp at h2))
            · intro f w' hR hd K Q' hK
              exact wp_call_fn rfl en_next [.pointer (some ⟨a2, 0, none⟩), .int .i64 z2] (two_args (hd 47 (by kernel_rfl)) (hd 49 (by kernel_rfl))) ((HQ7.out w' hR).mono fun e w4 ⟨he, hC4⟩ => ⟨_, he, hK _ _ hC4 rfl (fun d h1 h2 => by simp at h2)⟩)
            · intro f w' hR hd K Q' hK
              exact wp_move rfl rfl (hK _ _ (Chg.refl _ _) rfl (fun d h1 h2 => by simp at h2))
            · intro f w' hR hd K Q' hK
              exact wp_field_at rfl rfl (fa_op2 zb _) (hK _ _ (Chg.refl _ _) rfl (fun d h1 h2 => by simp at h2))
            · intro f w' hR hd K Q' hK
              exact wp_load_one rfl (List.head_eq_of_cons_eq (hd 52 (by kernel_rfl))) (ld3 zb 2 z2 w' ((HOP.out w' hR).2)) (hK _ _ (Chg.refl _ _) rfl (fun d h1 h2 => by simp at h2))
            · intro f w' hR hd K Q' hK
              exact wp_call_fn rfl en_rnext [.pointer (some ⟨b, 0, none⟩), .int .i64 z2] (two_args (hd 51 (by kernel_rfl)) (hd 53 (by kernel_rfl))) ((HQ8.out w' hR).mono fun e w4 ⟨he, hC4⟩ => ⟨_, he, hK _ _ hC4 rfl (fun d h1 h2 => by simp at h2)⟩)
            · intro f w' hR hd K Q' hK
              exact wp_bin rfl (List.head_eq_of_cons_eq (hd 50 (by kernel_rfl))) (List.head_eq_of_cons_eq (hd 54 (by kernel_rfl))) (neg_int _ _ _ _ _) (ne_int _ _) (hK _ _ (Chg.refl _ _) rfl (fun d h1 h2 => by simp at h2))
            · intro f w' hR hd K Q' hK
              exact wp_pick (b := false) rfl (List.head_eq_of_cons_eq (hd 46 (by kernel_rfl))) (List.head_eq_of_cons_eq (hd 55 (by kernel_rfl))) (hK _ _ (Chg.refl _ _) rfl (fun d h1 h2 => by simp at h2))
            · intro f w' hR hd K Q' hK
              exact wp_move rfl (List.head_eq_of_cons_eq (hd 56 (by kernel_rfl))) (hK _ _ (Chg.refl _ _) rfl (fun d h1 h2 => by simp at h2))
            · intro f w' hR hd K Q' hK
              exact wp_move rfl rfl (hK _ _ (Chg.refl _ _) rfl (fun d h1 h2 => by simp at h2))
            · intro f w' hR hd K Q' hK
              exact wp_field_at rfl rfl (fa_op1 zb _) (hK _ _ (Chg.refl _ _) rfl (fun d h1 h2 => by simp at h2))
            · intro f w' hR hd K Q' hK
              exact wp_load_one rfl (List.head_eq_of_cons_eq (hd 59 (by kernel_rfl))) (ld3 zb 1 z1 w' ((HOP.out w' hR).1)) (hK _ _ (Chg.refl _ _) rfl (fun d h1 h2 => by simp at h2))
            · intro f w' hR hd K Q' hK
              exact wp_field_at rfl rfl (fa_op2 zb _) (hK _ _ (Chg.refl _ _) rfl (fun d h1 h2 => by simp at h2))
            · intro f w' hR hd K Q' hK
              exact wp_load_one rfl (List.head_eq_of_cons_eq (hd 61 (by kernel_rfl))) (ld3 zb 2 z2 w' ((HOP.out w' hR).2)) (hK _ _ (Chg.refl _ _) rfl (fun d h1 h2 => by simp at h2))
            · intro f w' hR hd K Q' hK
              exact wp_call_fn rfl en_cov [.pointer (some ⟨a2, 0, none⟩), .int .i64 z1, .int .i64 z2] (three_args (hd 58 (by kernel_rfl)) (hd 60 (by kernel_rfl)) (hd 62 (by kernel_rfl))) ((HQ9.out w' hR).mono fun e w4 ⟨he, hC4⟩ => ⟨_, he, hK _ _ hC4 rfl (fun d h1 h2 => by simp at h2)⟩)
            · intro f w' hR hd K Q' hK
              exact wp_move rfl rfl (hK _ _ (Chg.refl _ _) rfl (fun d h1 h2 => by simp at h2))
            · intro f w' hR hd K Q' hK
              exact wp_field_at rfl rfl (fa_op1 zb _) (hK _ _ (Chg.refl _ _) rfl (fun d h1 h2 => by simp at h2))
            · intro f w' hR hd K Q' hK
              exact wp_load_one rfl (List.head_eq_of_cons_eq (hd 65 (by kernel_rfl))) (ld3 zb 1 z1 w' ((HOP.out w' hR).1)) (hK _ _ (Chg.refl _ _) rfl (fun d h1 h2 => by simp at h2))
            · intro f w' hR hd K Q' hK
              exact wp_field_at rfl rfl (fa_op2 zb _) (hK _ _ (Chg.refl _ _) rfl (fun d h1 h2 => by simp at h2))
            · intro f w' hR hd K Q' hK
              exact wp_load_one rfl (List.head_eq_of_cons_eq (hd 67 (by kernel_rfl))) (ld3 zb 2 z2 w' ((HOP.out w' hR).2)) (hK _ _ (Chg.refl _ _) rfl (fun d h1 h2 => by simp at h2))
            · intro f w' hR hd K Q' hK
              exact wp_call_fn rfl en_rcov [.pointer (some ⟨b, 0, none⟩), .int .i64 z1, .int .i64 z2] (three_args (hd 64 (by kernel_rfl)) (hd 66 (by kernel_rfl)) (hd 68 (by kernel_rfl))) ((HQ10.out w' hR).mono fun e w4 ⟨he, hC4⟩ => ⟨_, he, hK _ _ hC4 rfl (fun d h1 h2 => by simp at h2)⟩)
            · intro f w' hR hd K Q' hK
              exact wp_bin rfl (List.head_eq_of_cons_eq (hd 63 (by kernel_rfl))) (List.head_eq_of_cons_eq (hd 69 (by kernel_rfl))) (neg_bool _ _ _ _ _) (ne_bool _ _) (hK _ _ (Chg.refl _ _) rfl (fun d h1 h2 => by simp at h2))
            · intro f w' hR hd K Q' hK
              exact wp_pick (b := false) rfl (List.head_eq_of_cons_eq (hd 57 (by kernel_rfl))) (List.head_eq_of_cons_eq (hd 70 (by kernel_rfl))) (hK _ _ (Chg.refl _ _) rfl (fun d h1 h2 => by simp at h2))
          · intro f w' hR hV hap
            have e177 : f 177 = .bool false := List.head_eq_of_cons_eq (hV 71 (by decide))
            have HB40 := Lib.hid (HB30.out.idle hR)
            clear hR hV hap HB30 HQ1 HQ2 HQ3 HQ4 HQ5 HQ6 HQ7 HQ8 HQ9 HQ10 HM0 HN0 HOP
            set_option linter.unusedSimpArgs false in
            simp only [puts, putsL, List.contains_cons, List.contains_nil, Nat.reduceBEq, Bool.or_true, Bool.true_or, Bool.or_false, Bool.false_eq_true, if_true, if_false, Nat.reduceAdd, List.drop_succ_cons, List.drop_zero, e177]
            clear e177
            go_wp2_with fail
            go_roundw
            case rel => exact ⟨k + 1, a2, L2, by go_num, rfl, by omega, by omega, by omega, HB40⟩
            case measure => simp [intOf]; omega
    · by_cases hk1 : k < N
      · have hd : decide ((k : Int) < (N : Int)) = true := decide_eq_true (by omega)
        have hd2 : decide ((k : Int) < 60) = false := decide_eq_false (by omega)
        have hk3 : (k : Int) < (N : Int) := by omega
        have hk4 : ¬ ((k : Int) < 60) := by omega
        clear hin
        go_wp2_with fail
        go_ret
        exact ⟨rfl, HR.out.chg⟩
      · have hd : decide ((k : Int) < (N : Int)) = false := decide_eq_false (by omega)
        have hk3 : ¬ ((k : Int) < (N : Int)) := by omega
        clear hin
        go_wp2_with fail
        go_ret
        exact ⟨rfl, HR.out.chg⟩
theorem rangesPlays_walk' (s : Option Addr) (cap : Nat) (zs : List {z : Op3 // Op3Ok z}) (w : World) (hle : zs.length ≤ cap) (hcap : cap ≤ maxLen)
    (hz : 0 < zs.length → ∃ g o, s = some ⟨g, o, none⟩ ∧ g < w.heap.size ∧ ∀ (i : Nat) z, zs[i]? = some z → ∀ j u, (op3R z)[j]? = some u → w.cell? ⟨g, o + (i * 3 + j), none⟩ = some u) :
    Calls Try.prog 5 #[.slice s zs.length cap] w (Gives w (.bool true)) := by
  have := rangesPlays_walk s cap (zs.map (·.1)) w (ops_open hle hcap hz)
  rw [List.length_map] at this
  exact this
end Go.Proofs.Ytlkbfacdaelbfaa
