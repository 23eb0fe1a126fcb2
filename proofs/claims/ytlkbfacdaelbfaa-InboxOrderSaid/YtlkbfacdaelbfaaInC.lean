/-
  Package inbox: Held, Read, Clone.
-/
import Derived.Test.YtlkbfacdaelbfaaInB
import Derived.Test.YtlkbfacdaelbfaaCalmR
import Derived.Deep.RegionHeld3
namespace Go.Proofs.Ytlkbfacdaelbfaa
open Go.RowKit Ae
set_option linter.unusedVariables false
set_option linter.unusedSimpArgs false

/-- What is left of the rows behind a number is what is held. -/
theorem In.Ok.cut {x : In} (h : x.Ok) {L' : List Ra.Row} (hG : Ra.Good L') (hd : x.done ≤ 900000) (hm : ∀ n, Ra.mem L' n ↔ Ra.mem x.L n ∧ ¬ (max 0 0 ≤ n ∧ n < min (x.done : Int) Ra.M)) : Ra.total L' = Ra.total x.L - x.done := by
  have e1 := h.total
  have e2 := Ra.total_cnt (N := x.done + x.size) hG (fun n hn => by have := h.top n ((hm n).1 hn).1; have := h.len; omega)
  rw [Ra.cnt_split, Nat.zero_add, Ra.cnt_none (a := 0) (k := x.done) (fun i _ h2 => (Ra.hs_false _ _).2 fun hh => ((hm _).1 hh).2 ⟨by omega, by unfold Ra.M; omega⟩), Ra.cnt_congr (p := Ra.hs L') (q := Ra.hs x.L) (fun i h1 _ => by
    rw [Bool.eq_iff_iff, Ra.hs_iff, Ra.hs_iff, hm]
    exact ⟨fun h => h.1, fun h => ⟨h, fun h2 => by omega⟩⟩)] at e2
  omega
/-- A clone that is cut: what a walk keeps. -/
theorem Moved.new {w w2 w' : World} {c : Nat} {v : Value} {L' : List Ra.Row} (hc : Chg Nowhere w w2) (h1 : w.heap.size ≤ c) (h2 : ∀ i, v.ownBlock = some i → w.heap.size ≤ i) (hm : Moved w2 c v L' w') : Chg Nowhere w w' :=
  hc.trans hm.chg fun i hi hs => by
    rcases hs with rfl | hs
    · omega
    · have := h2 i hs; omega
set_option maxHeartbeats 1600000 in
set_option maxRecDepth 100000 in
theorem heldIn_any (o : Nat) (F : Nat → Prop) (x : In) (w : World) (h : InAt w o F x) (hx : x.Ok) (hd : x.done ≤ 900000) : Calls Try.prog 39 #[.pointer (some ⟨o, 0, none⟩)] w (Gives w (.int .i64 (Ra.total x.L - (x.done : Int)))) := by
  have HR := Lib.hid (hx.rows hd)
  obtain ⟨p, vb, vL, hblk, -, hL, -⟩ := h.ex
  have HBL := Lib.hid hblk
  obtain ⟨T, hT⟩ : ∃ T, T = Ra.total x.L := ⟨_, rfl⟩
  have tb : 0 ≤ T ∧ T ≤ 4611686018427387904 := by rw [hT]; exact Ra.total_in hx.good
  have HGOOD := Lib.hid hx.good
  have HCUT := Lib.hid (fun L' (hG : Ra.Good L') hm => hx.cut (L' := L') hG hd hm)
  have HT := Lib.hid (show ∀ w', Chg Nowhere w w' → Calls Try.prog 27 #[.pointer (some ⟨p, 0, none⟩)] w' (Gives w' (.int .i64 T)) from fun w' hc => hT ▸ totalRa_any p vL x.L w' (hL.idle hc) hx.good (by have := HR.out; omega))
  have HK := Lib.hid (show ∀ w', Chg Nowhere w w' → Calls Try.prog 25 #[.pointer (some ⟨p, 0, none⟩)] w' (GivesNew w' x.L) from fun w' hc => cloneRa_any p vL x.L w' (hL.idle hc) (by have := HR.out; omega))
  have HTE := Lib.hid hT
  have H := Lib.hid h
  have HLL := Lib.hid hL
  clear h hx hL hT hblk
  go_enter Try.func39, Try.ntmps39
  go_upto_region 1 with fail
  have HC0 := Lib.hid ((Chg.refl Nowhere w).drew)
  have HS := Lib.hid (show ∀ w', Chg Nowhere w w' → w'.cell? ⟨o, 3, none⟩ = some (.pointer (some ⟨p, 0, none⟩)) ∧ w'.cell? ⟨o, 1, none⟩ = some (.int .i64 x.done) from fun w' hc => ⟨by rw [cell_blk (hc.same HBL.out)]; rfl, by rw [cell_blk (hc.same HBL.out)]; rfl⟩)
  obtain ⟨k3, k1⟩ := HS.out _ HC0.out
  go_region_held3 (fun w' => w'.cell? ⟨o, 3, none⟩ = some (.pointer (some ⟨p, 0, none⟩)) ∧ w'.cell? ⟨o, 1, none⟩ = some (.int .i64 x.done)) (first | exact ⟨j3, j1⟩ | exact ⟨i3, i1⟩ | exact ⟨h3, h1⟩ | exact ⟨k3, k1⟩ | go_keep) (first
    | (go_at_call 23; refine (HCT.out).mono ?_; rintro e w7 ⟨L', rfl, q1, q2, q3, q4⟩; have HF := Lib.hid (HCUT.out L' q1 q2); have HC7 := Lib.hid (Moved.new HC6.out HN6.out.1 HN6.out.2 q4); have j3 := HS.out w7 HC7.out |>.1; have j1 := HS.out w7 HC7.out |>.2; have hb7 := Ra.total_in q1; clear q1 q2 q3 q4)
    | (go_at_call 25; refine (HK.out _ HC5.out).mono ?_; rintro e w6 ⟨c6, v6, rfl, q1, q2, q3, q4⟩; have HC6 := Lib.hid (HC5.out.then_none q4); have HN6 := Lib.hid (show w.heap.size ≤ c6 ∧ ∀ i, v6.ownBlock = some i → w.heap.size ≤ i from ⟨Nat.le_trans HC5.out.size q2, fun i hi => Nat.le_trans HC5.out.size (q3 i hi)⟩); have HCT := Lib.hid (cut_any c6 v6 x.L 0 x.done w6 q1 HGOOD.out HR.out); have i3 := HS.out w6 HC6.out |>.1; have i1 := HS.out w6 HC6.out |>.2; clear q1 q2 q3 q4)
    | (go_at_call 27; refine (HT.out _ HC0.out).mono ?_; rintro e w5 ⟨rfl, q⟩; have HC5 := Lib.hid (HC0.out.then_none q); have h3 := HS.out w5 HC5.out |>.1; have h1 := HS.out w5 HC5.out |>.2; clear q))
  all_goals
    have e : IntKind.i64.wrap (T - (Ra.total x.L - Ra.total L')) = Ra.total x.L - (x.done : Int) := by
      have q1 := HF.out
      have q2 := HTE.out
      rw [show T - (Ra.total x.L - Ra.total L') = Ra.total x.L - (x.done : Int) by omega, IntKind.wrap_i64]
      all_goals omega
    rw [e]
    go_wp2_with fail
    go_ret
    exact ⟨rfl, HC7.out⟩
theorem cell_far {w : World} {z o j k : Nat} {u : Value} {v : Option Value} (hne : o ≠ z) (h : w.cell? ⟨o, k, none⟩ = v) : (w.setCell ⟨z, j, none⟩ u).cell? ⟨o, k, none⟩ = v := by
  rw [World.cell?_setCell_far]
  · exact h
  · exact fun e => hne e.symm
def InClone (w : World) (o : Nat) (F : Nat → Prop) (x : In) : Ending → World → Prop := fun e w' => ∃ o2 F2, e = .returned (.pointer (some ⟨o2, 0, none⟩)) ∧ InAt w' o2 F2 x ∧ (∀ i, F2 i → w.heap.size ≤ i ∧ i < w'.heap.size) ∧ Chg Nowhere w w'
set_option maxHeartbeats 1600000 in
set_option maxRecDepth 100000 in
theorem cloneIn_any (o : Nat) (F : Nat → Prop) (x : In) (w : World) (h : InAt w o F x) (hx : x.Ok) (hd : x.done ≤ 900000) : Calls Try.prog 59 #[.pointer (some ⟨o, 0, none⟩)] w (InClone w o F x) := by
  have HR := Lib.hid (hx.rows hd)
  obtain ⟨p, vb, vL, hblk, hown, hL, -⟩ := h.ex
  obtain ⟨Av, cv, rfl⟩ := ownR_shape hown
  have HBL := Lib.hid hblk
  have HLEN := Lib.hid (show x.bs.length ≤ 100000000 by have := hx.len; have := hx.s2; omega)
  have HS := Lib.hid (show ∀ w', Chg Nowhere w w' → w'.cell? ⟨o, 0, none⟩ = some (.int .i64 x.size) ∧ w'.cell? ⟨o, 1, none⟩ = some (.int .i64 x.done) ∧ w'.cell? ⟨o, 2, none⟩ = some (.slice Av x.bs.length cv) ∧ w'.cell? ⟨o, 3, none⟩ = some (.pointer (some ⟨p, 0, none⟩)) from fun w' hc => ⟨by rw [cell_blk (hc.same HBL.out)]; rfl, by rw [cell_blk (hc.same HBL.out)]; rfl, by rw [cell_blk (hc.same HBL.out)]; rfl, by rw [cell_blk (hc.same HBL.out)]; rfl⟩)
  have HK := Lib.hid (show ∀ w', Chg Nowhere w w' → Calls Try.prog 25 #[.pointer (some ⟨p, 0, none⟩)] w' (GivesNew w' x.L) from fun w' hc => cloneRa_any p vL x.L w' (hL.idle hc) (by have := HR.out; omega))
  have HB := Lib.hid (show ∀ w', Chg Nowhere w w' → Calls Try.prog 82 #[.slice Av x.bs.length cv] w' (GivesO w' x.bs) from fun w' hc => cloneB_any (.slice Av x.bs.length cv) x.bs w' (rd_own (own_chg hown hc (fun _ _ => not_nowhere _))) HLEN.out)
  obtain ⟨c0, c1, c2, c3⟩ := HS.out w (Chg.refl _ _)
  clear h hx hL hblk hown
  go_enter Try.func59, Try.ntmps59
  go_upto_region 2 with fail
  have HC2 := Lib.hid ((Chg.refl Nowhere w).alloc (Obj.cells #[.int .i64 x.size, .int .i64 x.done, .slice Av x.bs.length cv, .pointer (some ⟨p, 0, none⟩)] 99))
  have HV2 := Lib.hid (alloc_new w (Obj.cells #[.int .i64 x.size, .int .i64 x.done, .slice Av x.bs.length cv, .pointer (some ⟨p, 0, none⟩)] 99))
  obtain ⟨zb, hzb⟩ : ∃ z, z = w.heap.size := ⟨_, rfl⟩
  rw [← hzb] at HV2 ⊢
  have HZB := Lib.hid hzb
  generalize w.alloc (Obj.cells #[.int .i64 x.size, .int .i64 x.done, .slice Av x.bs.length cv, .pointer (some ⟨p, 0, none⟩)] 99) = w2 at HC2 HV2 ⊢
  clear hzb c0 c1 c2 c3
  have HC3 := Lib.hid (HC2.out.then_none (Chg.refl Nowhere w2).drew)
  have HV3 := Lib.hid (((Chg.refl Nowhere w2).drew).same HV2.out)
  have hne : o ≠ zb := by rw [HZB.out]; have := lt_blk HBL.out; omega
  obtain ⟨-, -, a2, a3⟩ := HS.out _ HC3.out
  go_region_held3 (fun w' => w'.cell? ⟨o, 2, none⟩ = some (.slice Av x.bs.length cv) ∧ w'.cell? ⟨o, 3, none⟩ = some (.pointer (some ⟨p, 0, none⟩))) (first | exact ⟨e2, e3⟩ | exact ⟨d2, d3⟩ | exact ⟨a2, a3⟩ | exact ⟨cell_far hne e2, cell_far hne e3⟩ | exact ⟨cell_far hne (cell_far hne e2), cell_far hne (cell_far hne e3)⟩ | go_keep) (first
    | (go_at_call 25; refine (HK.out _ HC5.out).mono ?_; rintro e w6 ⟨c6, v6, rfl, q1, q2, q3, q4⟩; have HC6 := Lib.hid (HC5.out.then_none q4); have HV6 := Lib.hid (q4.same HV5.out); have HQ6 := Lib.hid q1; have HQ2 := Lib.hid q2; have HQ3 := Lib.hid q3; have HO6 := Lib.hid (own_chg HO5.out q4 (fun _ _ => not_nowhere _)); have HZ5 := Lib.hid q4.size; obtain ⟨-, -, e2, e3⟩ := HS.out w6 HC6.out; have y2 : w6.cell? ⟨zb, 2, none⟩ = some (.slice Av x.bs.length cv) := (by rw [cell_blk HV6.out]; rfl); have y3 : w6.cell? ⟨zb, 3, none⟩ = some (.pointer (some ⟨p, 0, none⟩)) := (by rw [cell_blk HV6.out]; rfl); have z2 : w6.frozen? ⟨zb, 2, none⟩ = false := frozen_blk HV6.out; have z3 : w6.frozen? ⟨zb, 3, none⟩ = false := frozen_blk HV6.out; clear q1 q2 q3 q4)
    | (go_at_call 82; refine (HB.out _ HC3.out).mono ?_; rintro e w5 ⟨v5, rfl, q1, q2⟩; have HC5 := Lib.hid (HC3.out.then_none q2); have HV5 := Lib.hid (q2.same HV3.out); have HO5 := Lib.hid q1.1; have HG5 := Lib.hid q1.2; obtain ⟨A5, c5, rfl⟩ := ownR_shape q1.1; obtain ⟨-, -, d2, d3⟩ := HS.out w5 HC5.out; clear q1 q2))
  all_goals
    have HF := Lib.hid (show InClone w o F x (.returned (.pointer (some ⟨zb, 0, none⟩))) ((w6.setCell ⟨zb, 2, none⟩ (.slice A5 x.bs.length c5)).setCell ⟨zb, 3, none⟩ (.pointer (some ⟨c6, 0, none⟩))) from by
      have h5 := HC5.out.size
      have h6 := HC6.out.size
      have hz := HZB.out
      have hlt := lt_blk HV2.out
      have hc3 := (show w2.heap.size ≤ w2.drew.heap.size from Nat.le_refl _)
      have hcs : Chg (At zb) w6 ((w6.setCell ⟨zb, 2, none⟩ (.slice A5 x.bs.length c5)).setCell ⟨zb, 3, none⟩ (.pointer (some ⟨c6, 0, none⟩))) := ((Chg.refl (At zb) w6).putAt).putAt
      have hc6 := HQ2.out
      have h56 := HZ5.out
      have hlt5 := lt_blk HV5.out
      refine ⟨zb, fun i => w.heap.size ≤ i ∧ i < ((w6.setCell ⟨zb, 2, none⟩ (.slice A5 x.bs.length c5)).setCell ⟨zb, 3, none⟩ (.pointer (some ⟨c6, 0, none⟩))).heap.size, rfl, ⟨c6, .slice A5 x.bs.length c5, v6, ?_, own_chg HO6.out hcs (fun i hi e => ?_), HQ6.out.chg hcs (fun e => ?_) (fun i hi e => ?_), ?_, ?_, fun i hi => ?_, fun i hi => ?_⟩, fun i hi => hi, HC6.out.trans hcs fun i hi e => ?_⟩
      · rw [set_blk _ (set_blk _ HV6.out)]; rfl
      · have := HG5.out i hi
        simp only [At] at e
        omega
      · simp only [At] at e
        omega
      · have := HQ3.out i hi
        simp only [At] at e
        omega
      · have := hcs.size; omega
      · have := hcs.size
        have := lt_blk HQ6.out.blk
        omega
      · have := hcs.size
        have := HG5.out i hi
        obtain ⟨cur, hh⟩ := own_blk HO6.out hi
        have := lt_blk hh
        omega
      · have := hcs.size
        have := HQ3.out i hi
        obtain ⟨cur, hh⟩ := own_blk HQ6.out.row hi
        have := lt_blk hh
        omega
      · simp only [At] at e
        omega)
    clear HC5 HC6 HV5 HV6 HO5 HO6 HQ6 HQ2 HQ3 HZ5 y2 y3 z2 z3 e2 e3
    go_wp2_with fail
    go_ret
    exact HF.out
end Go.Proofs.Ytlkbfacdaelbfaa
