/-
  Package inbox: Read.
-/
import Derived.Test.YtlkbfacdaelbfaaInC
namespace Go.Proofs.Ytlkbfacdaelbfaa
open Go.RowKit Ae
set_option linter.unusedVariables false
set_option linter.unusedSimpArgs false

theorem RdB.takeS {w : World} {A : Option Addr} {N n c : Nat} {l : List Nat} (h : RdB w (.slice A N c) l) (hn : n ≤ l.length) : RdB w (.slice A n c) (l.take n) := by
  obtain ⟨hl, A', c', hv, hc, hA⟩ := h
  cases hv
  have hlen : (l.take n).length = n := by rw [List.length_take]; omega
  refine ⟨by rw [bl_len]; omega, _, _, by rw [hlen], by rw [hlen]; omega, fun h0 => ?_⟩
  rw [hlen] at h0
  obtain ⟨g, o, rfl, hg, hcell⟩ := hA (by omega)
  refine ⟨g, o, rfl, hg, fun j hj => ?_⟩
  rw [bl_len, hlen] at hj
  rw [hcell j (by rw [bl_len]; omega), ← bl_take, List.getElem?_take_of_lt (by omega)]
theorem RdB.dropS {w : World} {g N n c : Nat} {l : List Nat} (h : RdB w (.slice (some ⟨g, 0, none⟩) N c) l) (hn : n ≤ l.length) : RdB w (.slice (some ⟨g, n, none⟩) (N - n) (c - n)) (l.drop n) := by
  obtain ⟨hl, A', c', hv, hc, hA⟩ := h
  simp only [Value.slice.injEq] at hv
  obtain ⟨rfl, rfl, rfl⟩ := hv
  have hlen : (l.drop n).length = l.length - n := by rw [List.length_drop]
  refine ⟨by rw [bl_len]; omega, _, _, by rw [hlen], by rw [hlen]; omega, fun h0 => ?_⟩
  rw [hlen] at h0
  obtain ⟨g, o, e, hg, hcell⟩ := hA (by omega)
  cases e
  refine ⟨_, n, rfl, hg, fun j hj => ?_⟩
  rw [bl_len, hlen] at hj
  have := hcell (n + j) (by rw [bl_len]; omega)
  rw [Nat.zero_add] at this
  rw [this, ← bl_drop, List.getElem?_drop]
theorem RdB.none {w : World} {A : Option Addr} {c : Nat} : RdB w (.slice A 0 c) [] := ⟨rfl, A, c, rfl, Nat.zero_le _, fun h => absurd h (Nat.lt_irrefl 0)⟩
/-- What a read gives, and leaves. -/
def InRead (w : World) (o : Nat) (F : Nat → Prop) (x : In) (most : Int) : Ending → World → Prop := fun e w' => ∃ (v : Value) (y : Int) (n : Nat) (F' : Nat → Prop), e = .returned v ∧ NextIs x.L x.done y ∧ (n : Int) = min (y - x.done) (max most 0) ∧ OwnB w w' v (x.bs.take n) ∧ InAt w' o F' (x.read n) ∧ (∀ i, F' i → F i ∨ (w.heap.size ≤ i ∧ i < w'.heap.size)) ∧ (∀ i, v.ownBlock = some i → ¬ F' i) ∧ Chg F w w'
set_option maxHeartbeats 1600000 in
set_option maxRecDepth 100000 in
theorem readIn_any (o : Nat) (F : Nat → Prop) (x : In) (most : Int) (w : World) (h : InAt w o F x) (hx : x.Ok) (hd : x.done ≤ 900000) : Calls Try.prog 38 #[.pointer (some ⟨o, 0, none⟩), .int .i64 most] w (InRead w o F x most) := by
  have H := Lib.hid h
  have HX := Lib.hid hx
  obtain ⟨p, vb, vL, hblk, hown, hL, ho, hp, hvb, hvL⟩ := h.ex
  obtain ⟨Av, cv, rfl⟩ := ownR_shape hown
  have HBL := Lib.hid hblk
  have HOWN := Lib.hid hown
  have hlen : x.bs.length ≤ 1048576 := by have := hx.len; have := hx.s2; omega
  have HS := Lib.hid (show ∀ w', Chg Nowhere w w' → w'.cell? ⟨o, 1, none⟩ = some (.int .i64 x.done) ∧ w'.cell? ⟨o, 2, none⟩ = some (.slice Av x.bs.length cv) from fun w' hc => ⟨by rw [cell_blk (hc.same HBL.out)]; rfl, by rw [cell_blk (hc.same HBL.out)]; rfl⟩)
  obtain ⟨y, hy⟩ := next_ex hx.good (x.done : Int)
  have HY := Lib.hid hy
  have HN := Lib.hid (show Calls Try.prog 43 #[.pointer (some ⟨o, 0, none⟩)] w.drew (Gives w.drew (.int .i64 y)) from (hereIn_any o F x w.drew (h.idle ((Chg.refl Nowhere w).drew)) hx hd).mono fun e w' ⟨z, h1, h2, h3⟩ => ⟨by rw [hy.only h2]; exact h1, h3⟩)
  have hyb := hx.here hy
  obtain ⟨q, hq⟩ : ∃ q : Nat, y - (x.done : Int) = (q : Int) := ⟨(y - x.done).toNat, by omega⟩
  have hqb : q ≤ x.bs.length := by omega
  have HRD := Lib.hid (fun n (hn : n ≤ q) => hx.read hy (n := n) (by omega))
  have HB := Lib.hid (show ∀ w' (v : Value) l, Chg Nowhere w w' → RdB w' v l → l.length ≤ 100000000 → Calls Try.prog 82 #[v] w' (GivesO w' l) from fun w' v l _ h h2 => cloneB_any v l w' h h2)
  obtain ⟨m, hm⟩ : ∃ m : Nat, (m : Int) = max most 0 := ⟨(max most 0).toNat, by omega⟩
  have HM := Lib.hid hm
  clear h hx hy hblk hown hL ho hp hvb hvL
  obtain ⟨n, hn⟩ : ∃ n, n = min q m := ⟨_, rfl⟩
  have HNM := Lib.hid (show (n : Int) = min (y - x.done) (max most 0) by rw [hq, ← hm]; omega)
  have hnq : n ≤ q := by omega
  have HNQ := Lib.hid hn
  clear hn hyb
  go_enter Try.func38, Try.ntmps38
  go_upto_region 1 with fail
  have HC0 := Lib.hid ((Chg.refl Nowhere w).drew)
  obtain ⟨a1, -⟩ := HS.out _ HC0.out
  go_cut [5] (fun t wx => t = .int .i64 (n : Int) ∧ Chg Nowhere w wx)
  case first =>
    have hqw : IntKind.i64.wrap (q : Int) = (q : Int) := by rw [IntKind.wrap_i64]; omega
    rcases (by omega : most < 0 ∨ ¬ (most < 0)) with h0 | h0
    · obtain rfl : m = 0 := by omega
      obtain rfl : n = 0 := by have := HNQ.out; omega
      clear hm
      by_cases h2 : (0 : Int) < (q : Int)
      · go_region_held3 (fun w' => w'.cell? ⟨o, 1, none⟩ = some (.int .i64 x.done)) (first | exact b1 | exact a1 | go_keep) (first | (go_at_call 43; refine HN.out.mono ?_; rintro e w5 ⟨rfl, q2⟩; have HC5 := Lib.hid (HC0.out.then_none q2); have b1 := (HS.out _ HC5.out).1; clear q2))
        all_goals
          go_wp2_with fail
          go_meet
          exact ⟨rfl, HC5.out⟩
      · obtain rfl : q = 0 := by omega
        go_region_held3 (fun w' => w'.cell? ⟨o, 1, none⟩ = some (.int .i64 x.done)) (first | exact b1 | exact a1 | go_keep) (first | (go_at_call 43; refine HN.out.mono ?_; rintro e w5 ⟨rfl, q2⟩; have HC5 := Lib.hid (HC0.out.then_none q2); have b1 := (HS.out _ HC5.out).1; clear q2))
        all_goals
          go_wp2_with fail
          go_meet
          exact ⟨rfl, HC5.out⟩
    · obtain rfl : most = (m : Int) := by omega
      have h3 : ¬ ((m : Int) < 0) := by omega
      clear hm h0
      by_cases h2 : (m : Int) < (q : Int)
      · obtain rfl : n = m := by have := HNQ.out; omega
        go_region_held3 (fun w' => w'.cell? ⟨o, 1, none⟩ = some (.int .i64 x.done)) (first | exact b1 | exact a1 | go_keep) (first | (go_at_call 43; refine HN.out.mono ?_; rintro e w5 ⟨rfl, q2⟩; have HC5 := Lib.hid (HC0.out.then_none q2); have b1 := (HS.out _ HC5.out).1; clear q2))
        all_goals
          go_wp2_with fail
          go_meet
          exact ⟨rfl, HC5.out⟩
      · obtain rfl : n = q := by have := HNQ.out; omega
        go_region_held3 (fun w' => w'.cell? ⟨o, 1, none⟩ = some (.int .i64 x.done)) (first | exact b1 | exact a1 | go_keep) (first | (go_at_call 43; refine HN.out.mono ?_; rintro e w5 ⟨rfl, q2⟩; have HC5 := Lib.hid (HC0.out.then_none q2); have b1 := (HS.out _ HC5.out).1; clear q2))
        all_goals
          go_wp2_with fail
          go_meet
          exact ⟨rfl, HC5.out⟩
  case rest =>
    obtain ⟨rfl, hC⟩ := hcut
    have HC5 := Lib.hid hC
    clear hC a1
    obtain ⟨b1, b2⟩ := HS.out _ HC5.out
    have hnl : n ≤ x.bs.length := by omega
    have hnc : x.bs.length ≤ cv := own_cap HOWN.out
    have HR5 := Lib.hid (show ∀ w', Chg Nowhere w w' → RdB w' (.slice Av x.bs.length cv) x.bs from fun w' hc => rd_own (own_chg HOWN.out hc (fun _ _ => not_nowhere _)))
    obtain ⟨D, hD⟩ : ∃ D, D = x.bs.drop n := ⟨_, rfl⟩
    have HDD := Lib.hid hD
    clear hD
    have HDR := Lib.hid (show ∀ w', Chg Nowhere w w' → RdB w' (cutB Av n x.bs.length cv) D from fun w' hc => by
      have := (HR5.out w' hc).cut (lo := n) (hi := x.bs.length) (m := cv) hnl (Nat.le_refl _) hnc (Nat.le_refl _)
      rw [HDD.out]
      rwa [List.take_of_length_le (by rw [List.length_drop]; omega)] at this)
    have HFIN := Lib.hid (fun v6 w6 w7 A7 c7 (hC6 : Chg Nowhere w w6) (hZ7 : Chg Nowhere w6 w7) (hO6 : w6.ownsRow 0 5 1 v6 (x.bs.take n).length (bl (x.bs.take n))) (hG6 : ∀ i, v6.ownBlock = some i → wc.heap.size ≤ i) (hO7 : w7.ownsRow 0 5 1 (.slice A7 D.length c7) D.length (bl D)) (hG7 : ∀ i, (Value.slice A7 D.length c7).ownBlock = some i → w6.heap.size ≤ i) (hC7 : Chg Nowhere w w7) => show InRead w o F x most (.returned v6) ((w7.setCell ⟨o, 2, none⟩ (.slice A7 D.length c7)).setCell ⟨o, 1, none⟩ (.int .i64 ((x.done : Int) + (n : Int)))) from by
      have hrb : (x.read n).bs = D := HDD.out.symm
      obtain ⟨p', vb', vL', k1, k2, k3, k4, k5, k6, k7⟩ := H.out.ex
      have hcs : Chg (At o) w7 ((w7.setCell ⟨o, 2, none⟩ (.slice A7 D.length c7)).setCell ⟨o, 1, none⟩ (.int .i64 ((x.done : Int) + (n : Int)))) := ((Chg.refl (At o) w7).putAt).putAt
      have hlt := lt_blk k1
      have s6 := hC6.size
      have s5 := HC5.out.size
      have s7 := hZ7.size
      have ss := hcs.size
      have b6 : ∀ i, v6.ownBlock = some i → i < w6.heap.size := fun i hi => by obtain ⟨cur, hh⟩ := own_blk hO6 hi; exact lt_blk hh
      have b7 : ∀ i, (Value.slice A7 D.length c7).ownBlock = some i → i < w7.heap.size := fun i hi => by obtain ⟨cur, hh⟩ := own_blk hO7 hi; exact lt_blk hh
      have bL : ∀ i, vL'.ownBlock = some i → i < w.heap.size := fun i hi => by obtain ⟨cur, hh⟩ := own_blk k3.row hi; exact lt_blk hh
      have bp := lt_blk k3.blk
      have hpo : p' ≠ o := by rintro rfl; rw [k3.blk] at k1; simp at k1
      have hLo : ∀ i, vL'.ownBlock = some i → i ≠ o := fun i hi e => by
        subst e
        obtain ⟨cur, hh⟩ := own_blk k3.row hi
        rw [hh] at k1
        simp at k1
      refine ⟨v6, y, n, fun i => i = o ∨ i = p' ∨ vL'.ownBlock = some i ∨ (Value.slice A7 D.length c7).ownBlock = some i, rfl, HY.out, HNM.out, ⟨own_chg (own_chg hO6 hZ7 (fun _ _ => not_nowhere _)) hcs fun i hi e => ?_, fun i hi => ?_⟩, ⟨p', .slice A7 D.length c7, vL', ?_, ?_, (k3.idle hC7).chg hcs (fun e => hpo e) (fun i hi e => hLo i hi e), .inl rfl, .inr (.inl rfl), fun i hi => .inr (.inr (.inr hi)), fun i hi => .inr (.inr (.inl hi))⟩, fun i hi => ?_, fun i hi hf => ?_, hC7.none_then (hcs.mono fun i _ e => e ▸ k4)⟩
      · have := hG6 i hi; simp only [At] at e; omega
      · have := hG6 i hi; omega
      · rw [set_blk _ (set_blk _ (hC7.same k1))]; rfl
      · rw [hrb]
        exact own_chg hO7 hcs fun i hi e => by have := hG7 i hi; simp only [At] at e; omega
      · rcases hi with rfl | rfl | hi | hi
        · exact .inl k4
        · exact .inl k5
        · exact .inl (k7 i hi)
        · have := hG7 i hi; have := b7 i hi; exact .inr (by omega)
      · have h1 := hG6 i hi
        have h2 := b6 i hi
        rcases hf with rfl | rfl | hf | hf
        · omega
        · omega
        · have := bL i hf; omega
        · have := hG7 i hf; omega)
    go_upto_region 3 with (go_at_call 82; refine (HB.out wc (.slice Av n cv) (x.bs.take n) HC5.out ((HR5.out _ HC5.out).takeS hnl) (by rw [List.length_take]; omega)).mono ?_; rintro e w6 ⟨v6, rfl, q1, q2⟩; have HO6 := Lib.hid q1.1; have HG6 := Lib.hid q1.2; have HC6 := Lib.hid (HC5.out.then_none q2); clear q1 q2)
    obtain ⟨d1, d2⟩ := HS.out _ HC6.out
    clear b1 b2
    by_cases hnn : cv = n
    · have HCUT := Lib.hid (show RdB w6 (.slice Av (x.bs.length - n) 0) D from by have := HDR.out w6 HC6.out; rwa [cutB, if_pos hnn, show cv - n = 0 by omega] at this)
      go_upto_region 4 with (go_at_call 82; refine (HB.out w6 _ D HC6.out HCUT.out (by rw [HDD.out, List.length_drop]; omega)).mono ?_; rintro e w7 ⟨v7, rfl, q1, q2⟩; have HO7 := Lib.hid q1.1; have HG7 := Lib.hid q1.2; have HC7 := Lib.hid (HC6.out.then_none q2); have HZ7 := Lib.hid q2; obtain ⟨A7, c7, rfl⟩ := ownR_shape q1.1; obtain ⟨-, e2⟩ := HS.out _ HC7.out; have e3 : w7.frozen? ⟨o, 2, none⟩ = false := frozen_blk (HC7.out.same HBL.out); clear q1 q2)
      have HF := Lib.hid (HFIN.out v6 w6 w7 A7 c7 HC6.out HZ7.out HO6.out HG6.out HO7.out HG7.out HC7.out)
      have HB8 := Lib.hid (set_blk (o := 2) (.slice A7 D.length c7) (HC7.out.same HBL.out))
      have g1 : (w7.setCell ⟨o, 2, none⟩ (.slice A7 D.length c7)).cell? ⟨o, 1, none⟩ = some (.int .i64 x.done) := by rw [cell_blk HB8.out]; rfl
      have g2 : (w7.setCell ⟨o, 2, none⟩ (.slice A7 D.length c7)).frozen? ⟨o, 1, none⟩ = false := frozen_blk HB8.out
      generalize w7.setCell ⟨o, 2, none⟩ (.slice A7 D.length c7) = w8 at HF g1 g2 ⊢
      have hnb : n ≤ 1048576 := by omega
      clear HC6 HC7 HO6 HG6 HO7 HG7 HZ7 d1 d2 e2 e3
      go_wp2_with fail
      go_ret
      exact HF.out
    · have HCUT := Lib.hid (show RdB w6 (.slice (Av.map (fun x => x.add n)) (x.bs.length - n) (cv - n)) D from by have := HDR.out w6 HC6.out; rwa [cutB, if_neg hnn] at this)
      go_upto_region 4 with (go_at_call 82; refine (HB.out w6 _ D HC6.out HCUT.out (by rw [HDD.out, List.length_drop]; omega)).mono ?_; rintro e w7 ⟨v7, rfl, q1, q2⟩; have HO7 := Lib.hid q1.1; have HG7 := Lib.hid q1.2; have HC7 := Lib.hid (HC6.out.then_none q2); have HZ7 := Lib.hid q2; obtain ⟨A7, c7, rfl⟩ := ownR_shape q1.1; obtain ⟨-, e2⟩ := HS.out _ HC7.out; have e3 : w7.frozen? ⟨o, 2, none⟩ = false := frozen_blk (HC7.out.same HBL.out); clear q1 q2)
      have HF := Lib.hid (HFIN.out v6 w6 w7 A7 c7 HC6.out HZ7.out HO6.out HG6.out HO7.out HG7.out HC7.out)
      have HB8 := Lib.hid (set_blk (o := 2) (.slice A7 D.length c7) (HC7.out.same HBL.out))
      have g1 : (w7.setCell ⟨o, 2, none⟩ (.slice A7 D.length c7)).cell? ⟨o, 1, none⟩ = some (.int .i64 x.done) := by rw [cell_blk HB8.out]; rfl
      have g2 : (w7.setCell ⟨o, 2, none⟩ (.slice A7 D.length c7)).frozen? ⟨o, 1, none⟩ = false := frozen_blk HB8.out
      generalize w7.setCell ⟨o, 2, none⟩ (.slice A7 D.length c7) = w8 at HF g1 g2 ⊢
      have hnb : n ≤ 1048576 := by omega
      clear HC6 HC7 HO6 HG6 HO7 HG7 HZ7 d1 d2 e2 e3
      go_wp2_with fail
      go_ret
      exact HF.out
end Go.Proofs.Ytlkbfacdaelbfaa
