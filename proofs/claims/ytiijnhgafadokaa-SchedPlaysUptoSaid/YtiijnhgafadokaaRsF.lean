/-
  The document's scheduler: Close.
-/
import Derived.Test.YtiijnhgafadokaaRsE
namespace Go.Proofs.Ytiijnhgafadokaa
open Go.RowKit
set_option linter.unusedVariables false
variable {B : Nat}

def closeR (R : RSch) (id : Int) : RSch := match fnd R.L id with
  | some i => { R with L := R.L.take i ++ R.L.drop (i + 1) }
  | .none => R
def closeRL (R : RSch) (id : Int) : List (Int × Int) := match fnd R.L id with
  | some i => match R.L[i]? with
    | some f => cars f.l
    | .none => []
  | .none => []
def CloseRTo (B : Nat) (w : World) (y : Nat) (R : RSch) (id : Int) (e : Ending) (w' : World) : Prop :=
  ∃ v, e = .returned v ∧ w'.ownsRow w.heap.size 49 2 v (closeRL R id).length (flat (closeRL R id)) ∧ RSIs B w' y (closeR R id) ∧ ChgR B w w'
theorem fcell_one (L : List RF) (h : ∀ f ∈ L, ∃ A n c, f.lv = .slice A n c) : ∀ x ∈ fcl L, x.oneCell' = true := by
  intro x hx
  obtain ⟨f, hf, hx⟩ := List.mem_flatMap.1 hx
  obtain ⟨A, n, c, e⟩ := h f hf
  simp only [fcell, List.mem_cons, List.not_mem_nil, or_false] at hx
  rcases hx with rfl | rfl | rfl | rfl | rfl
  · rfl
  · rfl
  · rfl
  · rfl
  · rw [e]; rfl
theorem cut_get {L : List RF} {i a : Nat} (hi : i < L.length) : (L.take i ++ L.drop (i + 1))[a]? = L[if a < i then a else a + 1]? := by
  by_cases h : a < i
  · rw [if_pos h, List.getElem?_append_left (by simp; omega), List.getElem?_take_of_lt h]
  · rw [if_neg h, List.getElem?_append_right (by simp; omega), List.getElem?_drop]
    congr 1
    simp
    omega
set_option maxHeartbeats 3200000 in
set_option maxRecDepth 100000 in
theorem closeR_any (w : World) (y : Nat) (R : RSch) (h : RSIs B w y R) (id : Int) :
    Calls Try.prog 54 #[.pointer (some ⟨y, 0, .none⟩), .int .i64 id] w (CloseRTo B w y R id) := by
  obtain ⟨i0, hi, hz0, hz1, hz2⟩ := info_parts infoFl
  have HI := Lib.hid h
  obtain ⟨vL, h⟩ := h
  have H := Lib.hid h
  obtain ⟨A, c, rfl⟩ := h.slice
  have c2 : w.cell? ⟨y, 2, .none⟩ = some (.slice A R.L.length c) := by rw [cell_blk h.blk]; rfl
  have hlen := h.len
  clear h
  cases hf : fnd R.L id with
  | none =>
    have E := Lib.hid (show closeR R id = R by unfold closeR; rw [hf])
    have EL := Lib.hid (show closeRL R id = [] by unfold closeRL; rw [hf])
    have EA := Lib.hid (show atI R.L id = -1 by unfold atI; rw [hf])
    clear hf
    go_enter Try.func54, Try.ntmps54
    go_wp2_with fail
    refine (at_any w y R HI.out id).mono ?_
    rw [EA.out]
    rintro e w' ⟨rfl, rfl⟩
    go_wp2_with fail
    go_ret
    refine ⟨_, rfl, ?_, by rw [E.out]; exact HI.out, ChgR.refl _⟩
    rw [EL.out]
    exact World.ownsRow_nil _ _ _ _
  | some i =>
    obtain ⟨f, hfi, -⟩ := fnd_some hf
    have hil := (List.getElem?_eq_some_iff.1 hfi).1
    have E := Lib.hid (show closeR R id = { R with L := R.L.take i ++ R.L.drop (i + 1) } by unfold closeR; rw [hf])
    have EL := Lib.hid (show closeRL R id = cars f.l by unfold closeRL; rw [hf]; simp only; rw [hfi])
    have EA := Lib.hid (show atI R.L id = (i : Int) by unfold atI; rw [hf])
    have HRd := Lib.hid (Rd.of_owns H.out.row)
    obtain ⟨g, o, c', e, hg, d0, d1, d2, d3, d4, -⟩ := H.out.cells hfi
    cases e
    have hic : R.L.length ≤ c := by
      obtain ⟨-, A2, c2, e, h2, -⟩ := HRd.out
      simp only [Value.slice.injEq] at e
      omega
    have HOK := Lib.hid (H.out.fl f (List.mem_of_getElem? hfi))
    obtain ⟨Af, cf, hlv⟩ : ∃ Af cf, f.lv = .slice Af f.l.length cf := by
      obtain ⟨-, Al, cl, hv, -, -⟩ := Rd.of_owns HOK.out.row
      exact ⟨Al, cl, hv⟩
    rw [hlv] at d4
    have HLV := Lib.hid hlv
    clear hf hfi hlv d0 d1 d2 d3
    go_enter Try.func54, Try.ntmps54
    go_wp2_with fail
    refine (at_any w y R HI.out id).mono ?_
    rw [EA.out]
    rintro e w' ⟨rfl, rfl⟩
    go_wp2_with fail
    rw [← HLV.out]
    refine (allR_any _ f.l w HOK.out.row HOK.out.recs HOK.out.len).mono ?_
    rintro e w3 ⟨v, rfl, r1, r2⟩
    have R1 := Lib.hid r1
    have R2 := Lib.hid r2
    have c3 : w3.cell? ⟨y, 2, .none⟩ = some (.slice (some ⟨g, o, .none⟩) R.L.length c) := by rw [cell_blk (r2.same H.out.blk)]; rfl
    have hyl := lt_blk (r2.same H.out.blk)
    have hgl : g < w3.heap.size := Nat.lt_of_lt_of_le hg r2.size
    clear r1 r2 d4
    have hsplit : fcl R.L = fcl (R.L.take i) ++ fcl (R.L.drop i) := by rw [← fcl_append, List.take_append_drop]
    have hl1 : (fcl (R.L.take i)).length = i * 5 := by rw [fcl_len, List.length_take, Nat.min_eq_left (by omega)]
    have HCell := Lib.hid (show ∀ (wz : World), Chg Nowhere w wz → ∀ j u, (fcl R.L)[j]? = some u → wz.cell? ⟨g, o + j, .none⟩ = some u from fun wz hz j u hj => by
      obtain ⟨-, A2, c2, e, h2, hA2⟩ := HRd.out
      obtain ⟨g2, o2, rfl, hg2, hcell⟩ := hA2 (by omega)
      simp only [Value.slice.injEq, Option.some.injEq, Addr.mk.injEq] at e
      obtain ⟨⟨rfl, rfl, -⟩, -⟩ := e
      exact (hz.cell (p := ⟨g, o + j, .none⟩) hg2 (not_nowhere _)).trans ((hcell j (List.getElem?_eq_some_iff.1 hj).1).trans hj))
    have HA3 := Lib.hid (show Chg Nowhere w (w3.alloc (.cells #[] 117)) from R2.out.alloc _)
    have HN1 := Lib.hid (show ∀ j u, (fcl (R.L.take i))[j]? = some u → (w3.alloc (.cells #[] 117)).cell? ((⟨g, o, .none⟩ : Addr).add j) = some u from fun j u hj => by
      rw [add_mk]
      refine HCell.out _ HA3.out j u ?_
      rw [hsplit, List.getElem?_append_left (List.getElem?_eq_some_iff.1 hj).1]
      exact hj)
    have HO1 := Lib.hid (show ∀ x ∈ fcl R.L, x.oneCell' = true from fcell_one R.L fun q hq => by
      obtain ⟨-, Al, cl, hv, -, -⟩ := Rd.of_owns (H.out.fl q hq).row
      exact ⟨Al, _, cl, hv⟩)
    have HL1 := Lib.hid hl1
    have HSP := Lib.hid hsplit
    have HOL := Lib.hid (World.ownsRow_lit (base := w.heap.size) (e := 117) (size := 5) w3 #[] 0 R2.out.size (by unfold maxLen; omega) rfl)
    have hsz := R2.out.size
    clear hsplit hl1
    have HL2 := Lib.hid (show (fcl (R.L.drop (i + 1))).length = (R.L.length - (i + 1)) * 5 by rw [fcl_len, List.length_drop])
    have HSP2 := Lib.hid (show fcl R.L = fcl (R.L.take (i + 1)) ++ fcl (R.L.drop (i + 1)) by rw [← fcl_append, List.take_append_drop])
    by_cases hcc : c = i + 1
    · subst hcc
      have HN2 := Lib.hid (show ∀ (wz : World), Chg Nowhere w wz → ∀ j u, (fcl (R.L.drop (i + 1)))[j]? = some u → wz.cell? ((⟨g, o, .none⟩ : Addr).add j) = some u from fun wz hz j u hj => by
        have := (List.getElem?_eq_some_iff.1 hj).1
        rw [fcl_len, List.length_drop] at this
        omega)
      clear hic
      as_aux_lemma =>
      go_wp2_with (first | (at_builtin; refine wpList_append_own _ rfl _ _ 112 rfl w.heap.size 117 i0 (.agg #[.int .i64 0, .int .i64 0, .int .i64 0, .bool false, .slice .none 0 0]) 5 56 Try.underlying112 hi hz0 hz1 hz2 rfl (by decide) (.slice (some ⟨w3.heap.size, 0, .none⟩) 0 0) 0 [] rfl HOL.out ⟨g, o, .none⟩ i (i + 1) (fcl (R.L.take i)) rfl HL1.out HN1.out (fun x hx => HO1.out x (by rw [HSP.out]; exact List.mem_append_left _ hx)) (by unfold maxLen; omega) (by omega) (by simp; omega) ?_; intro v' w4 hown' hgrow3 hnil3; rw [Nat.zero_add, List.nil_append] at hown'; obtain ⟨-, A4, cA4, rfl, -, -⟩ := Rd.of_owns hown'; have HO4 := Lib.hid hown'; have HC4 := Lib.hid (HA3.out.grown hgrow3 (fun k hk => .inl (by cases hk; exact hsz))); have c4 : w4.cell? ⟨y, 2, .none⟩ = some (.slice (some ⟨g, o, .none⟩) R.L.length (i + 1)) := (by rw [cell_blk (HC4.out.same H.out.blk)]; rfl); have R4 := Lib.hid (rng_idle R1.out (((Chg.refl Nowhere w3).alloc (.cells #[] 117)).grown hgrow3 (fun k hk => .inl (by cases hk; exact Nat.le_refl _)))); clear hown' hgrow3 hnil3) | (at_builtin; refine wpList_append_own _ rfl _ _ 112 rfl w.heap.size 117 i0 (.agg #[.int .i64 0, .int .i64 0, .int .i64 0, .bool false, .slice .none 0 0]) 5 56 Try.underlying112 hi hz0 hz1 hz2 rfl (by decide) (.slice A4 i cA4) i (fcl (R.L.take i)) rfl HO4.out ⟨g, o, .none⟩ (R.L.length - (i + 1)) 0 (fcl (R.L.drop (i + 1))) rfl HL2.out (HN2.out _ HC4.out) (fun x hx => HO1.out x (by rw [HSP2.out]; exact List.mem_append_right _ hx)) (by unfold maxLen; omega) (by omega) (by have := HC4.out.size; omega) ?_; intro v' w5 hown' hgrow3 hnil3; rw [← fcl_append] at hown'; obtain ⟨-, A5, cA5, rfl, -, -⟩ := Rd.of_owns hown'; have HO5 := Lib.hid hown'; have HC5 := Lib.hid (HC4.out.grown hgrow3 (fun k hk => .inl ((HO4.out.lt k hk).1))); have c5 : w5.cell? ⟨y, 2, .none⟩ = some (.slice (some ⟨g, o, .none⟩) R.L.length (i + 1)) := (by rw [cell_blk (HC5.out.same H.out.blk)]; rfl); have f5 : w5.frozen? ⟨y, 2, .none⟩ = false := frozen_blk (HC5.out.same H.out.blk); have R5 := Lib.hid (own_chg R4.out ((Chg.refl (fun q => (Value.slice A4 i cA4).ownBlock = some q) w4).grown hgrow3 (fun k hk => .inr hk)) (fun j hj e => by obtain ⟨cur, hh⟩ := own_blk R4.out hj; obtain ⟨cur2, hh2⟩ := own_blk HO4.out e; exact types_nott hh hh2 (by decide) rfl)); clear hown' hgrow3 hnil3))
      go_ret
      have hL' : (R.L.take i ++ R.L.drop (i + 1)).length = i + (R.L.length - (i + 1)) := by simp; omega
      obtain ⟨p1, p2⟩ := H.out.swap HC5.out (fun j _ hj => hj.elim) (L' := R.L.take i ++ R.L.drop (i + 1)) (by rw [hL']; exact own_base HO5.out (Nat.zero_le _)) (fun q hq => by
        rw [List.mem_append] at hq
        rcases hq with hq | hq
        · exact H.out.fl q (List.mem_of_mem_take hq)
        · exact H.out.fl q (List.mem_of_mem_drop hq)) (fun a b p q r ha hb h1 h2 => by
        rw [cut_get hil] at ha hb
        have := H.out.apart _ _ p q r ha hb h1 h2
        split at this <;> split at this <;> omega) (by omega) (fun q hq => Nat.le_trans H.out.base (HO5.out.lt q hq).1) (fun q hq => by
        rw [List.mem_append] at hq
        rcases hq with hq | hq
        · exact H.out.zl q (List.mem_of_mem_take hq)
        · exact H.out.zl q (List.mem_of_mem_drop hq)) (fun q _ hq => hq.elim)
      refine ⟨_, rfl, ?_, by rw [E.out]; exact ⟨_, p1⟩, p2⟩
      rw [EL.out]
      exact own_chg R5.out ((Chg.refl (At y) w5).putAt) (fun j hj e => by
        obtain ⟨cur, hh⟩ := own_blk R5.out hj
        exact types_nott hh (HC5.out.same H.out.blk) (by decide) (show j = y from e))
    · have HN2 := Lib.hid (show ∀ (wz : World), Chg Nowhere w wz → ∀ j u, (fcl (R.L.drop (i + 1)))[j]? = some u → wz.cell? ((⟨g, o + (i + 1) * 5, .none⟩ : Addr).add j) = some u from fun wz hz j u hj => by
        rw [add_mk, Nat.add_assoc]
        refine HCell.out _ hz _ u ?_
        rw [HSP2.out, List.getElem?_append_right (by rw [fcl_len, List.length_take, Nat.min_eq_left (by omega)]; omega), fcl_len, List.length_take, Nat.min_eq_left (by omega)]
        rw [show (i + 1) * 5 + j - (i + 1) * 5 = j by omega]
        exact hj)
      as_aux_lemma =>
      go_wp2_with (first | (at_builtin; refine wpList_append_own _ rfl _ _ 112 rfl w.heap.size 117 i0 (.agg #[.int .i64 0, .int .i64 0, .int .i64 0, .bool false, .slice .none 0 0]) 5 56 Try.underlying112 hi hz0 hz1 hz2 rfl (by decide) (.slice (some ⟨w3.heap.size, 0, .none⟩) 0 0) 0 [] rfl HOL.out ⟨g, o, .none⟩ i c (fcl (R.L.take i)) rfl HL1.out HN1.out (fun x hx => HO1.out x (by rw [HSP.out]; exact List.mem_append_left _ hx)) (by unfold maxLen; omega) (by omega) (by simp; omega) ?_; intro v' w4 hown' hgrow3 hnil3; rw [Nat.zero_add, List.nil_append] at hown'; obtain ⟨-, A4, cA4, rfl, -, -⟩ := Rd.of_owns hown'; have HO4 := Lib.hid hown'; have HC4 := Lib.hid (HA3.out.grown hgrow3 (fun k hk => .inl (by cases hk; exact hsz))); have c4 : w4.cell? ⟨y, 2, .none⟩ = some (.slice (some ⟨g, o, .none⟩) R.L.length c) := (by rw [cell_blk (HC4.out.same H.out.blk)]; rfl); have R4 := Lib.hid (rng_idle R1.out (((Chg.refl Nowhere w3).alloc (.cells #[] 117)).grown hgrow3 (fun k hk => .inl (by cases hk; exact Nat.le_refl _)))); clear hown' hgrow3 hnil3) | (at_builtin; refine wpList_append_own _ rfl _ _ 112 rfl w.heap.size 117 i0 (.agg #[.int .i64 0, .int .i64 0, .int .i64 0, .bool false, .slice .none 0 0]) 5 56 Try.underlying112 hi hz0 hz1 hz2 rfl (by decide) (.slice A4 i cA4) i (fcl (R.L.take i)) rfl HO4.out ⟨g, o + (i + 1) * 5, .none⟩ (R.L.length - (i + 1)) (c - (i + 1)) (fcl (R.L.drop (i + 1))) rfl HL2.out (HN2.out _ HC4.out) (fun x hx => HO1.out x (by rw [HSP2.out]; exact List.mem_append_right _ hx)) (by unfold maxLen; omega) (by omega) (by have := HC4.out.size; omega) ?_; intro v' w5 hown' hgrow3 hnil3; rw [← fcl_append] at hown'; obtain ⟨-, A5, cA5, rfl, -, -⟩ := Rd.of_owns hown'; have HO5 := Lib.hid hown'; have HC5 := Lib.hid (HC4.out.grown hgrow3 (fun k hk => .inl ((HO4.out.lt k hk).1))); have c5 : w5.cell? ⟨y, 2, .none⟩ = some (.slice (some ⟨g, o, .none⟩) R.L.length c) := (by rw [cell_blk (HC5.out.same H.out.blk)]; rfl); have f5 : w5.frozen? ⟨y, 2, .none⟩ = false := frozen_blk (HC5.out.same H.out.blk); have R5 := Lib.hid (own_chg R4.out ((Chg.refl (fun q => (Value.slice A4 i cA4).ownBlock = some q) w4).grown hgrow3 (fun k hk => .inr hk)) (fun j hj e => by obtain ⟨cur, hh⟩ := own_blk R4.out hj; obtain ⟨cur2, hh2⟩ := own_blk HO4.out e; exact types_nott hh hh2 (by decide) rfl)); clear hown' hgrow3 hnil3))
      go_ret
      have hL' : (R.L.take i ++ R.L.drop (i + 1)).length = i + (R.L.length - (i + 1)) := by simp; omega
      obtain ⟨p1, p2⟩ := H.out.swap HC5.out (fun j _ hj => hj.elim) (L' := R.L.take i ++ R.L.drop (i + 1)) (by rw [hL']; exact own_base HO5.out (Nat.zero_le _)) (fun q hq => by
        rw [List.mem_append] at hq
        rcases hq with hq | hq
        · exact H.out.fl q (List.mem_of_mem_take hq)
        · exact H.out.fl q (List.mem_of_mem_drop hq)) (fun a b p q r ha hb h1 h2 => by
        rw [cut_get hil] at ha hb
        have := H.out.apart _ _ p q r ha hb h1 h2
        split at this <;> split at this <;> omega) (by omega) (fun q hq => Nat.le_trans H.out.base (HO5.out.lt q hq).1) (fun q hq => by
        rw [List.mem_append] at hq
        rcases hq with hq | hq
        · exact H.out.zl q (List.mem_of_mem_take hq)
        · exact H.out.zl q (List.mem_of_mem_drop hq)) (fun q _ hq => hq.elim)
      refine ⟨_, rfl, ?_, by rw [E.out]; exact ⟨_, p1⟩, p2⟩
      rw [EL.out]
      exact own_chg R5.out ((Chg.refl (At y) w5).putAt) (fun j hj e => by
        obtain ⟨cur, hh⟩ := own_blk R5.out hj
        exact types_nott hh (HC5.out.same H.out.blk) (by decide) (show j = y from e))
end Go.Proofs.Ytiijnhgafadokaa
