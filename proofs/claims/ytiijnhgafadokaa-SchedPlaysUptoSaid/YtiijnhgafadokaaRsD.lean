/-
  The document's scheduler: Late.
-/
import Derived.Test.YtiijnhgafadokaaRsC
namespace Go.Proofs.Ytiijnhgafadokaa
open Go.RowKit
set_option linter.unusedVariables false
variable {B : Nat}

/-- Two rows of records that grow, one of those that are so, one of the others. -/
structure Two (w : World) (p : Rec → Bool) (l : List Rec) (va vb : Value) (wr : World) : Prop where
  a : wr.ownsRow w.heap.size 120 3 va (l.filter p).length (rcl (l.filter p))
  b : wr.ownsRow w.heap.size 120 3 vb (l.filter fun r => !p r).length (rcl (l.filter fun r => !p r))
  ne : ∀ i, va.ownBlock = some i → vb.ownBlock ≠ some i
  chg : Chg Nowhere w wr
theorem two_start (w : World) (p : Rec → Bool) : Two w p [] (.slice .none 0 0) (.slice .none 0 0) w :=
  ⟨World.ownsRow_nil _ _ _ _, World.ownsRow_nil _ _ _ _, (fun i hi => by cases hi), Chg.refl _ _⟩
theorem Two.idle {w : World} {p : Rec → Bool} {l : List Rec} {va vb : Value} {wr w' : World} (h : Two w p l va vb wr) (hc : Chg Nowhere wr w') : Two w p l va vb w' :=
  ⟨own_chg h.a hc (fun _ _ => not_nowhere _), own_chg h.b hc (fun _ _ => not_nowhere _), h.ne, h.chg.trans' hc⟩
theorem Two.yes {w : World} {p : Rec → Bool} {l : List Rec} {k : Nat} {r : Rec} {va vb va' : Value} {wr w4 : World} (h : Two w p (l.take k) va vb wr) (hr : l[k]? = some r) (hp : p r = true) (o : Obj)
    (hown : w4.ownsRow w.heap.size 120 3 va' (((l.take k).filter p).length + 1) (rcl ((l.take k).filter p) ++ rcl [r])) (hg : (wr.alloc o).grownBy w4 va.ownBlock) (hb : va'.ownBlock = va.ownBlock ∨ va'.ownBlock = some (wr.alloc o).heap.size) :
    Two w p (l.take (k + 1)) va' vb w4 := by
  have hlo : ∀ i, va.ownBlock = some i → w.heap.size ≤ i := fun i hi => (h.a.lt i hi).1
  have hC : Chg (fun i => va.ownBlock = some i) wr w4 := ((Chg.refl _ wr).alloc o).grown hg (fun i hi => .inr hi)
  refine ⟨?_, ?_, fun i hi => ?_, h.chg.trans hC fun i hi e => by have := hlo i e; omega⟩
  · rw [filter_snoc hr, hp, if_pos rfl, List.length_append, rcl_append]; exact hown
  · rw [filter_snoc hr, hp]
    simp only [Bool.not_true, Bool.false_eq_true, if_false, List.append_nil]
    exact own_chg h.b hC (fun i hi e => h.ne i e hi)
  · rcases hb with e | e
    · rw [e] at hi; exact h.ne i hi
    · rw [e] at hi; injection hi with hi; intro hl2; have := (h.b.lt i hl2).2; simp at hi; omega
theorem Two.nay {w : World} {p : Rec → Bool} {l : List Rec} {k : Nat} {r : Rec} {va vb vb' : Value} {wr w4 : World} (h : Two w p (l.take k) va vb wr) (hr : l[k]? = some r) (hp : p r = false) (o : Obj)
    (hown : w4.ownsRow w.heap.size 120 3 vb' (((l.take k).filter fun r => !p r).length + 1) (rcl ((l.take k).filter fun r => !p r) ++ rcl [r])) (hg : (wr.alloc o).grownBy w4 vb.ownBlock) (hb : vb'.ownBlock = vb.ownBlock ∨ vb'.ownBlock = some (wr.alloc o).heap.size) :
    Two w p (l.take (k + 1)) va vb' w4 := by
  have hlo : ∀ i, vb.ownBlock = some i → w.heap.size ≤ i := fun i hi => (h.b.lt i hi).1
  have hC : Chg (fun i => vb.ownBlock = some i) wr w4 := ((Chg.refl _ wr).alloc o).grown hg (fun i hi => .inr hi)
  refine ⟨?_, ?_, fun i hi => ?_, h.chg.trans hC fun i hi e => by have := hlo i e; omega⟩
  · rw [filter_snoc hr, hp]
    simp only [Bool.false_eq_true, if_false, List.append_nil]
    exact own_chg h.a hC (fun i hi e => h.ne i hi e)
  · rw [filter_snoc hr, hp]
    simp only [Bool.not_false, if_true]
    rw [List.length_append, rcl_append]; exact hown
  · rcases hb with e | e
    · rw [e]; exact h.ne i hi
    · rw [e]; intro hl2; injection hl2 with hl2; have := (h.a.lt i hi).2; simp at hl2; omega
/-- Rows whose records are some of a flight's. -/
theorem rows_filter {w wr : World} {f : RF} (hf : RfOk w f) (hc : Chg Nowhere w wr) {q : Rec → Bool} {v : Value} {base : Nat} (ho : wr.ownsRow base 120 3 v (f.l.filter q).length (rcl (f.l.filter q))) : Rows wr v (f.l.filter q) :=
  ⟨own_base ho (Nat.zero_le _), fun r hr => recOk_keep (hf.recs r (List.mem_filter.1 hr).1) hc (fun _ _ _ => not_nowhere _), by have := List.length_filter_le q f.l; have := hf.len; omega⟩
/-- A row that is new is nobody's. -/
theorem RSAt.apart_new {w : World} {y : Nat} {vL : Value} {R : RSch} (h : RSAt B w y vL R) {v : Value} {k : Nat} (hv : ∀ i, v.ownBlock = some i → w.heap.size ≤ i) : Apart R k v := fun i g r hi _ h1 h2 => by
  have := ((h.fl g (List.mem_of_getElem? hi)).row.lt r h2).2
  have := hv r h1
  omega
/-- The cells of a record of a row. -/
theorem Rows.cells {w : World} {v : Value} {l : List Rec} (h : Rows w v l) {k : Nat} {r : Rec} (hr : l[k]? = some r) :
    ∃ g o c, v = .slice (some ⟨g, o, .none⟩) l.length c ∧ g < w.heap.size ∧ w.cell? ⟨g, o + k * 3, .none⟩ = some (.int .i64 r.c) ∧ w.cell? ⟨g, o + k * 3 + 1, .none⟩ = some (.int .i64 r.t) ∧ w.cell? ⟨g, o + k * 3 + 2, .none⟩ = some r.cv ∧ ∃ A n c', r.cv = .slice A n c' := by
  obtain ⟨-, A, c, rfl, -, hA⟩ := Rd.of_owns h.row
  have hl := (List.getElem?_eq_some_iff.1 hr).1
  obtain ⟨g, o, rfl, hg, hcell⟩ := hA (by omega)
  have hlen := rcl_len l
  obtain ⟨g0, g1, g2⟩ := rcl_get l k r hr
  have hcc : ∀ j u, j < 3 → (rcl l)[k * 3 + j]? = some u → w.cell? ⟨g, o + (k * 3 + j), .none⟩ = some u := fun j u hj hu => (hcell (k * 3 + j) (by omega)).trans hu
  refine ⟨g, o, c, rfl, hg, hcc 0 _ (by omega) g0, hcc 1 _ (by omega) g1, hcc 2 _ (by omega) g2, ?_⟩
  obtain ⟨-, A', c', h', -⟩ := Rd.of_owns (h.recs r (List.mem_of_getElem? hr)).row
  exact ⟨_, _, _, h'⟩
def lateRF (f : RF) (now age : Int) (vl : Value) : RF := lostR f vl (f.l.filter (lateP now age)) (f.l.filter fun r => !lateP now age r)
def lateRL (R : RSch) (id now age : Int) : List (Int × Int) := match fnd R.L id with
  | some i => match R.L[i]? with
    | some f => cars (f.l.filter (lateP now age))
    | .none => []
  | .none => []
def lateRS (R : RSch) (id now age : Int) (vl : Value) : RSch := match fnd R.L id with
  | some i => match R.L[i]? with
    | some f => { R with L := R.L.set i (lateRF f now age vl) }
    | .none => R
  | .none => R
def LateRTo (B : Nat) (w : World) (y : Nat) (R : RSch) (id now age : Int) (e : Ending) (w' : World) : Prop :=
  ∃ v vl, e = .returned v ∧ w'.ownsRow w.heap.size 49 2 v (lateRL R id now age).length (flat (lateRL R id now age)) ∧ RSIs B w' y (lateRS R id now age vl) ∧ ChgR B w w'
set_option maxHeartbeats 3200000 in
set_option maxRecDepth 100000 in
theorem lateR_any (w : World) (y : Nat) (R : RSch) (h : RSIs B w y R) (id now age : Int) :
    Calls Try.prog 57 #[.pointer (some ⟨y, 0, .none⟩), .int .i64 id, .int .i64 now, .int .i64 age] w (LateRTo B w y R id now age) := by
  obtain ⟨i0, hi, hz0, hz1, hz2⟩ := info_parts infoRecR
  have HI := Lib.hid h
  obtain ⟨vL, h⟩ := h
  have H := Lib.hid h
  obtain ⟨A, c, rfl⟩ := h.slice
  have c2 : w.cell? ⟨y, 2, .none⟩ = some (.slice A R.L.length c) := by rw [cell_blk h.blk]; rfl
  clear h
  cases hf : fnd R.L id with
  | none =>
    have E := Lib.hid (show lateRS R id now age (.slice .none 0 0) = R by unfold lateRS; rw [hf])
    have EL := Lib.hid (show lateRL R id now age = [] by unfold lateRL; rw [hf])
    have EA := Lib.hid (show atI R.L id = -1 by unfold atI; rw [hf])
    clear hf
    go_enter Try.func57, Try.ntmps57
    go_wp2_with fail
    refine (at_any w y R HI.out id).mono ?_
    rw [EA.out]
    rintro e w' ⟨rfl, rfl⟩
    go_wp2_with fail
    go_ret
    refine ⟨_, .slice .none 0 0, rfl, ?_, by rw [E.out]; exact HI.out, ChgR.refl _⟩
    rw [EL.out]
    exact World.ownsRow_nil _ _ _ _
  | some i =>
    obtain ⟨f, hfi, -⟩ := fnd_some hf
    have hil := (List.getElem?_eq_some_iff.1 hfi).1
    have E := Lib.hid (show ∀ vl, lateRS R id now age vl = { R with L := R.L.set i (lateRF f now age vl) } from fun vl => by unfold lateRS; rw [hf]; simp only; rw [hfi])
    have EL := Lib.hid (show lateRL R id now age = cars (f.l.filter (lateP now age)) by unfold lateRL; rw [hf]; simp only; rw [hfi])
    have EA := Lib.hid (show atI R.L id = (i : Int) by unfold atI; rw [hf])
    obtain ⟨g, o, c', e, hg, d0, d1, d2, d3, d4, -⟩ := H.out.cells hfi
    cases e
    have HOK := Lib.hid (H.out.fl f (List.mem_of_getElem? hfi))
    have HFI := Lib.hid hfi
    have HRW := Lib.hid (show Rows w f.lv f.l from ⟨HOK.out.row, HOK.out.recs, HOK.out.len⟩)
    obtain ⟨Af, cf, hlv⟩ : ∃ Af cf, f.lv = .slice Af f.l.length cf := by
      obtain ⟨-, Al, cl, hv, -, -⟩ := Rd.of_owns HOK.out.row
      exact ⟨Al, cl, hv⟩
    rw [hlv] at d4
    have HLV := Lib.hid hlv
    have D4 := Lib.hid d4
    have hll := HOK.out.len
    clear hf hfi hlv d0 d1 d2 d3
    go_enter Try.func57, Try.ntmps57
    go_wp2_with fail
    refine (at_any w y R HI.out id).mono ?_
    rw [EA.out]
    rintro e w' ⟨rfl, rfl⟩
    go_wp2_with fail
    clear d4
    go_loopw [11, 12, 13] (fun va vb i wr => ∃ (k : Nat), k ≤ f.l.length ∧ i = .int .i64 k ∧ Hid (Two w (lateP now age) (f.l.take k) va vb wr)) (fun _ _ i _ => 100000 - (intOf i).toNat)
    case atStart => exact ⟨0, by omega, rfl, Lib.hid (two_start w _)⟩
    case round =>
      obtain ⟨k, hk, rfl, HT⟩ := hrel
      have d4 : wr.cell? ⟨g, o + i * 5 + 4, .none⟩ = some (.slice Af f.l.length cf) := (HT.out.chg.cell (p := ⟨g, o + i * 5 + 4, .none⟩) hg (not_nowhere _)).trans D4.out
      by_cases hk2 : k < f.l.length
      · obtain ⟨r, hr⟩ : ∃ r, f.l[k]? = some r := ⟨_, List.getElem?_eq_getElem hk2⟩
        obtain ⟨gr, orr, cr, er, hgr, e0, e1, e2, A', n', c', hcv⟩ := (HRW.out.idle HT.out.chg).cells hr
        rw [HLV.out] at er
        cases er
        rw [hcv] at e2
        have hro := HRW.out.recs r (List.mem_of_getElem? hr)
        have HR := Lib.hid hr
        have HR1 := Lib.hid (show rcl [r] = [.int .i64 r.c, .int .i64 r.t, .slice A' n' c'] by rw [rcl_one, hcv])
        have m1 := mom21_in now
        have m2 := mom21_in age
        obtain ⟨n1, hn1⟩ : ∃ x, mom21 now = x := ⟨_, rfl⟩
        obtain ⟨n2, hn2⟩ : ∃ x, mom21 age = x := ⟨_, rfl⟩
        rw [hn1] at m1
        rw [hn2] at m2
        have hw : IntKind.i64.wrap (n1 - n2) = n1 - n2 := wrapI ⟨by omega, by omega⟩
        have HN1 := Lib.hid (show ∀ q, Calls Try.prog 85 #[.int .i64 now] (wr.drewN q) fun e w'' => e = .returned (.int .i64 n1) ∧ ∃ m, w'' = wr.drewN m from fun q => by rw [← hn1]; exact momR_q now wr q)
        have HN2 := Lib.hid (show ∀ q, Calls Try.prog 85 #[.int .i64 age] (wr.drewN q) fun e w'' => e = .returned (.int .i64 n2) ∧ ∃ m, w'' = wr.drewN m from fun q => by rw [← hn2]; exact momR_q age wr q)
        have HP := Lib.hid (show lateP now age r = decide (r.t ≤ n1 - n2) by unfold lateP; rw [hn1, hn2])
        have hfl1 : ((f.l.take k).filter (lateP now age)).length ≤ k := by have := List.length_filter_le (lateP now age) (f.l.take k); simp at this; omega
        have hfl2 : ((f.l.take k).filter fun r => !lateP now age r).length ≤ k := by have := List.length_filter_le (fun r => !lateP now age r) (f.l.take k); simp at this; omega
        clear hr hcv hro hn1 hn2
        cases hd : decide (r.t ≤ n1 - n2) with
        | true => as_aux_lemma =>
          rw [hd] at HP
          go_wp2_with fail
          go_quiet ((first | (go_at_call 85; exact HN1.out _) | (go_at_call 85; exact HN2.out _)))
          have HT2 := Lib.hid (HT.out.idle ((Chg.refl Nowhere _).drewN nq))
          go_wp2_with (at_builtin; refine wpList_append_own_at _ rfl _ _ 115 rfl w.heap.size 120 i0 (.agg #[.int .i64 0, .int .i64 0, .slice .none 0 0]) 3 40 Try.underlying115 hi hz0 hz1 hz2 rfl (by decide) _ _ _ rfl (HT2.out.a.alloc _) ⟨(wr.drewN nq).heap.size, 0, .none⟩ 1 1 [.int .i64 r.c, .int .i64 r.t, .slice A' n' c'] rfl rfl (new3 (wr.drewN nq) _ _ _ _) (fun x hx => by simp at hx; rcases hx with rfl | rfl | rfl <;> rfl) (by unfold maxLen; omega) (by omega) (by have := HT2.out.chg.size; simp at this ⊢; omega) ?_; intro v' w4 hown' hgrow3 hnil3 hob; rw [← HR1.out] at hown'; have HN := Lib.hid (HT2.out.yes HR.out HP.out _ hown' hgrow3 hob); clear hown' hgrow3 hnil3 hob)
          go_roundw
          case rel => exact ⟨k + 1, by omega, by go_num, HN⟩
          case measure => simp [intOf]; omega
        | false => as_aux_lemma =>
          rw [hd] at HP
          go_wp2_with fail
          go_quiet ((first | (go_at_call 85; exact HN1.out _) | (go_at_call 85; exact HN2.out _)))
          have HT2 := Lib.hid (HT.out.idle ((Chg.refl Nowhere _).drewN nq))
          go_wp2_with (at_builtin; refine wpList_append_own_at _ rfl _ _ 115 rfl w.heap.size 120 i0 (.agg #[.int .i64 0, .int .i64 0, .slice .none 0 0]) 3 40 Try.underlying115 hi hz0 hz1 hz2 rfl (by decide) _ _ _ rfl (HT2.out.b.alloc _) ⟨(wr.drewN nq).heap.size, 0, .none⟩ 1 1 [.int .i64 r.c, .int .i64 r.t, .slice A' n' c'] rfl rfl (new3 (wr.drewN nq) _ _ _ _) (fun x hx => by simp at hx; rcases hx with rfl | rfl | rfl <;> rfl) (by unfold maxLen; omega) (by omega) (by have := HT2.out.chg.size; simp at this ⊢; omega) ?_; intro v' w4 hown' hgrow3 hnil3 hob; rw [← HR1.out] at hown'; have HN := Lib.hid (HT2.out.nay HR.out HP.out _ hown' hgrow3 hob); clear hown' hgrow3 hnil3 hob)
          go_roundw
          case rel => exact ⟨k + 1, by omega, by go_num, HN⟩
          case measure => simp [intOf]; omega
      · obtain rfl : k = f.l.length := by omega
        rw [List.take_length] at HT
        have HA := Lib.hid (H.out.idle HT.out.chg)
        go_wp2_with fail
        refine (loseR_any wr y R g o c HA.out i f HFI.out _ _ (f.l.filter (lateP now age)) (f.l.filter fun r => !lateP now age r) (rows_filter HOK.out HT.out.chg HT.out.a) (rows_filter HOK.out HT.out.chg HT.out.b) (H.out.apart_new fun j hj => (HT.out.b.lt j hj).1) (fun j hj => Nat.le_trans H.out.base (HT.out.b.lt j hj).1)).mono ?_
        rintro e w5 ⟨v, rfl, r1, r2, r3⟩
        have R1 := Lib.hid r1
        have R2 := Lib.hid r2
        have R3 := Lib.hid r3
        clear r1 r2 r3
        go_wp2_with fail
        go_ret
        refine ⟨_, _, rfl, ?_, by rw [E.out]; exact R2.out, (ChgR.none HT.out.chg).trans R3.out⟩
        rw [EL.out]
        exact own_base R1.out HT.out.chg.size
end Go.Proofs.Ytiijnhgafadokaa
