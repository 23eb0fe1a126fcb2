/-
  Package inbox: what the walk of Take keeps; copy of bytes into a row of one's own.
-/
import Derived.Test.YtlkbfacdaelbfaaInD
import Derived.Laws.CopyOwn
namespace Go.Proofs.Ytlkbfacdaelbfaa
open Go.RowKit Ae
set_option linter.unusedVariables false
set_option linter.unusedSimpArgs false

theorem step_app_run {P : Program} {ops : Array Oper} {o : Oper} {a : Act} {w : World} {K : Act → World → Prop} {Q : Exit → Act → World → Prop} {E : Prop}
    (hg : o.guard = none) (d x : Operand) (dT sT : TypeId) (hop : o.op = Op.call { callee := Callee.builtin Builtin.append, args := #[d, x], argTypes := #[dT, sT] })
    (v u : Value) (hd : a.eval d = v) (hx : a.eval x = u) {v' : Value} {w' : World} (hr : (Builtin.append_ #[dT, sT] o.type #[v, u]).run P w = .ok v' w') (hK : K (a.put o.dst v') w') :
    if Region.wanted o (yielded ops a.tmps) = true then Oper.wp P o a w K Q else E := by
  have hw : Region.wanted o (yielded ops a.tmps) = true := by simp [Region.wanted, hg]
  rw [if_pos hw]
  unfold Oper.wp
  simp [execOp, hop, resolve, invoke, builtin, hd, hx, hr, Result.andThen]
  exact hK
theorem undB2 : Try.prog.underlying 47 = some (.slice 5) := Try.underlying47
theorem run_copyB (w : World) (ty : TypeId) (g off dLen dCap : Nat) (ad : Addr) (sLen sCap k : Nat) (cs : List Value) (cur : List Value) (t : TypeId) (hg : w.heap[g]? = some (.cells cur.toArray t (0, 0))) (hk : k = Nat.min sLen dLen) (hcs : cs.length = k)
    (hsrc : ∀ j v, cs[j]? = some v → w.cell? (ad.add j) = some v) (hfit : off + cs.length ≤ cur.length) (h1 : ∀ v ∈ cs, v.oneCell' = true) :
    (Builtin.copy_ #[47, 47] ty #[.slice (some ⟨g, off, none⟩) dLen dCap, .slice (some ad) sLen sCap]).run Try.prog w = .ok (goInt k) (w.setRow g (splice cur off cs).toArray) := by
  have hf := run_firstCells_some (P := Try.prog) w 1 k ad sLen sCap cs (by rw [hcs, Nat.mul_one]) hsrc
  have hst := run_storeCells_at Try.prog g off t cs 0 cur.toArray w hg (by simp; omega) h1
  simp only [Nat.add_zero] at hst
  have hu := undB2
  obtain ⟨i, hi, -, hz, -⟩ := infoB_parts
  subst hk
  simp only [Builtin.copy_]
  simp [run_underlying hu, Builtin.lenOf, hf, hst, splice, sizeOf, typeInfo, hi, hz]
theorem take_three {α : Type} (X Y Z : List α) {n : Nat} (h : X.length + Y.length ≤ n) : (X ++ (Y ++ Z)).take n = X ++ (Y ++ Z.take (n - X.length - Y.length)) := by
  rw [List.take_append, List.take_of_length_le (by omega), List.take_append, List.take_of_length_le (by omega)]
/-- A part of a row of one's own is written over. -/
theorem copyB_own (w : World) (g cap i j : Nat) (bs u : List Nat) (A : Option Addr) (m cs : Nat) (hown : w.ownsRow 0 5 1 (.slice (some ⟨g, 0, none⟩) bs.length cap) bs.length (bl bs)) (hx : RdB w (.slice A m cs) u) (hij : i < j) (hj : j ≤ bs.length) (hk : j - i ≤ m) :
    ∃ w', (∀ ty dc, (Builtin.copy_ #[47, 47] ty #[.slice (some ⟨g, i, none⟩) (j - i) dc, .slice A m cs]).run Try.prog w = .ok (goInt ((j - i : Nat) : Int)) w') ∧ w'.ownsRow 0 5 1 (.slice (some ⟨g, 0, none⟩) (bs.take i ++ u.take (j - i) ++ bs.drop j).length cap) (bs.take i ++ u.take (j - i) ++ bs.drop j).length (bl (bs.take i ++ u.take (j - i) ++ bs.drop j)) ∧ Chg (At g) w w' := by
  obtain ⟨hl, A', c', hv, hc, hA⟩ := hx
  simp only [Value.slice.injEq] at hv
  obtain ⟨rfl, rfl, rfl⟩ := hv
  obtain ⟨gs, os, rfl, hgs, hcell⟩ := hA (by omega)
  have hut : (u.take (j - i)).length = j - i := by rw [List.length_take]; omega
  rcases hown.2 with ⟨h1, h0⟩ | ⟨g', cap', cur, h1, q1, q2, q3, q4, q5, q6⟩
  · omega
  · simp only [Value.slice.injEq, Option.some.injEq, Addr.mk.injEq] at h1
    obtain ⟨⟨rfl, -⟩, -, rfl⟩ := h1
    have hcl : cur.toList.length = cap := by simpa using q5
    have hrun := fun ty dc => run_copyB w ty g i (j - i) dc ⟨gs, os, none⟩ u.length cs (j - i) (bl (u.take (j - i))) cur.toList 5 (by simpa using q2) (Nat.min_eq_right hk).symm (by rw [bl_len, hut]) (fun q v hq => by
      have hqn : q < j - i := by have := (List.getElem?_eq_some_iff.1 hq).1; rw [bl_len, hut] at this; exact this
      have e : (⟨gs, os, none⟩ : Addr).add q = ⟨gs, os + q, none⟩ := by unfold Addr.add; split <;> simp_all
      rw [e, hcell q (by rw [bl_len]; omega), ← hq, ← bl_take, List.getElem?_take_of_lt hqn]) (by rw [bl_len, hut]; omega) (bl_one _)
    have hlen : (bs.take i ++ u.take (j - i) ++ bs.drop j).length = bs.length := by
      have hi : (bs.take i).length = i := List.length_take_of_le (by omega)
      rw [List.length_append, List.length_append, hi, hut, List.length_drop]
      clear hrun hcell hA
      omega
    refine ⟨_, hrun, ?_, (Chg.refl (At g) w).putRow (.inl (At.self g))⟩
    rw [hlen]
    refine ⟨by rw [bl_len, hlen, Nat.mul_one], .inr ⟨g, cap, _, rfl, Nat.zero_le _, setRow_heap w g _ _ _ _ q2, q3, q4, ?_, ?_⟩⟩
    · rw [List.size_toArray, length_splice _ _ _ (by rw [bl_len, hut, hcl]; omega), hcl, Nat.mul_one]
    · have hb : cur.toList.take bs.length = bl bs := by rw [← q6, Nat.mul_one]
      have e1 : cur.toList.take i = bl (bs.take i) := by rw [← bl_take, ← hb, List.take_take, Nat.min_eq_left (by omega)]
      have e2 : (cur.toList.drop j).take (bs.length - j) = bl (bs.drop j) := by rw [← bl_drop, ← hb, List.drop_take]
      have hl1 : (bl (bs.take i)).length = i := by rw [bl_len, List.length_take]; omega
      have hl2 : (bl (u.take (j - i))).length = j - i := by rw [bl_len, hut]
      show (splice cur.toList i (bl (u.take (j - i)))).take (bs.length * 1) = _
      clear hrun hcell hA
      have hij2 : i + (j - i) = j := by omega
      have hin : i ≤ bs.length := by omega
      have hjn : j - i ≤ bs.length - i := by omega
      have hrest : bs.length - i - (j - i) = bs.length - j := by omega
      simp only [splice, Nat.mul_one, e1, hl2, hij2, List.append_assoc, bl_append, ← e2]
      rw [take_three _ _ _ (by rw [hl1, hl2]; omega), hl1, hl2, hrest]
/-- What Take keeps as it goes. -/
structure InQ (w : World) (F : Nat → Prop) (wr : World) (o p : Nat) (vb vL : Value) (y : In) : Prop where
  blk : wr.heap[o]? = some (.cells #[.int .i64 y.size, .int .i64 y.done, vb, .pointer (some ⟨p, 0, none⟩)] 99 (0, 0))
  own : wr.ownsRow 0 5 1 vb y.bs.length (bl y.bs)
  ra : RaAt wr p vL y.L
  fo : F o
  fp : F p
  fb : ∀ i, vb.ownBlock = some i → F i ∨ w.heap.size ≤ i
  fL : ∀ i, vL.ownBlock = some i → F i ∨ w.heap.size ≤ i
  chg : Chg F w wr
theorem InAt.q {w : World} {o : Nat} {F : Nat → Prop} {x : In} (h : InAt w o F x) : ∃ p vb vL, InQ w F w o p vb vL x := by
  obtain ⟨p, vb, vL, h1, h2, h3, h4, h5, h6, h7⟩ := h.ex
  exact ⟨p, vb, vL, h1, h2, h3, h4, h5, fun i hi => .inl (h6 i hi), fun i hi => .inl (h7 i hi), Chg.refl _ _⟩
theorem InQ.at' {w wr : World} {F : Nat → Prop} {o p : Nat} {vb vL : Value} {y : In} (h : InQ w F wr o p vb vL y) (hF : ∀ i, F i → i < w.heap.size ∨ w.heap.size ≤ i := fun i _ => Nat.lt_or_ge i _) : InAt wr o (Grow F w wr) y := by
  refine ⟨p, vb, vL, h.blk, h.own, h.ra, .inl h.fo, .inl h.fp, fun i hi => ?_, fun i hi => ?_⟩
  · rcases h.fb i hi with h1 | h1
    · exact .inl h1
    · obtain ⟨cur, hh⟩ := own_blk h.own hi
      exact .inr ⟨h1, lt_blk hh⟩
  · rcases h.fL i hi with h1 | h1
    · exact .inl h1
    · obtain ⟨cur, hh⟩ := own_blk h.ra.row hi
      exact .inr ⟨h1, lt_blk hh⟩
theorem InQ.idle {w wr w' : World} {F : Nat → Prop} {o p : Nat} {vb vL : Value} {y : In} (h : InQ w F wr o p vb vL y) (hc : Chg Nowhere wr w') : InQ w F w' o p vb vL y :=
  ⟨hc.same h.blk, own_chg h.own hc (fun _ _ => not_nowhere _), h.ra.idle hc, h.fo, h.fp, h.fb, h.fL, h.chg.then_none hc⟩
theorem InQ.bo {w wr : World} {F : Nat → Prop} {o p : Nat} {vb vL : Value} {y : In} (h : InQ w F wr o p vb vL y) : (∀ i, vb.ownBlock = some i → i ≠ o ∧ i ≠ p ∧ vL.ownBlock ≠ some i) ∧ (∀ i, vL.ownBlock = some i → i ≠ o ∧ i ≠ p) ∧ p ≠ o := by
  refine ⟨fun i hi => ⟨?_, ?_, fun hj => ?_⟩, fun i hi => ⟨?_, ?_⟩, ?_⟩
  · rintro rfl
    obtain ⟨cur, hh⟩ := own_blk h.own hi
    rw [h.blk] at hh
    simp at hh
  · rintro rfl
    obtain ⟨cur, hh⟩ := own_blk h.own hi
    rw [h.ra.blk] at hh
    simp at hh
  · obtain ⟨cur, hh⟩ := own_blk h.own hi
    obtain ⟨cur2, hh2⟩ := own_blk h.ra.row hj
    rw [hh] at hh2
    simp at hh2
  · rintro rfl
    obtain ⟨cur, hh⟩ := own_blk h.ra.row hi
    rw [h.blk] at hh
    simp at hh
  · rintro rfl
    obtain ⟨cur, hh⟩ := own_blk h.ra.row hi
    rw [h.ra.blk] at hh
    simp at hh
  · rintro rfl
    have := h.ra.blk
    rw [h.blk] at this
    simp at this
/-- The bytes are grown and stored. -/
theorem InQ.grow {w wr w2 : World} {F : Nat → Prop} {o p : Nat} {vb vL v' : Value} {y : In} {bs' : List Nat} (h : InQ w F wr o p vb vL y) (h1 : w2.ownsRow 0 5 1 v' bs'.length (bl bs')) (h2 : wr.grownBy w2 vb.ownBlock) (h3 : v'.ownBlock = vb.ownBlock ∨ v'.ownBlock = some wr.heap.size) : InQ w F (w2.setCell ⟨o, 2, none⟩ v') o p v' vL ⟨y.size, y.done, bs', y.L⟩ := by
  obtain ⟨b1, b2, b3⟩ := h.bo
  have hc1 : Chg (fun k => vb.ownBlock = some k) wr w2 := (Chg.refl _ wr).grown h2 (fun k hk => .inr hk)
  have hc2 : Chg (At o) w2 (w2.setCell ⟨o, 2, none⟩ v') := (Chg.refl (At o) w2).putAt
  have hs := h.chg.size
  have hlo := lt_blk h.blk
  refine ⟨?_, own_chg h1 hc2 fun i hi e => ?_, (h.ra.chg hc1 (fun e => (b1 p e).2.1 rfl) (fun i hi e => (b1 i e).2.2 hi)).chg hc2 (fun e => b3 e) (fun i hi e => (b2 i hi).1 e), h.fo, h.fp, fun i hi => ?_, h.fL, (h.chg.trans hc1 fun i hi e => ?_).trans hc2 fun i hi e => e ▸ h.fo⟩
  · rw [set_blk _ (hc1.keep h.blk fun e => (b1 o e).1 rfl)]; rfl
  · simp only [At] at e
    subst e
    rcases h3 with h3 | h3
    · exact (b1 i (h3 ▸ hi)).1 rfl
    · rw [h3] at hi; simp only [Option.some.injEq] at hi; omega
  · rcases h3 with h3 | h3
    · exact h.fb i (h3 ▸ hi)
    · rw [h3] at hi; simp only [Option.some.injEq] at hi; right; omega
  · rcases h.fb i e with h4 | h4
    · exact h4
    · omega
/-- Bytes are written over. -/
theorem InQ.copy {w wr w2 : World} {F : Nat → Prop} {o p g n cap : Nat} {vL : Value} {y : In} {bs' : List Nat} (h : InQ w F wr o p (.slice (some ⟨g, 0, none⟩) n cap) vL y) (h1 : w2.ownsRow 0 5 1 (.slice (some ⟨g, 0, none⟩) n cap) bs'.length (bl bs')) (hc : Chg (At g) wr w2) : InQ w F w2 o p (.slice (some ⟨g, 0, none⟩) n cap) vL ⟨y.size, y.done, bs', y.L⟩ := by
  obtain ⟨b1, b2, b3⟩ := h.bo
  have bg := b1 g rfl
  refine ⟨hc.keep h.blk fun e => bg.1 e.symm, h1, h.ra.chg hc (fun e => bg.2.1 e.symm) (fun i hi e => bg.2.2 (e ▸ hi)), h.fo, h.fp, h.fb, h.fL, h.chg.trans hc fun i hi e => ?_⟩
  rcases h.fb g rfl with h4 | h4
  · exact e ▸ h4
  · simp only [At] at e; omega
/-- The ranges are changed. -/
theorem InQ.moved {w wr w2 : World} {F : Nat → Prop} {o p : Nat} {vb vL : Value} {y : In} {L' : List Ra.Row} (h : InQ w F wr o p vb vL y) (hm : Moved wr p vL L' w2) : ∃ vL', InQ w F w2 o p vb vL' ⟨y.size, y.done, y.bs, L'⟩ := by
  obtain ⟨b1, b2, b3⟩ := h.bo
  obtain ⟨⟨vL', k1, k2⟩, hc⟩ := hm
  have hs := h.chg.size
  refine ⟨vL', hc.keep h.blk ?_, own_chg h.own hc fun i hi => ?_, k1, h.fo, h.fp, h.fb, fun i hi => ?_, h.chg.trans hc fun i hi e => ?_⟩
  · rintro (e | e)
    · exact b3 e.symm
    · exact (b2 o e).1 rfl
  · rintro (e | e)
    · exact (b1 i hi).2.1 e
    · exact (b1 i hi).2.2 e
  · rcases k2 i hi with h4 | h4
    · exact h.fL i h4
    · exact .inr (by omega)
  · rcases e with rfl | e
    · exact h.fp
    · rcases h.fL i e with h4 | h4
      · exact h4
      · omega
end Go.Proofs.Ytlkbfacdaelbfaa
