/-
  The document's scheduler: Sent.
-/
import Derived.Test.YtiijnhgafadokaaRsF
namespace Go.Proofs.Ytiijnhgafadokaa
open Go.RowKit
set_option linter.unusedVariables false
variable {B : Nat}

/-- append of nothing, as one step of a region that draws. -/
theorem step_append_none {P : Program} {w : World} {ops : Array Oper} {o : Oper} {a : Act} {K : Act → World → Prop} {Q : Exit → Act → World → Prop} {E : Prop} (hgd : o.guard = none) (s x : Operand) (t : TypeId)
    (ho : o.op = .call { callee := .builtin .append, args := #[s, x], argTypes := #[t, t] })
    (base : Nat) (e : TypeId) (i : TypeInfo) (size : Nat) (ht : P.underlying t = some (.slice e)) (hi : P.info? e = some i)
    (v : Value) (n : Nat) (xs : List Value) (hs : a.eval s = v) (hown : w.ownsRow base e size v n xs) (hx : a.eval x = .slice none 0 0)
    (h : K (a.put o.dst v) w) : if Region.wanted o (yielded ops a.tmps) = true then Oper.wp P o a w K Q else E := by
  have hw : Region.wanted o (yielded ops a.tmps) = true := by simp [Region.wanted, hgd]
  rw [if_pos hw]
  have hrun := run_append_owned_none (P := P) (w := w) base t o.type e i size ht hi v n xs hown
  unfold Oper.wp
  simp [execOp, ho, resolve, invoke, builtin, hs, hx, hrun, Result.andThen]
  exact h
/-- One flight is turned, behind a change of its own row. -/
theorem RSAt.cellsV {w : World} {y : Nat} {vL : Value} {R : RSch} (h : RSAt B w y vL R) {k : Nat} {f : RF} (hk : R.L[k]? = some f) :
    ∃ g o c, vL = .slice (some ⟨g, o, .none⟩) R.L.length c ∧
      ∀ (w4 : World) (S : Nat → Prop) (j : Nat) u f', Chg S w w4 → ¬ S y → ¬ S g → (∀ (a : Nat) q b, R.L[a]? = some q → a ≠ k → q.lv.ownBlock = some b → ¬ S b) → (∀ i cur, w.heap[i]? = some (.cells cur 49 (0,0)) → ¬ S i) → j < 5 → fcell f' = (fcell f).set j u → RfOk w4 f' → Apart R k f'.lv → (∀ i, f'.lv.ownBlock = some i → B ≤ i) →
        RSAt B (w4.setCell ⟨g, o + k * 5 + j, .none⟩ u) y vL { R with L := R.L.set k f' } := by
  have hl := (List.getElem?_eq_some_iff.1 hk).1
  have hfl := fcl_len R.L
  rcases h.row.2 with ⟨-, h0⟩ | ⟨g, cap, cur, hv, hg, hh, hn, hcap, hsz, hxs⟩
  · omega
  · refine ⟨g, 0, cap, hv, fun w4 S j u f' hS hy hgS hrows hrng hj e hok hap hzf => ?_⟩
    have hh4 := hS.keep hh hgS
    have hb4 := hS.keep h.blk hy
    have hC : Chg (At g) w4 (w4.setCell ⟨g, 0 + k * 5 + j, .none⟩ u) := (Chg.refl _ _).putAt
    have hr : ∀ {q : RF}, RfOk w4 q → RfOk (w4.setCell ⟨g, 0 + k * 5 + j, .none⟩ u) q := fun {q} hq => hq.keep hC (fun i hi e2 => by
      obtain ⟨c2, h2⟩ := own_blk hq.row hi
      exact types_nott h2 hh4 (by decide) (show i = g from e2)) (fun i c2 h2 e2 => types_nott h2 hh4 (by decide) (show i = g from e2))
    refine ⟨hC.keep hb4 (fun e2 => types_nott hb4 hh4 (by decide) (show y = g from e2)), ⟨by rw [fcl_len], .inr ⟨g, cap, cur.setIfInBounds (0 + k * 5 + j) u, by rw [List.length_set]; exact hv, hg, set_blk _ hh4, by rw [List.length_set]; exact hn, hcap, by rw [Array.size_setIfInBounds]; exact hsz, ?_⟩⟩, fun q hq => ?_, fun a b p q r ha hb h1 h2 => ?_, by rw [List.length_set]; exact h.len, h.zy, h.zL, fun q hq i hi => (List.mem_or_eq_of_mem_set hq).elim (fun hq => h.zl q hq i hi) (fun e => hzf i (e ▸ hi))⟩
    · rw [List.length_set, Nat.zero_add, Array.toList_setIfInBounds, ← fcl_set R.L k f f' j u hk hj e, List.take_set, hxs]
    · obtain ⟨a, ha⟩ := List.mem_iff_getElem?.1 hq
      rw [List.getElem?_set] at ha
      by_cases ea : k = a
      · rw [if_pos ea, if_pos (by omega)] at ha
        cases ha
        exact hr hok
      · rw [if_neg ea] at ha
        exact hr ((h.fl q (List.mem_of_getElem? ha)).keep hS (fun b hb => hrows a q b ha (fun e => ea e.symm) hb) hrng)
    · rw [List.getElem?_set] at ha hb
      by_cases ea : k = a
      · by_cases eb : k = b
        · omega
        · rw [if_pos ea, if_pos (by omega)] at ha
          rw [if_neg eb] at hb
          cases ha
          exact (hap b q r hb (fun e => eb e.symm) h1 h2).elim
      · rw [if_neg ea] at ha
        by_cases eb : k = b
        · rw [if_pos eb, if_pos (by omega)] at hb
          cases hb
          exact (hap a p r ha (fun e => ea e.symm) h2 h1).elim
        · rw [if_neg eb] at hb
          exact h.apart a b p q r ha hb h1 h2
def sentRF (f : RF) (c now : Int) (lv cv : Value) (car : List (Int × Int)) : RF := { f with has := true, top := c, lv := lv, l := f.l ++ [⟨c, mom21 now, cv, car⟩] }
def sentRS (R : RSch) (id c now : Int) (lv cv : Value) (car : List (Int × Int)) : RSch := match fnd R.L id with
  | some i => match R.L[i]? with
    | some f => if c < 0 ∨ 281474976710655 < c ∨ f.has = true ∧ c ≤ f.top then R else { R with L := R.L.set i (sentRF f c now lv cv car) }
    | .none => R
  | .none => R
def SentRTo (B : Nat) (w : World) (y : Nat) (R : RSch) (id c now : Int) (car : List (Int × Int)) (e : Ending) (w' : World) : Prop :=
  ∃ lv cv, e = .returned (.tuple #[]) ∧ RSIs B w' y (sentRS R id c now lv cv car) ∧ ChgR B w w' ∧ ∀ i, cv.ownBlock = some i → w.heap.size ≤ i
theorem sent_fin (w : World) (y : Nat) (R : RSch) (id : Int) (i : Nat) (f : RF) (c now : Int) (car : List (Int × Int)) (w2 w3 w4 : World) (g o cL gg cap4 : Nat) (Af : Option Addr) (cf : Nat) (cv : Value) (curF : Array Value)
    (P1 : RSAt B w2 y (.slice (some ⟨g, o, .none⟩) R.L.length cL) { pol := R.pol, last := R.last, L := R.L.set i { f with has := true, top := c } }) (hlv : f.lv = .slice Af f.l.length cf) (hil : i < R.L.length) (h1 : 0 ≤ c) (h2 : c ≤ 281474976710655) (hfl : f.l.length < 100000) (hcl : car.length ≤ 2000000)
    (HOK : RfOk w f) (HC3 : Chg Nowhere w2 w3) (hcv : w3.ownsRow 0 49 2 cv car.length (flat car))
    (HO4 : w4.ownsRow 0 120 3 (.slice (some ⟨gg, 0, .none⟩) (f.l.length + 1) cap4) (f.l.length + 1) (rcl f.l ++ [.int .i64 c, .int .i64 (mom21 now), cv]))
    (HC34 : Chg (fun q => (Value.slice Af f.l.length cf).ownBlock = some q) w3 w4) (HAT : (Value.slice Af f.l.length cf).ownBlock = some gg ∨ gg = w3.heap.size + 1) (HF2 : w2.heap[g]? = some (.cells curF 117 (0,0))) (HAP : Apart R i f.lv) (hR : ChgR B w w2)
    (E : ∀ lv cv, sentRS R id c now lv cv car = { R with L := R.L.set i (sentRF f c now lv cv car) }) (hfresh : ∀ i, cv.ownBlock = some i → w.heap.size ≤ i) :
    SentRTo B w y R id c now car (.returned (.tuple #[])) (w4.setCell ⟨g, o + i * 5 + 4, .none⟩ (.slice (some ⟨gg, 0, .none⟩) (f.l.length + 1) cap4)) := by
  have hff : (R.L.set i { f with has := true, top := c })[i]? = some { f with has := true, top := c } := by rw [List.getElem?_set_self hil]
  obtain ⟨g1, o1, c1, e, put⟩ := P1.cellsV hff
  simp only [Value.slice.injEq, Option.some.injEq, Addr.mk.injEq] at e
  obtain ⟨⟨rfl, rfl, -⟩, -, rfl⟩ := e
  rw [← hlv] at HC34 HAT
  have hfok := P1.fl { f with has := true, top := c } (List.mem_of_getElem? hff)
  have hC24 : Chg (fun q => f.lv.ownBlock = some q) w2 w4 := (HC3.mono (fun _ _ e => e.elim)).trans' HC34
  have hb : ∀ q, f.lv.ownBlock = some q → ∃ cur, w2.heap[q]? = some (.cells cur 120 (0,0)) := fun q hq => own_blk hfok.row hq
  have hb3 : ∀ q, f.lv.ownBlock = some q → ∃ cur, w3.heap[q]? = some (.cells cur 120 (0,0)) := fun q hq => by
    obtain ⟨cur, hh⟩ := hb q hq
    exact ⟨cur, HC3.same hh⟩
  have hne : ∀ {q : Nat} {cur : Array Value} {t : TypeId}, w2.heap[q]? = some (.cells cur t (0,0)) → t ≠ 120 → ¬ f.lv.ownBlock = some q := fun {q cur t} hh ht hq => by
    obtain ⟨cur2, hh2⟩ := hb q hq
    exact types_nott hh hh2 ht rfl
  have hcv4 := own_chg hcv HC34 (fun q hq hq2 => by
    obtain ⟨cur, hh⟩ := own_blk hcv hq
    obtain ⟨cur2, hh2⟩ := hb3 q hq2
    exact types_nott hh hh2 (by decide) rfl)
  have hok : RfOk w4 (sentRF f c now (.slice (some ⟨gg, 0, .none⟩) (f.l.length + 1) cap4) cv car) := by
    refine ⟨?_, fun r hr => ?_, ?_, HOK.win0, ⟨h1, h2⟩⟩
    · show w4.ownsRow 0 _ 3 _ (f.l ++ [(⟨c, mom21 now, cv, car⟩ : Rec)]).length (rcl (f.l ++ [(⟨c, mom21 now, cv, car⟩ : Rec)]))
      rw [List.length_append, rcl_append]
      exact HO4
    · rcases List.mem_append.1 hr with hr | hr
      · exact recOk_keep (hfok.recs r hr) hC24 (fun q cur hh => hne hh (by decide))
      · rw [List.mem_singleton] at hr
        subst hr
        exact ⟨hcv4, ⟨h1, h2⟩, mom21_in now, hcl⟩
    · show (f.l ++ [_]).length ≤ _
      rw [List.length_append]
      simp
      omega
  have key := put w4 _ 4 (.slice (some ⟨gg, 0, .none⟩) (f.l.length + 1) cap4) (sentRF f c now (.slice (some ⟨gg, 0, .none⟩) (f.l.length + 1) cap4) cv car) hC24 (hne P1.blk (by decide)) (hne HF2 (by decide)) (fun a q b ha hne2 hb1 hb2 => by
      simp only at ha
      rw [List.getElem?_set_ne (fun e => hne2 e.symm)] at ha
      exact HAP a q b ha hne2 hb2 hb1) (fun q cur hh => hne hh (by decide)) (by omega) rfl hok (fun a q r ha hne2 hb1 hb2 => by
      simp only at ha
      rw [List.getElem?_set_ne (fun e => hne2 e.symm)] at ha
      have hr : r = gg := by simpa [sentRF, Value.ownBlock] using hb1.symm
      subst hr
      rcases HAT with h | h
      · exact HAP a q _ ha hne2 h hb2
      · have h4 := P1.fl q (List.mem_of_getElem? (i := a) (by show (R.L.set i _)[a]? = _; rw [List.getElem?_set_ne (fun e => hne2 e.symm)]; exact ha))
        have := (h4.row.lt _ hb2).2
        have := HC3.size
        omega) (fun q hq => by
      have hr : q = gg := by simpa [sentRF, Value.ownBlock] using hq.symm
      subst hr
      rcases HAT with h | h
      · exact P1.zl _ (List.mem_of_getElem? hff) _ h
      · have := P1.base
        have := HC3.size
        omega)
  simp only [List.set_set] at key
  refine ⟨_, cv, rfl, by rw [E]; exact ⟨_, key⟩, hR.trans (ChgR.of (S := fun q => f.lv.ownBlock = some q ∨ q = g) (Chg.put (S := fun q => f.lv.ownBlock = some q ∨ q = g) (hC24.mono (fun q _ hq => Or.inl hq)) (b := g) (.inl (.inr rfl))) fun q _ hq => ?_), hfresh⟩
  rcases hq with hq | rfl
  · obtain ⟨cur, hh⟩ := hb q hq
    exact ⟨P1.zl _ (List.mem_of_getElem? hff) _ hq, cur, _, hh, .inr (.inr rfl)⟩
  · exact ⟨P1.zL _ rfl, curF, _, HF2, .inr (.inl rfl)⟩
end Go.Proofs.Ytiijnhgafadokaa
