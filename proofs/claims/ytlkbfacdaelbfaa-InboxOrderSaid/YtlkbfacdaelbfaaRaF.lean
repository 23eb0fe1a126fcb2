/-
  Rows of ranges in memory: copy, clear, append; what slices.overlaps tells.
-/
import Derived.Test.YtlkbfacdaelbfaaRaE
import Derived.Laws.CopyOwn
import Derived.Laws.Externs
import Derived.Lib.Overlaps
import Derived.Lib.AppendZerosOnto
namespace Go.Proofs.Ytlkbfacdaelbfaa
open Go.RowKit
set_option linter.unusedVariables false

theorem undR : Try.prog.underlying 30 = some (.slice 33) := Try.underlying30
theorem sizeR (w : World) : (sizeOf 33).run Try.prog w = .ok 2 w := by
  obtain ⟨i, hi, -, hz, -⟩ := info_parts infoRng
  simp [sizeOf, typeInfo, hi, hz]
/-- copy, the target lying in a row that is known. -/
theorem run_copy2 (w : World) (ty : TypeId) (g off dLen dCap : Nat) (ad : Addr) (sLen sCap k : Nat) (cs : List Value) (cur : List Value) (t : TypeId) (hg : w.heap[g]? = some (.cells cur.toArray t (0, 0))) (hk : k = Nat.min sLen dLen) (hcs : cs.length = k * 2)
    (hsrc : ∀ j v, cs[j]? = some v → w.cell? (ad.add j) = some v) (hfit : off + cs.length ≤ cur.length) (h1 : ∀ v ∈ cs, v.oneCell' = true) :
    (Builtin.copy_ #[30, 30] ty #[.slice (some ⟨g, off, none⟩) dLen dCap, .slice (some ad) sLen sCap]).run Try.prog w = .ok (goInt k) (w.setRow g (splice cur off cs).toArray) := by
  have hf := run_firstCells_some (P := Try.prog) w 2 k ad sLen sCap cs hcs hsrc
  have hst := run_storeCells_at Try.prog g off t cs 0 cur.toArray w hg (by simp; omega) h1
  simp only [Nat.add_zero] at hst
  have hu := undR
  subst hk
  simp only [Builtin.copy_]
  simp [run_underlying hu, Builtin.lenOf, hf, hst, splice]
theorem run_copy2_none (w : World) (ty : TypeId) (dp : Option Addr) (dLen dCap : Nat) (sp : Option Addr) (sCap : Nat) :
    (Builtin.copy_ #[30, 30] ty #[.slice dp dLen dCap, .slice sp 0 sCap]).run Try.prog w = .ok (goInt 0) w := by
  have hu := undR
  have hm : Nat.min 0 dLen = 0 := Nat.zero_min _
  have hf : (Builtin.firstCells 2 0 (.slice sp 0 sCap)).run Try.prog w = .ok #[] w := by
    cases sp with
    | none => exact run_firstCells_none w 2 0 0 sCap
    | some a => exact run_firstCells_some w 2 0 a 0 sCap [] rfl (fun j v h => by simp at h)
  cases dp <;> simp [Builtin.copy_, run_underlying hu, Builtin.lenOf, hm, hf, storeCells]
theorem wp_copy_run {P : Program} (w : World) {o : Oper} {a : Act} {K : Act → World → Prop} {Q : Exit → Act → World → Prop} (d s : Operand) (t t' : TypeId)
    (ho : o.op = .call { callee := .builtin .copy, args := #[d, s], argTypes := #[t, t'] }) (v u : Value) (hd : a.eval d = v) (hs : a.eval s = u) {v' : Value} {w' : World}
    (hr : (Builtin.copy_ #[t, t'] o.type #[v, u]).run P w = .ok v' w') (h : K (a.put o.dst v') w') : o.wp P a w K Q := by
  unfold Oper.wp execOp
  simp only [ho, resolve, invoke, builtin, Sem.run_bind, Sem.run_pure, Result.andThen_ok, List.map_toArray, List.map_cons, List.map_nil, hd, hs, hr]
  exact h
theorem wpList_copy_run {P : Program} (w : World) {ops : Array Oper} {rest : List Oper} {o : Oper} {a : Act} {Q : Exit → Act → World → Prop} (hgd : o.guard = none) (d s : Operand) (t t' : TypeId)
    (ho : o.op = .call { callee := .builtin .copy, args := #[d, s], argTypes := #[t, t'] }) (v u : Value) (hd : a.eval d = v) (hs : a.eval s = u) {v' : Value} {w' : World}
    (hr : (Builtin.copy_ #[t, t'] o.type #[v, u]).run P w = .ok v' w') (h : wpList P ops Q rest (a.put o.dst v') w') : wpList P ops Q (o :: rest) a w :=
  wpList_plain hgd fun _ hK => wp_copy_run w d s t t' ho v u hd hs hr (hK _ _ h)
theorem step_copy_run {P : Program} {ops : Array Oper} {o : Oper} {a : Act} {w : World} {K : Act → World → Prop} {Q : Exit → Act → World → Prop} {E : Prop}
    (hg : o.guard = none) (d x : Operand) (dT sT : TypeId) (hop : o.op = Op.call { callee := Callee.builtin Builtin.copy, args := #[d, x], argTypes := #[dT, sT] })
    (v u : Value) (hd : a.eval d = v) (hx : a.eval x = u) {v' : Value} {w' : World} (hr : (Builtin.copy_ #[dT, sT] o.type #[v, u]).run P w = .ok v' w') (hK : K (a.put o.dst v') w') :
    if Region.wanted o (yielded ops a.tmps) = true then Oper.wp P o a w K Q else E := by
  have hw : Region.wanted o (yielded ops a.tmps) = true := by simp [Region.wanted, hg]
  rw [if_pos hw]
  unfold Oper.wp
  simp [execOp, hop, resolve, invoke, builtin, hd, hx, hr, Result.andThen]
  exact hK
theorem zero_cells2 (k : Nat) : Builtin.zeroCells (Value.agg #[.int .i64 0, .int .i64 0]).cells k = (List.replicate (k * 2) (Value.int .i64 0)).toArray := by
  apply Array.ext'
  apply List.ext_getElem
  · simp [Builtin.zeroCells, Value.cells]
  · intro n h1 h2
    have : n % 2 = 0 ∨ n % 2 = 1 := by omega
    rcases this with h | h <;> simp [Builtin.zeroCells, Value.cells, h]
theorem rep_one (k : Nat) : ∀ v ∈ List.replicate k (Value.int .i64 0), v.oneCell' = true := fun v hv => by rw [List.eq_of_mem_replicate hv]; rfl
theorem run_clear2 (w : World) (ty : TypeId) (g off n c : Nat) (cur : List Value) (t : TypeId) (hg : w.heap[g]? = some (.cells cur.toArray t (0, 0))) (hfit : off + n * 2 ≤ cur.length) :
    (Builtin.clear_ #[30] ty #[.slice (some ⟨g, off, none⟩) n c]).run Try.prog w = .ok (.tuple #[]) (w.setRow g (splice cur off (List.replicate (n * 2) (Value.int .i64 0))).toArray) := by
  have hu := undR
  have hz := Try.zeroValue33
  cases n with
  | zero =>
    have e : splice cur off (List.replicate (0 * 2) (Value.int .i64 0)) = cur := by simp [splice]
    rw [e, setRow_self w g cur.toArray t (0, 0) hg]
    simp [Builtin.clear_, run_underlying hu]
  | succ m =>
    have hst := run_storeCells_at Try.prog g off t (List.replicate ((m + 1) * 2) (Value.int .i64 0)) 0 cur.toArray w hg (by simp; omega) (rep_one _)
    simp only [Nat.add_zero] at hst
    have hzc := zero_cells2 (m + 1)
    simp [Builtin.clear_, run_underlying hu, hz, hzc, hst, splice]
/-- A row laid between two parts of a row: once moved, once laid. -/
theorem splice_shift {α : Type} (X Y R V : List α) (a c : Nat) (ha : X.length = a) (hc : V.length = c) (hr : c ≤ R.length) :
    splice (splice (X ++ Y ++ R) (a + c) Y) a V = X ++ V ++ Y ++ R.drop c := by
  subst ha hc
  have h1 : splice (X ++ Y ++ R) (X.length + V.length) Y = (X ++ Y ++ R).take (X.length + V.length) ++ (Y ++ R.drop V.length) := by
    unfold splice
    have : (X ++ Y ++ R).drop (X.length + V.length + Y.length) = R.drop V.length := by
      rw [show X.length + V.length + Y.length = (X ++ Y).length + V.length by rw [List.length_append]; omega, ← List.drop_drop, List.drop_left]
    rw [this]
  have hl : ((X ++ Y ++ R).take (X.length + V.length)).length = X.length + V.length := by
    rw [List.length_take]; simp only [List.length_append]; omega
  rw [h1]
  unfold splice
  have t1 : ((X ++ Y ++ R).take (X.length + V.length) ++ (Y ++ R.drop V.length)).take X.length = X := by
    rw [List.take_append_of_le_length (by omega), List.take_take, Nat.min_eq_left (by omega), List.append_assoc, List.take_left]
  have t2 : ((X ++ Y ++ R).take (X.length + V.length) ++ (Y ++ R.drop V.length)).drop (X.length + V.length) = Y ++ R.drop V.length := by
    have := List.drop_left (l₁ := (X ++ Y ++ R).take (X.length + V.length)) (l₂ := Y ++ R.drop V.length)
    rw [hl] at this
    exact this
  rw [t1, t2]
  simp
theorem take_mid {α : Type} (X V Y R : List α) (n : Nat) (h : (X ++ V ++ Y).length = n) : (X ++ V ++ Y ++ R).take n = X ++ V ++ Y := by
  subst h; exact List.take_left
theorem flat_take (l : List Ra.Row) (k : Nat) : flat (l.take k) = (flat l).take (k * 2) := by
  induction l generalizing k with
  | nil => simp [flat]
  | cons r l ih =>
    cases k with
    | zero => simp [flat]
    | succ k => rw [List.take_succ_cons, flat_cons, flat_cons, show (k + 1) * 2 = k * 2 + 1 + 1 by omega, List.take_succ_cons, List.take_succ_cons, ih]
theorem flat_drop (l : List Ra.Row) (k : Nat) : flat (l.drop k) = (flat l).drop (k * 2) := by
  induction l generalizing k with
  | nil => simp [flat]
  | cons r l ih =>
    cases k with
    | zero => simp
    | succ k => rw [List.drop_succ_cons, flat_cons, show (k + 1) * 2 = k * 2 + 1 + 1 by omega, List.drop_succ_cons, List.drop_succ_cons, ih]
/-- A row of ranges in a block of its own. -/
structure RowAt (w : World) (g cap : Nat) (cur : List Value) : Prop where
  blk : w.heap[g]? = some (.cells cur.toArray 33 (0, 0))
  size : cur.length = cap * 2
  max : cap ≤ maxLen
theorem RowAt.own {w : World} {g cap : Nat} {cur : List Value} (h : RowAt w g cap cur) {n : Nat} {xs : List Value} (hn : n ≤ cap) (hl : xs.length = n * 2) (ht : cur.take (n * 2) = xs) : w.ownsRow 0 33 2 (.slice (some ⟨g, 0, none⟩) n cap) n xs :=
  ⟨hl, .inr ⟨g, cap, cur.toArray, rfl, Nat.zero_le _, h.blk, hn, h.max, by simpa using h.size, by simpa using ht⟩⟩
theorem own_rowAt {w : World} {v : Value} {n : Nat} {xs : List Value} (h : w.ownsRow 0 33 2 v n xs) (hn : 0 < n) : ∃ g cap R, v = .slice (some ⟨g, 0, none⟩) n cap ∧ RowAt w g cap (xs ++ R) ∧ n ≤ cap := by
  rcases h.2 with ⟨rfl, h0⟩ | ⟨g, cap, cur, rfl, _, hg, hnc, hm, hcs, htake⟩
  · omega
  · refine ⟨g, cap, cur.toList.drop (n * 2), rfl, ⟨?_, ?_, hm⟩, hnc⟩
    · rw [← htake, List.take_append_drop]; simpa using hg
    · rw [← htake, List.take_append_drop]; simpa using hcs
theorem RowAt.cell {w : World} {g cap : Nat} {cur : List Value} (h : RowAt w g cap cur) {j : Nat} {u : Value} (hj : cur[j]? = some u) : w.cell? ⟨g, j, none⟩ = some u := by
  rw [cell_blk h.blk]; simpa using hj
theorem RowAt.set {w : World} {g cap : Nat} {cur cur' : List Value} (h : RowAt w g cap cur) (hl : cur'.length = cur.length) : RowAt (w.setRow g cur'.toArray) g cap cur' :=
  ⟨setRow_heap w g _ _ _ _ h.blk, by rw [hl]; exact h.size, h.max⟩
theorem RowAt.drew {w : World} {g cap : Nat} {cur : List Value} (h : RowAt w g cap cur) : RowAt w.drew g cap cur := ⟨h.blk, h.size, h.max⟩
theorem RowAt.other {w : World} {g cap b : Nat} {cur : List Value} {cs : Array Value} (h : RowAt w g cap cur) (hb : g ≠ b) : RowAt (w.setRow b cs) g cap cur :=
  ⟨(setRow_other w b g cs hb).trans h.blk, h.size, h.max⟩
theorem addr_add (g o j : Nat) : (⟨g, o, none⟩ : Addr).add j = ⟨g, o + j, none⟩ := by unfold Addr.add; split <;> simp_all
theorem Chg.putRow {S : Nat → Prop} {a w : World} (h : Chg S a w) {b : Nat} (hb : S b ∨ a.heap.size ≤ b) {cs : Array Value} : Chg S a (w.setRow b cs) :=
  ⟨h.os, h.tape, h.output, by rw [setRow_size]; exact h.size, fun k hk hn => by
    rw [setRow_other _ _ _ _ (by rintro rfl; rcases hb with hb | hb; exact hn hb; omega)]; exact h.block k hk hn⟩
/-- What slices.overlaps tells of two blocks. -/
theorem run_apart (w : World) (g1 o1 l1 c1 g2 o2 l2 c2 : Nat) (cs1 cs2 : List Value) (hne : g1 ≠ g2) (h1 : w.heap[g1]? = some (.cells cs1.toArray 33 (0, 0))) (h2 : w.heap[g2]? = some (.cells cs2.toArray 33 (0, 0))) (hp : 0 < cs2.length) :
    (callFunc 93 #[.slice (some ⟨g1, o1, none⟩) l1 c1, .slice (some ⟨g2, o2, none⟩) l2 c2]).run Try.prog w = .ok (.value (.bool false)) w := by
  rw [run_callFunc_extern Try.func93 (by kernel_rfl) (by kernel_rfl) (by kernel_rfl) (e := Extern.SlicesOverlaps.overlaps #[30, 30] #[4]) (by kernel_rfl),
    Lib.run_overlaps_apart w 30 4 33 undR 2 sizeR ⟨g1, o1, none⟩ ⟨g2, o2, none⟩ l1 c1 l2 c2 hne 33 33 cs1.length cs2.length (by simp [World.shape?, h1]) (by simp [World.shape?, h2]) (by omega) (frozen_blk h1) (frozen_blk h1)]
  rfl
end Go.Proofs.Ytlkbfacdaelbfaa
