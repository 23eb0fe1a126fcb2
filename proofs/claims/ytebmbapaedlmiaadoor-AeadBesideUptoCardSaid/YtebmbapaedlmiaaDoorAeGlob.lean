/-
  The laws of package aead: the package variables out of what the rows list.
-/
import Derived.Test.YtebmbapaedlmiaaDoorAeOpen
namespace Go.Proofs.YtebmbapaedlmiaaDoor
open Go.RowKit Go.Deep Ae
set_option linter.unusedVariables false

def Laid3 : List (String × DataW Unit) := [("sheave/chacha.head", Rows.laid_sheave_chacha_head), ("sheave/chacha.round", Rows.laid_sheave_chacha_round), ("sheave/clamp.prime", Rows.laid_sheave_clamp_prime)]
theorem gHead : Tryd.prog.globalNamed "sheave/chacha.head" = some 0 := by kernel_rfl
theorem gRound : Tryd.prog.globalNamed "sheave/chacha.round" = some 1 := by kernel_rfl
theorem gPrime : Tryd.prog.globalNamed "sheave/clamp.prime" = some 2 := by kernel_rfl
theorem tHead : ∃ t, (Tryd.prog.globals[0]?).map (·.type) = some t ∧ (∃ e, Tryd.prog.underlying t = some (.array 4 e) ∧ Tryd.prog.underlying e = some (.int .u32) ∧ Tryd.prog.cellsOf e = 1) ∧ Tryd.prog.cellsOf t = 4 :=
  ⟨_, rfl, ⟨_, (by kernel_rfl : Tryd.prog.underlying _ = some (.array 4 39)), by kernel_rfl, by kernel_rfl⟩, by kernel_rfl⟩
theorem tPrime : ∃ t, (Tryd.prog.globals[2]?).map (·.type) = some t ∧ (∃ e, Tryd.prog.underlying t = some (.array 3 e) ∧ Tryd.prog.underlying e = some (.int .u64) ∧ Tryd.prog.cellsOf e = 1) ∧ Tryd.prog.cellsOf t = 3 :=
  ⟨_, rfl, ⟨_, (by kernel_rfl : Tryd.prog.underlying _ = some (.array 3 65)), by kernel_rfl, by kernel_rfl⟩, by kernel_rfl⟩
theorem tRound : ∃ t, (Tryd.prog.globals[1]?).map (·.type) = some t ∧ (∃ e, Tryd.prog.underlying t = some (.array 8 e) ∧ Tryd.prog.cellsOf e = 4 ∧ (∃ f, Tryd.prog.underlying e = some (.array 4 f) ∧ Tryd.prog.underlying f = some (.int .i64) ∧ Tryd.prog.cellsOf f = 1)) ∧ Tryd.prog.cellsOf t = 32 :=
  ⟨_, rfl, ⟨_, rfl, by kernel_rfl, ⟨_, rfl, by kernel_rfl, by kernel_rfl⟩⟩, by kernel_rfl⟩
theorem head_data : (Rows.laid_sheave_chacha_head : DataW Unit) = Lib.tabData .u32 (headW.map fun (n : Nat) => (n : Int)) := rfl
theorem prime_data : (Rows.laid_sheave_clamp_prime : DataW Unit) = Lib.tabData .u64 [18446744073709551611, 18446744073709551615, 3] := rfl
theorem round_data : (Rows.laid_sheave_chacha_round : DataW Unit) = .agg (roundP.map fun r => Lib.tabData .i64 (r.map fun (n : Nat) => (n : Int))) := rfl
theorem round_at : ∀ j, j < 32 → (roundP.flatten)[j]? = (roundP.getD (j / 4) [])[j % 4]? := by decide
theorem glob_laid {W : World} (h : laidMetH Tryd.prog Laid3 W) : Glob W := by
  have h' : laidMet Tryd.prog Laid3 W := h
  obtain ⟨ps, ⟨g0, t0, cs0, f0, p0, q0, hg0, ht0, hv0, hd0, hr0, -⟩, -⟩ := h'
  obtain ⟨g1, t1, cs1, f1, p1, q1, hg1, ht1, hv1, hd1, hr1, -⟩ := hr0
  obtain ⟨g2, t2, cs2, f2, p2, q2, hg2, ht2, hv2, hd2, -, -⟩ := hr1
  obtain rfl := Option.some.inj (gHead.symm.trans hg0)
  obtain rfl := Option.some.inj (gRound.symm.trans hg1)
  obtain rfl := Option.some.inj (gPrime.symm.trans hg2)
  obtain ⟨_, a1, ⟨e0, a2, a3, a4⟩, a5⟩ := tHead
  obtain rfl := Option.some.inj (a1.symm.trans ht0)
  obtain ⟨_, b1, ⟨e1, b2, b3, ⟨e3, b4, b5, b6⟩⟩, b7⟩ := tRound
  obtain rfl := Option.some.inj (b1.symm.trans ht1)
  obtain ⟨_, c1, ⟨e2, c2, c3, c4⟩, c5⟩ := tPrime
  obtain rfl := Option.some.inj (c1.symm.trans ht2)
  rw [head_data] at hd0
  rw [round_data] at hd1
  rw [prime_data] at hd2
  have k0 := Lib.cells_of_tab a2 a3 a4 a5 hd0
  have k2 := Lib.cells_of_tab c2 c3 c4 c5 hd2
  have v0 := fun i => World.var?_cell gHead hv0 i
  have v1 := fun i => World.var?_cell gRound hv1 i
  have v2 := fun i => World.var?_cell gPrime hv2 i
  have hs0 : 0 < W.heap.size := by
    obtain ⟨g, o, e, h⟩ := at_cell (w := W) (ad := ⟨0, 0, none⟩) (by rw [v0, ← Array.getElem?_toList, k0]; simp [headW])
    cases e; exact h
  have hs2 : 2 < W.heap.size := by
    obtain ⟨g, o, e, h⟩ := at_cell (w := W) (ad := ⟨2, 0, none⟩) (by rw [v2, ← Array.getElem?_toList, k2]; simp)
    cases e; exact h
  refine ⟨?_, ?_, ?_, ?_⟩
  · omega
  · intro j v hj
    rw [v0, ← Array.getElem?_toList, k0]
    simpa [ws, List.map_map] using hj
  · intro j v hj
    have hj32 : j < 32 := by
      have := (List.getElem?_eq_some_iff.1 hj).1
      simpa [roundP] using this
    obtain ⟨xs, m, _, hx, hl, hxl, hi⟩ := DataW.trod_array b2 hd1
    have hxe : xs.map (·.1) = roundP.map fun r => (Lib.tabData .i64 (r.map fun (n : Nat) => (n : Int)) : DataW Unit) := by
      have := congrArg Prod.fst hx
      simpa using this.symm
    have q := hi (j / 4) (by omega)
    rw [b3, List.getElem?_eq_getElem (by omega : j / 4 < xs.length)] at q
    have hrow : (xs[j / 4]'(by omega)).1 = Lib.tabData .i64 ((roundP.getD (j / 4) []).map fun (n : Nat) => (n : Int)) := by
      have e := congrArg (·[j / 4]?) hxe
      have h8 : j / 4 < roundP.length := by show j / 4 < 8; omega
      simp only [List.getElem?_map, List.getElem?_eq_getElem (by omega : j / 4 < xs.length), List.getElem?_eq_getElem h8, Option.map_some, Option.some.injEq] at e
      rw [e, List.getD_eq_getElem?_getD, List.getElem?_eq_getElem h8]
      rfl
    have q2 : DataW.trod (fun _ => ()) Tryd.prog W 0 (fun _ => true) false m e1 ((cs1.toList.drop (j / 4 * 4)).take 4) = some (Lib.tabData .i64 ((roundP.getD (j / 4) []).map fun (n : Nat) => (n : Int)), (xs[j / 4]'(by omega)).2) := by
      rw [q, ← hrow]
    have k := Lib.cells_of_tab b4 b5 b6 b3 q2
    have e := congrArg (·[j % 4]?) k
    simp only [List.getElem?_take_of_lt (show j % 4 < 4 by omega), List.getElem?_drop] at e
    rw [v1, ← Array.getElem?_toList]
    rw [show j / 4 * 4 + j % 4 = j by omega] at e
    rw [e]
    rw [List.getElem?_map, round_at j hj32] at hj
    rw [List.getElem?_map, List.getElem?_map, ← hj]
    cases (roundP.getD (j / 4) [])[j % 4]? <;> rfl
  · intro j v hj
    rw [v2, ← Array.getElem?_toList, k2]
    exact hj
end Go.Proofs.YtebmbapaedlmiaaDoor
