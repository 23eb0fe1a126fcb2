/-
  Layer 17: rows of calls and of numbers, as the statements' readers give them.
-/
import Derived.Test.YtlkbfacdaelbfaaRaP
import Derived.Test.YtlkbfacdaelbfaaOpen
namespace Go.Proofs.Ytlkbfacdaelbfaa
open Go.RowKit Go.Deep
set_option linter.unusedVariables false

def intR (z : Int) : List Value := [.int .i64 z]
theorem int_read {H : Type} {enc : TypeId × Value → H} {w : World} {base : Nat} {spare : Nat → Bool} {held : Bool} {m : Nat} {cs : List Value} {y : DataW H × List MemPlace}
    (h : DataW.trod enc Try.prog w base spare held m 3 cs = some y) : ∃ z, cs = intR z := by
  obtain ⟨n0, h0, _, w0⟩ := DataW.trod_int Try.underlying3 h
  exact ⟨n0, h0⟩
theorem op3Fields : ∃ f0 f1 f2 : Field, Try.prog.underlying 29 = some (.struct #[f0, f1, f2]) ∧ f0.type = 3 ∧ f0.offset = 0 ∧ f1.type = 3 ∧ f1.offset = 1 ∧ f2.type = 3 ∧ f2.offset = 2 :=
  ⟨_, _, _, Try.underlying29, rfl, rfl, rfl, rfl, rfl, rfl⟩
theorem cut3cells {cs : List Value} (h : cs.length = 3) : cs = (cs.drop 0).take 1 ++ ((cs.drop 1).take 1 ++ (cs.drop 2).take 1) := by
  match cs, h with
  | [a, b, c], _ => rfl
theorem op3_read {H : Type} {enc : TypeId × Value → H} {w : World} {base : Nat} {spare : Nat → Bool} {held : Bool} {m : Nat} {cs : List Value} {y : DataW H × List MemPlace}
    (h : DataW.trod enc Try.prog w base spare held m 29 cs = some y) : ∃ z, cs = op3R z := by
  obtain ⟨f0, f1, f2, hu, e0, o0, e1, o1, e2, o2⟩ := op3Fields
  obtain ⟨xs, n, _, _, hl, hx, hf⟩ := DataW.trod_struct hu h
  have hl3 : cs.length = 3 := hl.trans (by kernel_rfl)
  have hx3 : xs.length = 3 := hx
  have g0 := hf 0 f0 rfl
  have g1 := hf 1 f1 rfl
  have g2 := hf 2 f2 rfl
  have ci : Try.prog.cellsOf 3 = 1 := by kernel_rfl
  rw [e0, o0, ci, List.getElem?_eq_getElem (by omega : 0 < xs.length)] at g0
  rw [e1, o1, ci, List.getElem?_eq_getElem (by omega : 1 < xs.length)] at g1
  rw [e2, o2, ci, List.getElem?_eq_getElem (by omega : 2 < xs.length)] at g2
  obtain ⟨n0, h0, _, w0⟩ := DataW.trod_int Try.underlying3 g0
  obtain ⟨n1, h1, _, w1⟩ := DataW.trod_int Try.underlying3 g1
  obtain ⟨n2, h2, _, w2⟩ := DataW.trod_int Try.underlying3 g2
  refine ⟨⟨⟨n0, n1, n2⟩, ⟨bounds_i64 w0, bounds_i64 w1, bounds_i64 w2⟩⟩, ?_⟩
  have q := cut3cells hl3
  rw [h0, h1, h2] at q
  exact q
theorem ops_open {w : World} {s : Option Addr} {cap : Nat} {zs : List {z : Op3 // Op3Ok z}} (hle : zs.length ≤ cap) (hcap : cap ≤ maxLen)
    (hz : 0 < zs.length → ∃ g o, s = some ⟨g, o, none⟩ ∧ g < w.heap.size ∧ ∀ (i : Nat) z, zs[i]? = some z → ∀ j u, (op3R z)[j]? = some u → w.cell? ⟨g, o + (i * 3 + j), none⟩ = some u) : OpsAt w s cap (zs.map (·.1)) := by
  refine ⟨by rw [List.length_map]; exact hle, hcap, fun z hz => ?_, fun h0 => ?_⟩
  · obtain ⟨y, _, rfl⟩ := List.mem_map.1 hz; exact y.2
  · rw [List.length_map] at h0
    obtain ⟨g, o, h1, h2, h3⟩ := hz h0
    refine ⟨g, o, h1, h2, fun i z hi => ?_⟩
    rw [List.getElem?_map] at hi
    obtain ⟨y, hy, rfl⟩ := Option.map_eq_some_iff.1 hi
    exact ⟨by have := h3 i y hy 0 _ rfl; exact this, by have := h3 i y hy 1 _ rfl; exact this, by have := h3 i y hy 2 _ rfl; exact this⟩
theorem ints_open {w : World} {s : Option Addr} {cap : Nat} {zs : List Int} (hle : zs.length ≤ cap) (hcap : cap ≤ maxLen)
    (hz : 0 < zs.length → ∃ g o, s = some ⟨g, o, none⟩ ∧ g < w.heap.size ∧ ∀ (i : Nat) z, zs[i]? = some z → ∀ j u, (intR z)[j]? = some u → w.cell? ⟨g, o + (i * 1 + j), none⟩ = some u) : IntsAt w s cap zs := by
  refine ⟨hle, hcap, fun h0 => ?_⟩
  obtain ⟨g, o, h1, h2, h3⟩ := hz h0
  exact ⟨g, o, h1, h2, fun i z hi => by have := h3 i z hi 0 _ rfl; rwa [Nat.mul_one, Nat.add_zero] at this⟩
theorem rangesOrder_walk' (s s2 : Option Addr) (cap cap2 : Nat) (zs : List {z : Op3 // Op3Ok z}) (cuts : List Int) (w : World) (hle : zs.length ≤ cap) (hcap : cap ≤ maxLen)
    (hz : 0 < zs.length → ∃ g o, s = some ⟨g, o, none⟩ ∧ g < w.heap.size ∧ ∀ (i : Nat) z, zs[i]? = some z → ∀ j u, (op3R z)[j]? = some u → w.cell? ⟨g, o + (i * 3 + j), none⟩ = some u) (hle2 : cuts.length ≤ cap2) (hcap2 : cap2 ≤ maxLen)
    (hz2 : 0 < cuts.length → ∃ g o, s2 = some ⟨g, o, none⟩ ∧ g < w.heap.size ∧ ∀ (i : Nat) z, cuts[i]? = some z → ∀ j u, (intR z)[j]? = some u → w.cell? ⟨g, o + (i * 1 + j), none⟩ = some u) :
    Calls Try.prog 3 #[.slice s zs.length cap, .slice s2 cuts.length cap2] w (Gives w (.bool true)) := by
  have := rangesOrder_walk s s2 cap cap2 (zs.map (·.1)) cuts w (ops_open hle hcap hz) (ints_open hle2 hcap2 hz2)
  rw [List.length_map] at this
  exact this
end Go.Proofs.Ytlkbfacdaelbfaa
