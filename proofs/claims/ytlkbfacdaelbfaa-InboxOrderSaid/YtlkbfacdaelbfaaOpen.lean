/-
  Arguments opened: arrays of numbers by value; slices of structs of numbers and arrays of numbers, as rows of cells.
-/
import Derived.Test.YtlkbfacdaelbfaaKit
import Derived.Deep.Slices
import Derived.WideShapes
namespace Go.Proofs.Ytlkbfacdaelbfaa
open Go.RowKit Go.Deep

section
variable {H : Type} {enc : TypeId × Value → H} {P : Program} {w : World} {base : Nat} {spare : Nat → Bool} {held : Bool} {fuel : Nat} {t e : TypeId} {x : DataW H × List MemPlace} {k : IntKind}

/-- The cells of an array of numbers. -/
theorem cells_ints {n : Nat} {cs : List Value} (ht : P.underlying t = some (.array n e)) (he : P.underlying e = some (.int k)) (hc : P.cellsOf e = 1) (hC : P.cellsOf t = n)
    (h : DataW.trod enc P w base spare held fuel t cs = some x) : ∃ l : List Int, cs = l.map (Value.int k) ∧ l.length = n ∧ ∀ y ∈ l, (Lit.int k y).wf = true := by
  obtain ⟨xs, m, _, _, hl, hx, hi⟩ := DataW.trod_array ht h
  rw [hC] at hl
  have key : ∀ (cs : List Value), (∀ i, i < cs.length → ∃ y, cs[i]? = some (.int k y) ∧ (Lit.int k y).wf = true) → ∃ l : List Int, cs = l.map (Value.int k) ∧ ∀ y ∈ l, (Lit.int k y).wf = true := by
    intro cs
    induction cs with
    | nil => intro _; exact ⟨[], rfl, by simp⟩
    | cons c cs ih =>
      intro h
      obtain ⟨y, hy, wy⟩ := h 0 (by simp)
      simp at hy
      obtain ⟨l, rfl, hl⟩ := ih (fun i hi => h (i + 1) (by simpa using hi))
      exact ⟨y :: l, by rw [hy]; rfl, by simpa using ⟨wy, hl⟩⟩
  obtain ⟨l, rfl, hw⟩ := key cs (fun i hi' => by
    have q := hi i (by omega)
    rw [hc, Nat.mul_one, List.getElem?_eq_getElem (by omega : i < xs.length)] at q
    obtain ⟨y, hy, _, wy⟩ := DataW.trod_int he q
    refine ⟨y, ?_, wy⟩
    have := congrArg (·[0]?) hy
    simpa using this)
  exact ⟨l, rfl, by simpa using hl, hw⟩

theorem okWide_arr {r : Reach} {b0 n : Nat} {v : Value} (ht : P.underlying t = some (.array n e)) (h : Value.okWide P w r b0 t v) : ∃ cs, v = .agg cs ∧ cs.size = P.cellsOf t := by
  simp only [Value.okWide, ht] at h
  obtain ⟨cs, h1, h2, _⟩ := h
  exact ⟨cs, h1, h2⟩

/-- An array of numbers that came in by value. -/
theorem open_intarr {r : Reach} {b0 n : Nat} {v : Value} {d : DataW H} {p : List MemPlace} (ht : P.underlying t = some (.array n e)) (he : P.underlying e = some (.int k)) (hc : P.cellsOf e = 1) (hC : P.cellsOf t = n)
    (hv : Value.okWide P w r b0 t v) (h : DataW.Trod enc P w base spare held t v d p) : ∃ l : List Int, v = .agg (l.map (Value.int k)).toArray ∧ l.length = n ∧ ∀ y ∈ l, (Lit.int k y).wf = true := by
  obtain ⟨cs, rfl, _⟩ := okWide_arr ht hv
  obtain ⟨fuel, hf⟩ := h
  obtain ⟨l, hl, h1, h2⟩ := cells_ints ht he hc hC hf
  refine ⟨l, ?_, h1, h2⟩
  simp only [Value.cells] at hl
  rw [← hl]

theorem add_add (a : Addr) (i j : Nat) : (a.add i).add j = a.add (i + j) := by
  unfold Addr.add
  by_cases hi : i = 0 <;> by_cases hj : j = 0 <;> simp [hi, hj, Nat.add_assoc]
theorem add_mk (g o n : Nat) : (⟨g, o, none⟩ : Addr).add n = ⟨g, o + n, none⟩ := by
  unfold Addr.add
  split
  · rename_i h; rw [h]; rfl
  · rfl
theorem at_cell {w : World} {ad : Addr} (h : w.cell? ad ≠ none) : ∃ g o, ad = ⟨g, o, none⟩ ∧ g < w.heap.size := by
  obtain ⟨g, o, s⟩ := ad
  unfold World.cell? at h
  cases hb : w.heap[g]? with
  | none => simp [hb] at h
  | some ob =>
    cases s with
    | none => exact ⟨g, o, rfl, lt_blk hb⟩
    | some s => cases ob <;> simp [hb] at h

/-- A slice whose elements' cells read as R tells (R: the record, its cells). -/
theorem open_rows {α : Type} (R : α → List Value) (size : Nat) {a : Option Addr} {len cap : Nat} {d : DataW H} {p : List MemPlace} (ht : P.underlying t = some (.slice e)) (hc : P.cellsOf e = size) (hsz : 0 < size)
    (hR : ∀ m cs y, DataW.trod enc P w base spare held m e cs = some y → ∃ z, cs = R z)
    (h : DataW.Trod enc P w base spare held t (.slice a len cap) d p) :
    ∃ zs : List α, zs.length = len ∧ len ≤ cap ∧ cap ≤ maxLen ∧ (0 < len → ∃ g o, a = some ⟨g, o, none⟩ ∧ g < w.heap.size ∧ ∀ i z, zs[i]? = some z → ∀ j u, (R z)[j]? = some u → w.cell? ⟨g, o + (i * size + j), none⟩ = some u) := by
  obtain ⟨fuel, hf⟩ := h
  simp only [Value.cells] at hf
  rcases open_slice ht hf with ⟨hcs, _⟩ | ⟨ad, len', cap', m, n, D, Pl, hcs, hb, hl, hm, hmm, _, hx⟩
  · simp at hcs
    obtain ⟨rfl, rfl, rfl⟩ := hcs
    exact ⟨[], rfl, by simp, by simp, fun h => absurd h (by omega)⟩
  · simp at hcs
    obtain ⟨rfl, rfl, rfl⟩ := hcs
    have hle : len ≤ m := by rw [hmm]; split <;> omega
    have key : ∀ n', n' ≤ len → ∃ zs : List α, zs.length = n' ∧ ∀ i z, zs[i]? = some z → ∀ j u, (R z)[j]? = some u → w.cell? (ad.add (i * size + j)) = some u := by
      intro n'
      induction n' with
      | zero => intro _; exact ⟨[], rfl, by simp⟩
      | succ n' ih =>
        intro hn
        obtain ⟨zs, hzs, hz⟩ := ih (by omega)
        obtain ⟨cs', h1, h2⟩ := hx n' (by omega)
        obtain ⟨z, rfl⟩ := hR _ _ _ h2
        refine ⟨zs ++ [z], by simp [hzs], fun i z' hi j u hj => ?_⟩
        by_cases hin : i < n'
        · rw [List.getElem?_append_left (by omega)] at hi
          exact hz i z' hi j u hj
        · have : i = n' := by
            have := (List.getElem?_eq_some_iff.1 hi).1
            simp [hzs] at this; omega
          subst this
          rw [List.getElem?_append_right (by omega), hzs, Nat.sub_self] at hi
          simp at hi
          subst hi
          obtain ⟨_, hlen, hcell⟩ := World.cells?_some h1
          rw [hc] at hcell hlen
          have hj' : j < size := by have := (List.getElem?_eq_some_iff.1 hj).1; omega
          rw [← add_add, hcell j hj', hj]
    obtain ⟨zs, hzs, hz⟩ := key len (Nat.le_refl _)
    refine ⟨zs, hzs, hl, hm, fun h0 => ?_⟩
    obtain ⟨z0, hz0⟩ : ∃ z, zs[0]? = some z := ⟨zs[0]'(by omega), List.getElem?_eq_getElem (by omega)⟩
    obtain ⟨cs', h1, h2⟩ := hx 0 (by omega)
    obtain ⟨z1, rfl⟩ := hR _ _ _ h2
    obtain ⟨_, hlen, hcell⟩ := World.cells?_some h1
    have hu := hcell 0 (by rw [hc]; exact hsz)
    rw [Nat.zero_mul] at hu
    have hu' : w.cell? ad ≠ none := by
      have e : (ad.add 0).add 0 = ad := rfl
      rw [e] at hu
      rw [hu, List.getElem?_eq_getElem (by rw [hlen, hc]; exact hsz)]
      simp
    obtain ⟨g, o, rfl, hg⟩ := at_cell hu'
    refine ⟨g, o, rfl, hg, fun i z hi j u hj => ?_⟩
    rw [← add_mk]
    exact hz i z hi j u hj
end
end Go.Proofs.Ytlkbfacdaelbfaa
