/-
  SchedPlays where what it reads is of bulk at most 1048576: how the bound reaches the rows that are carried.
-/
import Derived.Test.YtiijnhgafadokaaRows
import Derived.Test.YtiijnhgafadokaaSchPlays
namespace Go.Proofs.Ytiijnhgafadokaa
open Go.RowKit Go.Deep
set_option linter.unusedVariables false

theorem bulk_one {H : Type} (d : DataW H) : 1 ≤ Rows.uptoBulk d := by
  cases d with
  | lit x => cases x <;> simp [Rows.uptoBulk]
  | nil => simp [Rows.uptoBulk]
  | ptr d => simp [Rows.uptoBulk]
  | slice a b => simp [Rows.uptoBulk]
  | agg a => simp [Rows.uptoBulk]
  | iface a b => simp [Rows.uptoBulk]
  | map a => simp [Rows.uptoBulk]
  | held a => simp [Rows.uptoBulk]
theorem bulk_mem {H : Type} {d : DataW H} : ∀ {l : List (DataW H)}, d ∈ l → Rows.uptoBulk d ≤ Rows.uptoBulkAll l
  | [], h => by cases h
  | x :: l, h => by
    rw [Rows.uptoBulkAll]
    rcases List.mem_cons.1 h with rfl | h
    · omega
    · have := bulk_mem h
      omega
theorem bulk_len {H : Type} : ∀ (l : List (DataW H)), l.length ≤ Rows.uptoBulkAll l
  | [] => by simp [Rows.uptoBulkAll]
  | x :: l => by
    rw [Rows.uptoBulkAll, List.length_cons]
    have := bulk_len l
    have := bulk_one x
    omega
theorem bulk_elems {H : Type} (a b : List (DataW H)) : Rows.uptoBulkAll a ≤ Rows.uptoBulk (.slice a b) := by
  rw [Rows.uptoBulk]; omega
theorem bulk_parts {H : Type} (a : List (DataW H)) : Rows.uptoBulkAll a ≤ Rows.uptoBulk (.agg a) := by
  rw [Rows.uptoBulk]; omega
/-- A slice of ranges in a cell, its length within its bulk. -/
theorem cell_ranges3 {H : Type} {enc : TypeId × Value → H} {w : World} {base : Nat} {spare : Nat → Bool} {held : Bool} {m : Nat} {cs : List Value} {y : DataW H × List MemPlace}
    (h : DataW.trod enc Try.prog w base spare held m 45 cs = some y) : ∃ v l, cs = [v] ∧ Rd w v 2 l.length (flat l) ∧ l.length ≤ 9223372036854775807 ∧ (∀ n c', v = .slice .none n c' → c' = 0) ∧ l.length ≤ Rows.uptoBulk y.1 := by
  rcases open_slice Try.underlying45 h with ⟨hcs, _⟩ | ⟨ad, len, cap, _, _, D, _, rfl, _, _, _, _, hy, _⟩
  · exact ⟨_, [], hcs, Rd.nil _ 2, by simp, (fun n c' e => by cases e; rfl), Nat.zero_le _⟩
  · have hb : len ≤ Rows.uptoBulk y.1 := by
      rw [hy]
      refine Nat.le_trans ?_ (bulk_elems _ _)
      have := bulk_len ((List.range len).map D)
      simpa using this
    obtain ⟨d, p⟩ := y
    obtain ⟨zs, l1, l2, l3, l4⟩ := open_rows rgI 2 Try.underlying45 (by kernel_rfl) (by decide) (fun m cs y hy => rg_read hy) (show DataW.Trod enc Try.prog w base spare held 45 (.slice (some ad) len cap) d p from ⟨m, h⟩)
    subst l1
    unfold maxLen at l3
    exact ⟨_, zs, rfl, rd_flat l2 l4, by omega, (fun n c' e => by cases e), hb⟩
structure Opz3 (W : World) (z : OpZ) : Prop where
  ok : Opz2 W z
  le : z.l.length ≤ 1048576
def opzR3 (W : World) (z : {z : OpZ // Opz3 W z}) : List Value := opzCells z.1
theorem opz_read3 {H : Type} {enc : TypeId × Value → H} {w : World} {base : Nat} {spare : Nat → Bool} {held : Bool} {m : Nat} {cs : List Value} {y : DataW H × List MemPlace}
    (h : DataW.trod enc Try.prog w base spare held m 71 cs = some y) (hk : Rows.uptoBulk y.1 ≤ 1048576) : ∃ z : {z : OpZ // Opz3 w z}, cs = opzR3 w z := by
  obtain ⟨f0, f1, f2, f3, f4, f5, f6, hu, ⟨e0, o0⟩, ⟨e1, o1⟩, ⟨e2, o2⟩, ⟨e3, o3⟩, ⟨e4, o4⟩, ⟨e5, o5⟩, ⟨e6, o6⟩⟩ := opzFields
  obtain ⟨xs, n, _, hy, hl, hx, hf⟩ := DataW.trod_struct hu h
  have hl7 : cs.length = 7 := hl.trans (by kernel_rfl)
  have hx7 : xs.length = 7 := hx
  have g0 := hf 0 f0 rfl
  have g1 := hf 1 f1 rfl
  have g2 := hf 2 f2 rfl
  have g3 := hf 3 f3 rfl
  have g4 := hf 4 f4 rfl
  have g5 := hf 5 f5 rfl
  have g6 := hf 6 f6 rfl
  have ci : Try.prog.cellsOf 3 = 1 := by kernel_rfl
  have c4 : Try.prog.cellsOf 45 = 1 := by kernel_rfl
  have c5 : Try.prog.cellsOf 34 = 1 := by kernel_rfl
  rw [e0, o0, ci, List.getElem?_eq_getElem (by omega : 0 < xs.length)] at g0
  rw [e1, o1, ci, List.getElem?_eq_getElem (by omega : 1 < xs.length)] at g1
  rw [e2, o2, ci, List.getElem?_eq_getElem (by omega : 2 < xs.length)] at g2
  rw [e3, o3, ci, List.getElem?_eq_getElem (by omega : 3 < xs.length)] at g3
  rw [e4, o4, c4, List.getElem?_eq_getElem (by omega : 4 < xs.length)] at g4
  rw [e5, o5, c5, List.getElem?_eq_getElem (by omega : 5 < xs.length)] at g5
  rw [e6, o6, c5, List.getElem?_eq_getElem (by omega : 6 < xs.length)] at g6
  obtain ⟨n0, h0, _, w0⟩ := DataW.trod_int Try.underlying3 g0
  obtain ⟨n1, h1, _, w1⟩ := DataW.trod_int Try.underlying3 g1
  obtain ⟨n2, h2, _, w2⟩ := DataW.trod_int Try.underlying3 g2
  obtain ⟨n3, h3, _, w3⟩ := DataW.trod_int Try.underlying3 g3
  obtain ⟨vl, l, h4, r4, q4, z4, b4⟩ := cell_ranges3 g4
  have hb4 : l.length ≤ 1048576 := by
    refine Nat.le_trans b4 (Nat.le_trans ?_ hk)
    rw [hy]
    exact Nat.le_trans (bulk_mem (List.mem_map_of_mem (List.getElem_mem (by omega)))) (bulk_parts _)
  obtain ⟨va, la, h5, r5, q5, i5⟩ := cell_numbers g5
  obtain ⟨vr, lr, h6, r6, q6, i6⟩ := cell_numbers g6
  refine ⟨⟨⟨n0, n1, n2, n3, vl, va, vr, l, la, lr⟩, ⟨⟨⟨bounds_i64 w0, bounds_i64 w1, bounds_i64 w2, bounds_i64 w3, r4, q4, r5, q5, i5, r6, q6⟩, z4⟩, hb4⟩⟩, ?_⟩
  show cs = [.int .i64 n0] ++ ([.int .i64 n1] ++ ([.int .i64 n2] ++ ([.int .i64 n3] ++ ([vl] ++ ([va] ++ [vr])))))
  have q := cut7 hl7
  rw [h0, h1, h2, h3, h4, h5, h6] at q
  exact q
theorem open_rows_b {H : Type} {enc : TypeId × Value → H} {P : Program} {w : World} {base : Nat} {spare : Nat → Bool} {held : Bool} {t e : TypeId} {α : Type} (R : α → List Value) (size : Nat) {a : Option Addr} {len cap : Nat} {d : DataW H} {p : List MemPlace} (ht : P.underlying t = some (.slice e)) (hc : P.cellsOf e = size) (hsz : 0 < size)
    (K : Nat) (hR : ∀ m cs y, Rows.uptoBulk y.1 ≤ K → DataW.trod enc P w base spare held m e cs = some y → ∃ z, cs = R z) (hK : Rows.uptoBulk d ≤ K)
    (h : DataW.Trod enc P w base spare held t (.slice a len cap) d p) :
    ∃ zs : List α, zs.length = len ∧ len ≤ cap ∧ cap ≤ maxLen ∧ (0 < len → ∃ g o, a = some ⟨g, o, none⟩ ∧ g < w.heap.size ∧ ∀ i z, zs[i]? = some z → ∀ j u, (R z)[j]? = some u → w.cell? ⟨g, o + (i * size + j), none⟩ = some u) := by
  obtain ⟨fuel, hf⟩ := h
  simp only [Value.cells] at hf
  rcases open_slice ht hf with ⟨hcs, _⟩ | ⟨ad, len', cap', m, n, D, Pl, hcs, hb, hl, hm, hmm, hxe, hx⟩
  · simp at hcs
    obtain ⟨rfl, rfl, rfl⟩ := hcs
    exact ⟨[], rfl, by simp, by simp, fun h => absurd h (by omega)⟩
  · simp at hcs
    obtain ⟨rfl, rfl, rfl⟩ := hcs
    have hle : len ≤ m := by rw [hmm]; split <;> omega
    have hD : ∀ i, i < len → Rows.uptoBulk (D i) ≤ K := fun i hi => by
      refine Nat.le_trans ?_ hK
      rw [show d = _ from congrArg Prod.fst hxe]
      exact Nat.le_trans (bulk_mem (List.mem_map_of_mem (List.mem_range.2 hi))) (bulk_elems _ _)
    have key : ∀ n', n' ≤ len → ∃ zs : List α, zs.length = n' ∧ ∀ i z, zs[i]? = some z → ∀ j u, (R z)[j]? = some u → w.cell? (ad.add (i * size + j)) = some u := by
      intro n'
      induction n' with
      | zero => intro _; exact ⟨[], rfl, by simp⟩
      | succ n' ih =>
        intro hn
        obtain ⟨zs, hzs, hz⟩ := ih (by omega)
        obtain ⟨cs', h1, h2⟩ := hx n' (by omega)
        obtain ⟨z, rfl⟩ := hR _ _ _ (hD _ (by omega)) h2
        refine ⟨zs ++ [z], by simp [hzs], fun i z' hi j u hj => ?_⟩
        by_cases hin : i < n'
        · rw [List.getElem?_append_left (by omega)] at hi
          exact hz i z' hi j u hj
        · have : i = n' := by
            have := (List.getElem?_eq_some_iff.1 hi).1
            simp [hzs] at this; omega
          subst this
          rw [List.getElem?_append_right (by omega), hzs, Nat.sub_self] at hi
          simp at hi
          subst hi
          obtain ⟨_, hlen, hcell⟩ := World.cells?_some h1
          rw [hc] at hcell hlen
          have hj' : j < size := by have := (List.getElem?_eq_some_iff.1 hj).1; omega
          rw [← add_add, hcell j hj', hj]
    obtain ⟨zs, hzs, hz⟩ := key len (Nat.le_refl _)
    refine ⟨zs, hzs, hl, hm, fun h0 => ?_⟩
    obtain ⟨z0, hz0⟩ : ∃ z, zs[0]? = some z := ⟨zs[0]'(by omega), List.getElem?_eq_getElem (by omega)⟩
    obtain ⟨cs', h1, h2⟩ := hx 0 (by omega)
    obtain ⟨z1, rfl⟩ := hR _ _ _ (hD _ (by omega)) h2
    obtain ⟨_, hlen, hcell⟩ := World.cells?_some h1
    have hu := hcell 0 (by rw [hc]; exact hsz)
    rw [Nat.zero_mul] at hu
    have hu' : w.cell? ad ≠ none := by
      have e : (ad.add 0).add 0 = ad := rfl
      rw [e] at hu
      rw [hu, List.getElem?_eq_getElem (by rw [hlen, hc]; exact hsz)]
      simp
    obtain ⟨g, o, rfl, hg⟩ := at_cell hu'
    refine ⟨g, o, rfl, hg, fun i z hi j u hj => ?_⟩
    rw [← add_mk]
    exact hz i z hi j u hj
theorem plays21_walk' (p : Int) (A : Option Addr) (cap : Nat) (w : World) (zs : List {z : OpZ // Opz3 w z}) (hlen : zs.length ≤ cap) (hcap : cap ≤ maxLen)
    (hz : 0 < zs.length → ∃ g o, A = some ⟨g, o, .none⟩ ∧ g < w.heap.size ∧ ∀ (i : Nat) z, zs[i]? = some z → ∀ (j : Nat) u, (opzR3 w z)[j]? = some u → w.cell? ⟨g, o + (i * 7 + j), .none⟩ = some u) :
    Calls Try.prog 14 #[.int .i64 p, .slice A zs.length cap] w (ShownSTo w) := by
  have := plays21_walk p A cap w (zs.map fun z => ⟨z.1, z.2.ok⟩) (by rw [List.length_map]; exact hlen) hcap (fun z hz => by
    obtain ⟨q, _, rfl⟩ := List.mem_map.1 hz
    exact Nat.le_trans q.2.le (by omega)) (fun h0 => by
    rw [List.length_map] at h0
    obtain ⟨g, o, h1, h2, h3⟩ := hz h0
    refine ⟨g, o, h1, h2, fun i z hi j u hj => ?_⟩
    rw [List.getElem?_map] at hi
    cases hq : zs[i]? with
    | none => rw [hq] at hi; cases hi
    | some q =>
      rw [hq] at hi
      cases hi
      exact h3 i q hq j u hj)
  rw [List.length_map] at this
  exact this
end Go.Proofs.Ytiijnhgafadokaa
