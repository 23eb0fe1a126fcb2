/-
  The laws of package aead: their arguments opened, what the listed package variables hold.
-/
import Derived.Test.YtebmbapaedlmiaaDoorRows
import Derived.Test.YtebmbapaedlmiaaDoorSAeBack
import Derived.Test.YtebmbapaedlmiaaDoorSOpen
import Derived.OpenShut
import Derived.ChangeShapes
import Derived.Lib.LaidTab
namespace Go.Proofs.YtebmbapaedlmiaaDoor
open Go.RowKit Go.Deep Go.WideShapes Ae
set_option linter.unusedVariables false

theorem bulk_one {H : Type} (d : DataW H) : 1 ≤ Rows.uptoBulk d := by
  cases d with
  | lit x => cases x <;> simp [Rows.uptoBulk]
  | nil => simp [Rows.uptoBulk]
  | ptr d => simp [Rows.uptoBulk]
  | slice a b => simp [Rows.uptoBulk]
  | agg a => simp [Rows.uptoBulk]
  | iface a b => simp [Rows.uptoBulk]
  | map a => simp [Rows.uptoBulk]
  | held a => simp [Rows.uptoBulk]
theorem bulk_mem {H : Type} {d : DataW H} : ∀ {l : List (DataW H)}, d ∈ l → Rows.uptoBulk d ≤ Rows.uptoBulkAll l
  | [], h => by cases h
  | x :: l, h => by
    rw [Rows.uptoBulkAll]
    rcases List.mem_cons.1 h with rfl | h
    · omega
    · have := bulk_mem h
      omega
theorem bulk_len {H : Type} : ∀ (l : List (DataW H)), l.length ≤ Rows.uptoBulkAll l
  | [] => by simp [Rows.uptoBulkAll]
  | x :: l => by
    rw [Rows.uptoBulkAll, List.length_cons]
    have := bulk_len l
    have := bulk_one x
    omega
theorem bulk_elems {H : Type} (a b : List (DataW H)) : Rows.uptoBulkAll a ≤ Rows.uptoBulk (.slice a b) := by
  rw [Rows.uptoBulk]; omega
theorem bulk_parts {H : Type} (a : List (DataW H)) : Rows.uptoBulkAll a ≤ Rows.uptoBulk (.agg a) := by
  rw [Rows.uptoBulk]; omega

def oneB (n : {n : Nat // n < 256}) : List Value := [.int .u8 ((n.1 : Nat) : Int)]
theorem oneB_read {H : Type} {enc : TypeId × Value → H} {w : World} {base : Nat} {spare : Nat → Bool} {held : Bool} {m : Nat} {cs : List Value} {y : DataW H × List MemPlace}
    (h : DataW.trod enc Tryd.prog w base spare held m 5 cs = some y) : ∃ z, cs = oneB z := by
  obtain ⟨n, h0, _, w0⟩ := DataW.trod_int undU8 h
  have := bounds_u8 w0
  exact ⟨⟨n.toNat, by omega⟩, by rw [h0]; show _ = [Value.int .u8 ((n.toNat : Nat) : Int)]; rw [Int.toNat_of_nonneg this.1]⟩
theorem byt_vals (zs : List {n : Nat // n < 256}) : Byt (zs.map (·.1)) := fun b hb => by
  obtain ⟨z, _, rfl⟩ := List.mem_map.1 hb
  exact z.2
/-- A slice of bytes in a cell. -/
theorem cell_bytes {H : Type} {enc : TypeId × Value → H} {w : World} {base : Nat} {spare : Nat → Bool} {held : Bool} {m : Nat} {cs : List Value} {y : DataW H × List MemPlace}
    (h : DataW.trod enc Tryd.prog w base spare held m 26 cs = some y) : ∃ v l, cs = [v] ∧ RdB w v l ∧ Byt l ∧ l.length ≤ Rows.uptoBulk y.1 := by
  rcases open_slice Tryd.underlying26 h with ⟨hcs, _⟩ | ⟨ad, len, cap, _, _, D, _, rfl, _, _, _, _, hy, _⟩
  · exact ⟨_, [], hcs, rd_none w none 0 [] rfl, (fun b hb => by cases hb), Nat.zero_le _⟩
  · have hb : len ≤ Rows.uptoBulk y.1 := by
      rw [hy]
      refine Nat.le_trans ?_ (bulk_elems _ _)
      have := bulk_len ((List.range len).map D)
      simpa using this
    obtain ⟨d, p⟩ := y
    obtain ⟨zs, l1, l2, l3, l4⟩ := open_rows oneB 1 Tryd.underlying26 (by kernel_rfl) (by decide) (fun m cs y hy => oneB_read hy) (show DataW.Trod enc Tryd.prog w base spare held 26 (.slice (some ad) len cap) d p from ⟨m, h⟩)
    refine ⟨_, zs.map (·.1), rfl, ⟨by rw [bl_len]; omega, some ad, cap, by rw [List.length_map, l1], by rw [List.length_map]; omega, fun h0 => ?_⟩, byt_vals zs, by rw [List.length_map, l1]; exact hb⟩
    rw [List.length_map, l1] at h0
    obtain ⟨g, o, e, hg, hc⟩ := l4 h0
    refine ⟨g, o, e, hg, fun j hj => ?_⟩
    rw [bl_len, List.length_map] at hj
    have := hc j zs[j] (List.getElem?_eq_getElem hj) 0 _ rfl
    rw [Nat.mul_one, Nat.add_zero] at this
    rw [this]
    exact (bl_get (by rw [List.getElem?_map, List.getElem?_eq_getElem hj]; rfl)).symm
/-- An array of bytes. -/
theorem cells_bytes {H : Type} {enc : TypeId × Value → H} {w : World} {base : Nat} {spare : Nat → Bool} {held : Bool} {m t n : Nat} {cs : List Value} {y : DataW H × List MemPlace} (ht : Tryd.prog.underlying t = some (.array n 5)) (hC : Tryd.prog.cellsOf t = n)
    (h : DataW.trod enc Tryd.prog w base spare held m t cs = some y) : ∃ l, cs = bl l ∧ l.length = n ∧ Byt l := by
  obtain ⟨l, h1, h2, h3⟩ := cells_ints ht undU8 (by kernel_rfl) hC h
  refine ⟨l.map Int.toNat, ?_, by rw [List.length_map]; exact h2, fun b hb => ?_⟩
  · rw [h1]
    unfold bl
    rw [List.map_map]
    refine List.map_congr_left fun z hz => ?_
    have := bounds_u8 (h3 z hz)
    show Value.int .u8 z = Value.int .u8 ((z.toNat : Nat) : Int)
    rw [Int.toNat_of_nonneg this.1]
  · obtain ⟨z, hz, rfl⟩ := List.mem_map.1 hb
    have := bounds_u8 (h3 z hz)
    omega
theorem boxFields : ∃ f0 f1 f2 : Field, Tryd.prog.underlying 28 = some (.struct #[f0, f1, f2]) ∧ (f0.type = 23 ∧ f0.offset = 0) ∧ (f1.type = 25 ∧ f1.offset = 32) ∧ (f2.type = 26 ∧ f2.offset = 44) :=
  ⟨_, _, _, Tryd.underlying28, ⟨rfl, rfl⟩, ⟨rfl, rfl⟩, ⟨rfl, rfl⟩⟩
theorem cut_box {cs : List Value} (h : cs.length = 45) : cs = (cs.drop 0).take 32 ++ (cs.drop 32).take 12 ++ (cs.drop 44).take 1 := by
  rw [List.drop_zero, List.append_assoc]
  have e1 : (cs.drop 44).take 1 = cs.drop 44 := List.take_of_length_le (by rw [List.length_drop]; omega)
  have e2 : (cs.drop 32).take 12 ++ cs.drop 44 = cs.drop 32 := by
    have := List.take_append_drop 12 (cs.drop 32)
    rw [List.drop_drop] at this
    exact this
  rw [e1, e2, List.take_append_drop]
/-- A box that came in. -/
theorem open_box {H : Type} {enc : TypeId × Value → H} {w : World} {base : Nat} {spare : Nat → Bool} {held : Bool} {r : Reach} {b0 K : Nat} {v : Value} {d : DataW H} {p : List MemPlace} (hv : Value.okWide Tryd.prog w r b0 28 v) (h : DataW.Trod enc Tryd.prog w base spare held 28 v d p) (hk : Rows.uptoBulk d ≤ K) :
    ∃ key nonce vb l, v = .agg (boxV key nonce vb) ∧ (key.length = 32 ∧ Byt key) ∧ (nonce.length = 12 ∧ Byt nonce) ∧ RdB w vb l ∧ Byt l ∧ l.length ≤ K := by
  obtain ⟨f0, f1, f2, hu, ⟨e0, o0⟩, ⟨e1, o1⟩, ⟨e2, o2⟩⟩ := boxFields
  obtain ⟨ca, rfl, hsz⟩ := okWide_struct hu hv
  obtain ⟨fuel, hf⟩ := h
  simp only [Value.cells] at hf
  obtain ⟨xs, n, _, hy, hl, hx, hff⟩ := DataW.trod_struct hu hf
  have hl45 : ca.toList.length = 45 := hl.trans (by kernel_rfl)
  have hx3 : xs.length = 3 := hx
  have g0 := hff 0 f0 rfl
  have g1 := hff 1 f1 rfl
  have g2 := hff 2 f2 rfl
  have c0 : Tryd.prog.cellsOf 23 = 32 := by kernel_rfl
  have c1 : Tryd.prog.cellsOf 25 = 12 := by kernel_rfl
  have c2 : Tryd.prog.cellsOf 26 = 1 := by kernel_rfl
  rw [e0, o0, c0, List.getElem?_eq_getElem (by omega : 0 < xs.length)] at g0
  rw [e1, o1, c1, List.getElem?_eq_getElem (by omega : 1 < xs.length)] at g1
  rw [e2, o2, c2, List.getElem?_eq_getElem (by omega : 2 < xs.length)] at g2
  obtain ⟨key, k1, k2, k3⟩ := cells_bytes Tryd.underlying23 c0 g0
  obtain ⟨nonce, n1, n2, n3⟩ := cells_bytes Tryd.underlying25 c1 g1
  obtain ⟨vb, l, b1, b2, b3, b4⟩ := cell_bytes g2
  refine ⟨key, nonce, vb, l, ?_, ⟨k2, k3⟩, ⟨n2, n3⟩, b2, b3, ?_⟩
  · have q := cut_box hl45
    rw [k1, n1, b1] at q
    unfold boxV
    rw [← q]
  · refine Nat.le_trans b4 (Nat.le_trans ?_ hk)
    rw [show d = _ from congrArg Prod.fst hy]
    exact Nat.le_trans (bulk_mem (List.mem_map_of_mem (List.getElem_mem (by omega)))) (bulk_parts _)
/-- A slice of bytes that came in. -/
theorem open_bytes {H : Type} {enc : TypeId × Value → H} {w : World} {base : Nat} {spare : Nat → Bool} {held : Bool} {r : Reach} {b0 K : Nat} {v : Value} {d : DataW H} {p : List MemPlace} (hv : Value.okWide Tryd.prog w r b0 26 v) (h : DataW.Trod enc Tryd.prog w base spare held 26 v d p) (hk : Rows.uptoBulk d ≤ K) :
    ∃ l, RdB w v l ∧ Byt l ∧ l.length ≤ K := by
  obtain ⟨s1, len1, cap1, rfl⟩ := okWide_slice Tryd.underlying26 hv
  obtain ⟨fuel, hf⟩ := h
  simp only [Value.cells] at hf
  obtain ⟨v, l, h1, h2, h3, h4⟩ := cell_bytes hf
  have e : v = .slice s1 len1 cap1 := by simpa using h1.symm
  exact ⟨l, by rw [← e]; exact h2, h3, Nat.le_trans h4 hk⟩
end Go.Proofs.YtebmbapaedlmiaaDoor
