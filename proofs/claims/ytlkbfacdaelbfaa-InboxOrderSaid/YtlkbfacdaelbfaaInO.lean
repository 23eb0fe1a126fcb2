/-
  Layer 19: rows of calls and bytes as arguments; kind.
-/
import Derived.Test.YtlkbfacdaelbfaaInH
import Derived.Test.YtlkbfacdaelbfaaOpen
namespace Go.Proofs.Ytlkbfacdaelbfaa
open Go.RowKit Go.Deep Ae
set_option linter.unusedVariables false
set_option linter.unusedSimpArgs false

def Kind19To (n : Nat) (w : World) (e : Ending) (w' : World) : Prop := ∃ k : Nat, k < n ∧ e = .returned (.int .i64 (k : Int)) ∧ w = w'
set_option maxHeartbeats 800000 in
theorem kind19_any (c : Int) (n : Nat) (w : World) (hc : -9223372036854775808 ≤ c ∧ c ≤ 9223372036854775807) (hn : 1 ≤ n) (hn2 : n ≤ 1000000) : Calls Try.prog 36 #[.int .i64 c, .int .i64 (n : Int)] w (Kind19To n w) := by
  have hK : ∃ k : Nat, k < n ∧ (c < 0 → -(c + 1).tmod n = (k : Int)) ∧ (0 ≤ c → c % n = (k : Int)) := by
    rcases (by omega : c < 0 ∨ 0 ≤ c) with h0 | h0
    · obtain ⟨y, hy⟩ : ∃ y : Nat, -(c + 1) = (y : Int) := ⟨(-(c + 1)).toNat, by omega⟩
      refine ⟨y % n, Nat.mod_lt _ (by omega), fun _ => ?_, fun _ => by omega⟩
      rw [show c + 1 = -(y : Int) by omega, Int.neg_tmod, Int.neg_neg]; rfl
    · obtain ⟨y, hy⟩ : ∃ y : Nat, c = (y : Int) := ⟨c.toNat, by omega⟩
      refine ⟨y % n, Nat.mod_lt _ (by omega), fun _ => by omega, fun _ => ?_⟩
      rw [hy]; rfl
  obtain ⟨k, hk, e1, e2⟩ := hK
  have hn0 : ¬ ((n : Int) = 0) := by omega
  have hnp : (0 : Int) < (n : Int) := by omega
  by_cases hneg : c < 0
  · have HE := Lib.hid (e1 hneg)
    clear e1 e2
    go_enter Try.func36, Try.ntmps36
    go_wp2_with fail
    go_ret
    exact ⟨k, hk, by rw [← HE.out]; rfl, rfl⟩
  · have HE := Lib.hid (e2 (by omega))
    clear e1 e2
    go_enter Try.func36, Try.ntmps36
    go_wp2_with fail
    go_ret
    exact ⟨k, hk, by rw [← HE.out]; rfl, rfl⟩
structure Op19 where
  kind : Int
  at_ : Int
  vb : Value
  l : List Nat
structure Op19Ok (W : World) (z : Op19) : Prop where
  k : -9223372036854775808 ≤ z.kind ∧ z.kind ≤ 9223372036854775807
  a : -9223372036854775808 ≤ z.at_ ∧ z.at_ ≤ 9223372036854775807
  rd : RdB W z.vb z.l
  byt : Byt z.l
  len : z.l.length ≤ 9223372036854775807
def op19R (W : World) (z : {z : Op19 // Op19Ok W z}) : List Value := [.int .i64 z.1.kind, .int .i64 z.1.at_, z.1.vb]
/-- A row of calls, as it lies. -/
structure Ops19 (w : World) (s : Option Addr) (cap : Nat) (l : List Op19) : Prop where
  fits : l.length ≤ cap
  small : cap ≤ maxLen
  ok : ∀ z ∈ l, Op19Ok w z
  cells : 0 < l.length → ∃ g o, s = some ⟨g, o, none⟩ ∧ g < w.heap.size ∧ ∀ i z, l[i]? = some z → w.cell? ⟨g, o + i * 3, none⟩ = some (.int .i64 z.kind) ∧ w.cell? ⟨g, o + i * 3 + 1, none⟩ = some (.int .i64 z.at_) ∧ w.cell? ⟨g, o + i * 3 + 2, none⟩ = some z.vb
def oneB (n : {n : Nat // n < 256}) : List Value := [.int .u8 ((n.1 : Nat) : Int)]
theorem oneB_read {H : Type} {enc : TypeId × Value → H} {w : World} {base : Nat} {spare : Nat → Bool} {held : Bool} {m : Nat} {cs : List Value} {y : DataW H × List MemPlace}
    (h : DataW.trod enc Try.prog w base spare held m 5 cs = some y) : ∃ z, cs = oneB z := by
  obtain ⟨n, h0, _, w0⟩ := DataW.trod_int undU8 h
  have := bounds_u8 w0
  exact ⟨⟨n.toNat, by omega⟩, by rw [h0]; show _ = [Value.int .u8 ((n.toNat : Nat) : Int)]; rw [Int.toNat_of_nonneg this.1]⟩
theorem byt_vals (zs : List {n : Nat // n < 256}) : Byt (zs.map (·.1)) := fun b hb => by
  obtain ⟨z, _, rfl⟩ := List.mem_map.1 hb
  exact z.2
/-- A row of bytes that came in is read. -/
theorem bytes_open {w : World} {s : Option Addr} {cap : Nat} {zs : List {n : Nat // n < 256}} (hcap : zs.length ≤ cap)
    (hc : 0 < zs.length → ∃ g o, s = some ⟨g, o, none⟩ ∧ g < w.heap.size ∧ ∀ (i : Nat) z, zs[i]? = some z → ∀ (j : Nat) u, (oneB z)[j]? = some u → w.cell? ⟨g, o + (i * 1 + j), none⟩ = some u) : RdB w (.slice s zs.length cap) (zs.map (·.1)) := by
  refine ⟨by rw [bl_len]; omega, s, cap, by rw [List.length_map], by rw [List.length_map]; exact hcap, fun h0 => ?_⟩
  rw [List.length_map] at h0
  obtain ⟨g, o, e, hg, hcell⟩ := hc h0
  refine ⟨g, o, e, hg, fun j hj => ?_⟩
  rw [bl_len, List.length_map] at hj
  have := hcell j zs[j] (List.getElem?_eq_getElem hj) 0 _ rfl
  rw [Nat.mul_one, Nat.add_zero] at this
  rw [this]
  exact (bl_get (by rw [List.getElem?_map, List.getElem?_eq_getElem hj]; rfl)).symm
/-- A slice of bytes in a cell. -/
theorem cell_bytes {H : Type} {enc : TypeId × Value → H} {w : World} {base : Nat} {spare : Nat → Bool} {held : Bool} {m : Nat} {cs : List Value} {y : DataW H × List MemPlace}
    (h : DataW.trod enc Try.prog w base spare held m 47 cs = some y) : ∃ v l, cs = [v] ∧ RdB w v l ∧ Byt l ∧ l.length ≤ 9223372036854775807 := by
  rcases open_slice Try.underlying47 h with ⟨hcs, _⟩ | ⟨ad, len, cap, _, _, D, _, rfl, _, _, _, _, hy, _⟩
  · exact ⟨_, [], hcs, RdB.none, (fun b hb => by cases hb), by simp⟩
  · obtain ⟨d, p⟩ := y
    obtain ⟨zs, l1, l2, l3, l4⟩ := open_rows oneB 1 Try.underlying47 (by kernel_rfl) (by decide) (fun m cs y hy => oneB_read hy) (show DataW.Trod enc Try.prog w base spare held 47 (.slice (some ad) len cap) d p from ⟨m, h⟩)
    subst l1
    unfold maxLen at l3
    exact ⟨_, zs.map (·.1), rfl, bytes_open l2 l4, byt_vals zs, by rw [List.length_map]; omega⟩
theorem op19Fields : ∃ f0 f1 f2 : Field, Try.prog.underlying 55 = some (.struct #[f0, f1, f2]) ∧ (f0.type = 3 ∧ f0.offset = 0) ∧ (f1.type = 3 ∧ f1.offset = 1) ∧ (f2.type = 47 ∧ f2.offset = 2) :=
  ⟨_, _, _, Try.underlying55, ⟨rfl, rfl⟩, ⟨rfl, rfl⟩, ⟨rfl, rfl⟩⟩
theorem op19_read {H : Type} {enc : TypeId × Value → H} {w : World} {base : Nat} {spare : Nat → Bool} {held : Bool} {m : Nat} {cs : List Value} {y : DataW H × List MemPlace}
    (h : DataW.trod enc Try.prog w base spare held m 55 cs = some y) : ∃ z : {z : Op19 // Op19Ok w z}, cs = op19R w z := by
  obtain ⟨f0, f1, f2, hu, ⟨e0, o0⟩, ⟨e1, o1⟩, ⟨e2, o2⟩⟩ := op19Fields
  obtain ⟨xs, n, _, _, hl, hx, hf⟩ := DataW.trod_struct hu h
  have hl3 : cs.length = 3 := hl.trans (by kernel_rfl)
  have hx3 : xs.length = 3 := hx
  have g0 := hf 0 f0 rfl
  have g1 := hf 1 f1 rfl
  have g2 := hf 2 f2 rfl
  have ci : Try.prog.cellsOf 3 = 1 := by kernel_rfl
  have c2 : Try.prog.cellsOf 47 = 1 := by kernel_rfl
  rw [e0, o0, ci, List.getElem?_eq_getElem (by omega : 0 < xs.length)] at g0
  rw [e1, o1, ci, List.getElem?_eq_getElem (by omega : 1 < xs.length)] at g1
  rw [e2, o2, c2, List.getElem?_eq_getElem (by omega : 2 < xs.length)] at g2
  obtain ⟨n0, h0, _, w0⟩ := DataW.trod_int Try.underlying3 g0
  obtain ⟨n1, h1, _, w1⟩ := DataW.trod_int Try.underlying3 g1
  obtain ⟨vb, l, h2, r2, b2, q2⟩ := cell_bytes g2
  refine ⟨⟨⟨n0, n1, vb, l⟩, ⟨bounds_i64 w0, bounds_i64 w1, r2, b2, q2⟩⟩, ?_⟩
  show cs = [.int .i64 n0] ++ ([.int .i64 n1] ++ [vb])
  have q := cut3cells hl3
  rw [h0, h1, h2] at q
  exact q
theorem ops19_open {w : World} {s : Option Addr} {cap : Nat} {zs : List {z : Op19 // Op19Ok w z}} (hle : zs.length ≤ cap) (hcap : cap ≤ maxLen)
    (hz : 0 < zs.length → ∃ g o, s = some ⟨g, o, none⟩ ∧ g < w.heap.size ∧ ∀ (i : Nat) z, zs[i]? = some z → ∀ j u, (op19R w z)[j]? = some u → w.cell? ⟨g, o + (i * 3 + j), none⟩ = some u) : Ops19 w s cap (zs.map (·.1)) := by
  refine ⟨by rw [List.length_map]; exact hle, hcap, fun z hz => ?_, fun h0 => ?_⟩
  · obtain ⟨y, _, rfl⟩ := List.mem_map.1 hz; exact y.2
  · rw [List.length_map] at h0
    obtain ⟨g, o, h1, h2, h3⟩ := hz h0
    refine ⟨g, o, h1, h2, fun i z hi => ?_⟩
    rw [List.getElem?_map] at hi
    obtain ⟨y, hy, rfl⟩ := Option.map_eq_some_iff.1 hi
    exact ⟨by have := h3 i y hy 0 _ rfl; exact this, by have := h3 i y hy 1 _ rfl; exact this, by have := h3 i y hy 2 _ rfl; exact this⟩
end Go.Proofs.Ytlkbfacdaelbfaa
