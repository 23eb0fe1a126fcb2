/-
  A row of scheduler calls as an argument: how its cells read.
-/
import Derived.Test.YtiijnhgafadokaaSchRow
namespace Go.Proofs.Ytiijnhgafadokaa
open Go.RowKit Go.Deep
set_option linter.unusedVariables false

structure OpZ where
  kind : Int
  id : Int
  n : Int
  m : Int
  vl : Value
  va : Value
  vr : Value
  l : List (Int × Int)
  live : List Int
  rtt : List Int
structure OpzOk (W : World) (z : OpZ) : Prop where
  k : InI z.kind
  id : InI z.id
  n : InI z.n
  m : InI z.m
  rl : Rd W z.vl 2 z.l.length (flat z.l)
  ll : z.l.length ≤ 9223372036854775807
  ra : Rd W z.va 1 z.live.length (ints z.live)
  la : z.live.length ≤ 9223372036854775807
  ia : ∀ x ∈ z.live, InI x
  rr : Rd W z.vr 1 z.rtt.length (ints z.rtt)
  lr : z.rtt.length ≤ 9223372036854775807
def opzCells (z : OpZ) : List Value := [.int .i64 z.kind, .int .i64 z.id, .int .i64 z.n, .int .i64 z.m, z.vl, z.va, z.vr]
def opzR (W : World) (z : {z : OpZ // OpzOk W z}) : List Value := opzCells z.1

def rgI (z : Int × Int) : List Value := [.int .i64 z.1, .int .i64 z.2]
theorem rgFields : ∃ f0 f1 : Field, Try.prog.underlying 49 = some (.struct #[f0, f1]) ∧ f0.type = 3 ∧ f0.offset = 0 ∧ f1.type = 3 ∧ f1.offset = 1 :=
  ⟨_, _, Try.underlying49, rfl, rfl, rfl, rfl⟩
theorem cut2 {cs : List Value} (h : cs.length = 2) : cs = (cs.drop 0).take 1 ++ (cs.drop 1).take 1 := by
  match cs, h with
  | [a, b], _ => rfl
theorem cut7 {cs : List Value} (h : cs.length = 7) : cs = (cs.drop 0).take 1 ++ ((cs.drop 1).take 1 ++ ((cs.drop 2).take 1 ++ ((cs.drop 3).take 1 ++ ((cs.drop 4).take 1 ++ ((cs.drop 5).take 1 ++ (cs.drop 6).take 1))))) := by
  match cs, h with
  | [a, b, c, d, e, f, g], _ => rfl
theorem rg_read {H : Type} {enc : TypeId × Value → H} {w : World} {base : Nat} {spare : Nat → Bool} {held : Bool} {m : Nat} {cs : List Value} {y : DataW H × List MemPlace}
    (h : DataW.trod enc Try.prog w base spare held m 49 cs = some y) : ∃ z, cs = rgI z := by
  obtain ⟨f0, f1, hu, e0, o0, e1, o1⟩ := rgFields
  obtain ⟨xs, n, _, _, hl, hx, hf⟩ := DataW.trod_struct hu h
  have hl2 : cs.length = 2 := hl.trans (by kernel_rfl)
  have hx2 : xs.length = 2 := hx
  have g0 := hf 0 f0 rfl
  have g1 := hf 1 f1 rfl
  have ci : Try.prog.cellsOf 3 = 1 := by kernel_rfl
  rw [e0, o0, ci, List.getElem?_eq_getElem (by omega : 0 < xs.length)] at g0
  rw [e1, o1, ci, List.getElem?_eq_getElem (by omega : 1 < xs.length)] at g1
  obtain ⟨n0, h0, _, w0⟩ := DataW.trod_int Try.underlying3 g0
  obtain ⟨n1, h1, _, w1⟩ := DataW.trod_int Try.underlying3 g1
  refine ⟨(n0, n1), ?_⟩
  show cs = [.int .i64 n0] ++ [.int .i64 n1]
  have q := cut2 hl2
  rw [h0, h1] at q
  exact q
theorem rgI_flat (l : List (Int × Int)) : l.flatMap rgI = flat l := rfl
/-- What came in as a row of ranges reads as a list. -/
theorem rd_flat {w : World} {s : Option Addr} {cap : Nat} {zs : List (Int × Int)} (hcap : zs.length ≤ cap)
    (hc : 0 < zs.length → ∃ g o, s = some ⟨g, o, none⟩ ∧ g < w.heap.size ∧ ∀ (i : Nat) z, zs[i]? = some z → ∀ (j : Nat) u, (rgI z)[j]? = some u → w.cell? ⟨g, o + (i * 2 + j), none⟩ = some u) :
    Rd w (.slice s zs.length cap) 2 zs.length (flat zs) := by
  have hfl := flat_len zs
  refine ⟨by omega, s, cap, rfl, hcap, fun h0 => ?_⟩
  obtain ⟨g, o, rfl, hg, hcell⟩ := hc h0
  refine ⟨g, o, rfl, hg, fun j hj => ?_⟩
  obtain ⟨i, hi⟩ : ∃ i, i = j / 2 := ⟨_, rfl⟩
  have hil : i < zs.length := by omega
  have hz : zs[i]? = some zs[i] := List.getElem?_eq_getElem hil
  have h2 := flat_get zs i _ hz
  rcases (by omega : j = i * 2 ∨ j = i * 2 + 1) with e | e
  · have := hcell i _ hz 0 _ rfl
    rw [e, h2.1]
    exact this
  · have := hcell i _ hz 1 _ rfl
    rw [e, h2.2]
    exact this
/-- A slice of ranges in a cell. -/
theorem cell_ranges {H : Type} {enc : TypeId × Value → H} {w : World} {base : Nat} {spare : Nat → Bool} {held : Bool} {m : Nat} {cs : List Value} {y : DataW H × List MemPlace}
    (h : DataW.trod enc Try.prog w base spare held m 45 cs = some y) : ∃ v l, cs = [v] ∧ Rd w v 2 l.length (flat l) ∧ l.length ≤ 9223372036854775807 := by
  rcases open_slice Try.underlying45 h with ⟨hcs, _⟩ | ⟨ad, len, cap, _, _, _, _, rfl, _⟩
  · exact ⟨_, [], hcs, Rd.nil _ 2, by simp⟩
  · obtain ⟨d, p⟩ := y
    obtain ⟨zs, l1, l2, l3, l4⟩ := open_rows rgI 2 Try.underlying45 (by kernel_rfl) (by decide) (fun m cs y hy => rg_read hy) (show DataW.Trod enc Try.prog w base spare held 45 (.slice (some ad) len cap) d p from ⟨m, h⟩)
    subst l1
    unfold maxLen at l3
    exact ⟨_, zs, rfl, rd_flat l2 l4, by omega⟩
/-- A slice of numbers in a cell. -/
theorem cell_numbers {H : Type} {enc : TypeId × Value → H} {w : World} {base : Nat} {spare : Nat → Bool} {held : Bool} {m : Nat} {cs : List Value} {y : DataW H × List MemPlace}
    (h : DataW.trod enc Try.prog w base spare held m 34 cs = some y) : ∃ v l, cs = [v] ∧ Rd w v 1 l.length (ints l) ∧ l.length ≤ 9223372036854775807 ∧ ∀ x ∈ l, InI x := by
  rcases open_slice Try.underlying34 h with ⟨hcs, _⟩ | ⟨ad, len, cap, _, _, _, _, rfl, _⟩
  · exact ⟨_, [], hcs, Rd.nil _ 1, by simp, by simp⟩
  · obtain ⟨d, p⟩ := y
    obtain ⟨zs, l1, l2, l3, l4⟩ := open_rows intI 1 Try.underlying34 (by kernel_rfl) (by decide) (fun m cs y hy => int_readI hy) (show DataW.Trod enc Try.prog w base spare held 34 (.slice (some ad) len cap) d p from ⟨m, h⟩)
    subst l1
    unfold maxLen at l3
    exact ⟨_, zs.map (·.1), rfl, rd_ints l2 l4, by rw [List.length_map]; omega, ints_in zs⟩
theorem opzFields : ∃ f0 f1 f2 f3 f4 f5 f6 : Field, Try.prog.underlying 71 = some (.struct #[f0, f1, f2, f3, f4, f5, f6]) ∧ (f0.type = 3 ∧ f0.offset = 0) ∧ (f1.type = 3 ∧ f1.offset = 1) ∧ (f2.type = 3 ∧ f2.offset = 2) ∧ (f3.type = 3 ∧ f3.offset = 3) ∧
    (f4.type = 45 ∧ f4.offset = 4) ∧ (f5.type = 34 ∧ f5.offset = 5) ∧ (f6.type = 34 ∧ f6.offset = 6) :=
  ⟨_, _, _, _, _, _, _, Try.underlying71, ⟨rfl, rfl⟩, ⟨rfl, rfl⟩, ⟨rfl, rfl⟩, ⟨rfl, rfl⟩, ⟨rfl, rfl⟩, ⟨rfl, rfl⟩, ⟨rfl, rfl⟩⟩
theorem opz_read {H : Type} {enc : TypeId × Value → H} {w : World} {base : Nat} {spare : Nat → Bool} {held : Bool} {m : Nat} {cs : List Value} {y : DataW H × List MemPlace}
    (h : DataW.trod enc Try.prog w base spare held m 71 cs = some y) : ∃ z : {z : OpZ // OpzOk w z}, cs = opzR w z := by
  obtain ⟨f0, f1, f2, f3, f4, f5, f6, hu, ⟨e0, o0⟩, ⟨e1, o1⟩, ⟨e2, o2⟩, ⟨e3, o3⟩, ⟨e4, o4⟩, ⟨e5, o5⟩, ⟨e6, o6⟩⟩ := opzFields
  obtain ⟨xs, n, _, _, hl, hx, hf⟩ := DataW.trod_struct hu h
  have hl7 : cs.length = 7 := hl.trans (by kernel_rfl)
  have hx7 : xs.length = 7 := hx
  have g0 := hf 0 f0 rfl
  have g1 := hf 1 f1 rfl
  have g2 := hf 2 f2 rfl
  have g3 := hf 3 f3 rfl
  have g4 := hf 4 f4 rfl
  have g5 := hf 5 f5 rfl
  have g6 := hf 6 f6 rfl
  have ci : Try.prog.cellsOf 3 = 1 := by kernel_rfl
  have c4 : Try.prog.cellsOf 45 = 1 := by kernel_rfl
  have c5 : Try.prog.cellsOf 34 = 1 := by kernel_rfl
  rw [e0, o0, ci, List.getElem?_eq_getElem (by omega : 0 < xs.length)] at g0
  rw [e1, o1, ci, List.getElem?_eq_getElem (by omega : 1 < xs.length)] at g1
  rw [e2, o2, ci, List.getElem?_eq_getElem (by omega : 2 < xs.length)] at g2
  rw [e3, o3, ci, List.getElem?_eq_getElem (by omega : 3 < xs.length)] at g3
  rw [e4, o4, c4, List.getElem?_eq_getElem (by omega : 4 < xs.length)] at g4
  rw [e5, o5, c5, List.getElem?_eq_getElem (by omega : 5 < xs.length)] at g5
  rw [e6, o6, c5, List.getElem?_eq_getElem (by omega : 6 < xs.length)] at g6
  obtain ⟨n0, h0, _, w0⟩ := DataW.trod_int Try.underlying3 g0
  obtain ⟨n1, h1, _, w1⟩ := DataW.trod_int Try.underlying3 g1
  obtain ⟨n2, h2, _, w2⟩ := DataW.trod_int Try.underlying3 g2
  obtain ⟨n3, h3, _, w3⟩ := DataW.trod_int Try.underlying3 g3
  obtain ⟨vl, l, h4, r4, q4⟩ := cell_ranges g4
  obtain ⟨va, la, h5, r5, q5, i5⟩ := cell_numbers g5
  obtain ⟨vr, lr, h6, r6, q6, i6⟩ := cell_numbers g6
  refine ⟨⟨⟨n0, n1, n2, n3, vl, va, vr, l, la, lr⟩, ⟨bounds_i64 w0, bounds_i64 w1, bounds_i64 w2, bounds_i64 w3, r4, q4, r5, q5, i5, r6, q6⟩⟩, ?_⟩
  show cs = [.int .i64 n0] ++ ([.int .i64 n1] ++ ([.int .i64 n2] ++ ([.int .i64 n3] ++ ([vl] ++ ([va] ++ [vr])))))
  have q := cut7 hl7
  rw [h0, h1, h2, h3, h4, h5, h6] at q
  exact q
end Go.Proofs.Ytiijnhgafadokaa
