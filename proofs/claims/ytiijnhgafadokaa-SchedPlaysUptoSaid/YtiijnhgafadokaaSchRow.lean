/-
  Rows of numbers as arguments (each in 64 bits); living rows of numbers.
-/
import Derived.Test.YtiijnhgafadokaaSchQ
import Derived.Test.YtiijnhgafadokaaOpen
namespace Go.Proofs.Ytiijnhgafadokaa
open Go.RowKit Go.Deep
set_option linter.unusedVariables false

def intI (z : {z : Int // InI z}) : List Value := [.int .i64 z.1]
theorem int_readI {H : Type} {enc : TypeId × Value → H} {w : World} {base : Nat} {spare : Nat → Bool} {held : Bool} {m : Nat} {cs : List Value} {y : DataW H × List MemPlace}
    (h : DataW.trod enc Try.prog w base spare held m 3 cs = some y) : ∃ z : {z : Int // InI z}, cs = intI z := by
  obtain ⟨n0, h0, _, w0⟩ := DataW.trod_int Try.underlying3 h
  exact ⟨⟨n0, bounds_i64 w0⟩, h0⟩
/-- What came in as a row of numbers reads as a list. -/
theorem rd_ints {w : World} {s : Option Addr} {cap : Nat} {zs : List {z : Int // InI z}} (hcap : zs.length ≤ cap)
    (hc : 0 < zs.length → ∃ g o, s = some ⟨g, o, none⟩ ∧ g < w.heap.size ∧ ∀ (i : Nat) z, zs[i]? = some z → ∀ (j : Nat) u, (intI z)[j]? = some u → w.cell? ⟨g, o + (i * 1 + j), none⟩ = some u) :
    Rd w (.slice s zs.length cap) 1 (zs.map (·.1)).length (ints (zs.map (·.1))) := by
  refine ⟨by simp [ints], s, cap, by simp, by simpa using hcap, fun h0 => ?_⟩
  obtain ⟨g, o, rfl, hg, hcell⟩ := hc (by simpa using h0)
  refine ⟨g, o, rfl, hg, fun j hj => ?_⟩
  have hj' : j < zs.length := by simpa [ints] using hj
  have := hcell j zs[j] (List.getElem?_eq_getElem hj') 0 _ rfl
  rw [Nat.mul_one, Nat.add_zero] at this
  rw [this]
  simp [ints, hj']
theorem ints_in (zs : List {z : Int // InI z}) : ∀ x ∈ zs.map (·.1), InI x := by
  intro x hx
  obtain ⟨z, _, rfl⟩ := List.mem_map.1 hx
  exact z.2
/-- One cell of a row of numbers. -/
theorem Rd.int {w : World} {v : Value} {l : List Int} (h : Rd w v 1 l.length (ints l)) {k : Nat} {x : Int} (hk : l[k]? = some x) :
    ∃ g o c, v = .slice (some ⟨g, o, .none⟩) l.length c ∧ g < w.heap.size ∧ w.cell? ⟨g, o + k, .none⟩ = some (.int .i64 x) := by
  obtain ⟨-, A, c, rfl, -, hA⟩ := h
  have hl := (List.getElem?_eq_some_iff.1 hk).1
  obtain ⟨g, o, rfl, hg, hcell⟩ := hA (by omega)
  refine ⟨g, o, c, rfl, hg, (hcell k (by simp [ints]; omega)).trans ?_⟩
  simp [ints, hk]
theorem infoInt' : (Try.prog.info? 3).map (fun i => (i.zero, i.size, i.bytes)) = some (some (.int .i64 0), 1, 8) := by kernel_rfl
theorem ints_len (l : List Int) : (ints l).length = l.length := by simp [ints]
theorem ints_app (l m : List Int) : ints (l ++ m) = ints l ++ ints m := by simp [ints]
/-- A row of numbers of one's own stays while the scheduler works. -/
theorem own_zone {w w' : World} {Z : Nat → Prop} {base n : Nat} {v : Value} {xs : List Value} (h : w.ownsRow base 3 1 v n xs) (hc : ChgZ Z w w') : w'.ownsRow base 3 1 v n xs :=
  own_chg h hc fun i hi hs => by
    obtain ⟨cur, hh⟩ := own_blk h hi
    exact cells_other hh (by decide) hs.2
/-! A block of another kind is changed: the scheduler stays. -/
def OtherT (t : TypeId) : Prop := t ≠ 96 ∧ t ≠ 101 ∧ t ≠ 104 ∧ t ≠ 49
theorem SchAt.other {Z : Nat → Prop} {w w' : World} {s m N : Nat} {F : Int → Option Nat} {V : Int → Value} {S : Sch} (h : SchAt Z w s m N F V S) {P : Nat → Prop} {T : TypeId} (hT : OtherT T) (hc : Chg P w w')
    (hP : ∀ i, i < w.heap.size → P i → ∃ cur, w.heap[i]? = some (.cells cur T (0,0))) : SchAt Z w' s m N F V S := by
  have ne : ∀ {i : Nat} {a : Array Value} {t : TypeId}, w.heap[i]? = some (.cells a t (0,0)) → t ≠ T → ¬ P i := fun {i a t} hi ht hp => by
    obtain ⟨cur, hh⟩ := hP i (lt_blk hi) hp
    rw [hi] at hh
    simp only [Option.some.injEq, Obj.cells.injEq] at hh
    exact ht hh.2.1
  have nm : ¬ P m := fun hp => by
    obtain ⟨cur, hh⟩ := hP m h.map.lt hp
    exact h.notMap hh rfl
  refine ⟨hc.keep h.blk (ne h.blk fun e => hT.1 e.symm), h.map.keep (hc.block m h.map.lt nm), fun k g hk => ?_, h.no, h.inj, h.rows, h.zs, h.zm, h.zg, h.zr, h.key⟩
  obtain ⟨f, hf, hF⟩ := h.fl k g hk
  refine ⟨f, hf, hc.keep hF.blk (ne hF.blk fun e => hT.2.1 e.symm), own_chg hF.row hc fun i hi => ?_, fun r hr => ?_, hF.len, hF.win0, hF.next0⟩
  · obtain ⟨cur, hh⟩ := own_blk hF.row hi
    exact ne hh fun e => hT.2.2.1 e.symm
  · have hR := hF.recs r hr
    refine ⟨own_chg hR.row hc fun i hi => ?_, hR.c0, hR.t0, hR.len⟩
    obtain ⟨cur, hh⟩ := own_blk hR.row hi
    exact ne hh fun e => hT.2.2.2 e.symm
theorem SchIs.other {Z : Nat → Prop} {w w' : World} {s N : Nat} {S : Sch} (h : SchIs Z w s N S) {P : Nat → Prop} {T : TypeId} (hT : OtherT T) (hc : Chg P w w')
    (hP : ∀ i, i < w.heap.size → P i → ∃ cur, w.heap[i]? = some (.cells cur T (0,0))) : SchIs Z w' s N S := by
  obtain ⟨m, F, V, h⟩ := h
  exact ⟨m, F, V, h.other hT hc hP⟩
theorem otherInt : OtherT 3 := by unfold OtherT; decide
/-- A row of another kind, of one's own, grew. -/
theorem Sv.grown {w0 : World} {s N : Nat} {S : Sch} {w wa w' : World} (h : Sv w0 s N S w) (ha : Chg Nowhere w wa) {base size n : Nat} {T : TypeId} {v : Value} {xs : List Value} (hT : OtherT T) (ho : w.ownsRow base T size v n xs) (hb : w0.heap.size ≤ base) (hg : wa.grownBy w' v.ownBlock) : Sv w0 s N S w' := by
  have hC : Chg (fun i => v.ownBlock = some i) w w' := Chg.grown (ha.mono fun _ _ e => e.elim) hg fun k hk => .inr hk
  refine ⟨h.is.other hT hC fun i _ hi => own_blk ho hi, h.chg.trans hC fun i hi e => ?_⟩
  have := (ho.lt i e).1
  omega
end Go.Proofs.Ytiijnhgafadokaa
