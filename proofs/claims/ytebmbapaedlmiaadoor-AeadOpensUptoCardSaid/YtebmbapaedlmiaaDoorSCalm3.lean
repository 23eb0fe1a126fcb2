/-
  More steps for a region that draws its order: make, extract; bytes read as a string.
-/
import Derived.Test.YtebmbapaedlmiaaDoorSAeZ2
import Derived.Laws.BytesArg
import Derived.Great.BuildSlice
import Derived.Lib.SlBytesConst
namespace Go.Proofs.YtebmbapaedlmiaaDoor
open Go.RowKit Ae
set_option linter.unusedVariables false

theorem wp_make_slice {P : Program} {o : Oper} {a : Act} {w w2 : World} {t : TypeId} {x y : Operand} {vx vy v : Value} {K : Act → World → Prop} {Q : Exit → Act → World → Prop} (ho : o.op = .makeSlice t x y) (hx : a.eval x = vx) (hy : a.eval y = vy)
    (hrun : (Instr.makeSlice t vx vy).run P w = .ok v w2) (h : K (a.put o.dst v) w2) : o.wp P a w K Q := by
  refine wp_run ?_ h
  unfold execOp
  simp only [ho, hx, hy]
  simp [hrun]
theorem wp_extract_at {P : Program} {o : Oper} {a : Act} {w : World} {x : Operand} {i : Nat} {vs : Array Value} {v : Value} {K : Act → World → Prop} {Q : Exit → Act → World → Prop} (ho : o.op = .extract x i) (hx : a.eval x = .tuple vs)
    (hi : vs[i]? = some v) (h : K (a.put o.dst v) w) : o.wp P a w K Q := by
  refine wp_run ?_ h
  unfold execOp
  simp only [ho, hx]
  simp [Instr.extract, hi]
theorem wp_assign {P : Program} {o : Oper} {a : Act} {w : World} {x : Operand} {v : Value} {K : Act → World → Prop} {Q : Exit → Act → World → Prop} (ho : o.op = .assign x) (hx : a.eval x = v) (h : K (a.put o.dst v) w) : o.wp P a w K Q := by
  refine wp_run ?_ h
  unfold execOp
  simp only [ho, hx]
  simp
/-- Bytes as a string. -/
def sb (l : List Nat) : ByteArray := strOfNums (l.map fun (n : Nat) => (n : Int))
theorem sb_eq {l m : List Nat} (hl : Byt l) (hm : Byt m) (h : sb l = sb m) : l = m := by
  have e := congrArg (fun (b : ByteArray) => b.data.toList) h
  simp only [sb, strOfNums_data, List.map_map] at e
  have inj : ∀ {l : List Nat}, Byt l → (l.map ((fun (n : Int) => UInt8.ofNat n.toNat) ∘ fun (n : Nat) => (n : Int))).map UInt8.toNat = l := by
    intro l hl
    rw [List.map_map]
    conv => rhs; rw [← List.map_id l]
    refine List.map_congr_left fun b hb => ?_
    have := hl b hb
    simp
    omega
  rw [← inj hl, ← inj hm, e]
theorem sb_iff {l m : List Nat} (hl : Byt l) (hm : Byt m) : sb l = sb m ↔ l = m := ⟨sb_eq hl hm, fun h => by rw [h]⟩
theorem undU8 : Tryd.prog.underlying 5 = some (.int .u8) := Tryd.underlying5
/-- What is read, as a string. -/
theorem conv_rd {w : World} {v : Value} {l : List Nat} (h : RdB w v l) : (convert 26 9 v).run Tryd.prog w = .ok (.string (sb l)) w := by
  obtain ⟨hl, A, c, rfl, hc, hA⟩ := h
  cases A with
  | none =>
    have h0 : l = [] := by
      cases l with
      | nil => rfl
      | cons r l => obtain ⟨g, o, e, _⟩ := hA (by simp); cases e
    subst h0
    exact run_convert_bytes_nil w 26 5 Tryd.underlying26 undU8 _ _ _ Tryd.underlying9
  | some ad =>
    cases l with
    | nil =>
      rw [run_convert_bytes_string w 26 9 5 (some ad) _ c Tryd.underlying26 undU8 Tryd.underlying9]
      simp [Conv.bytesToString, loadCells]
      all_goals rfl
    | cons r l =>
      obtain ⟨g, o, e, hg, hcell⟩ := hA (by simp)
      cases e
      refine run_convert_bytes_arg w 26 5 Tryd.underlying26 undU8 g o _ c ((r :: l).map fun (n : Nat) => (n : Int)) (by simp) (fun i hi => ?_) _ Tryd.underlying9
      have hb : i < (bl (r :: l)).length := by rw [bl_len]; exact hi
      rw [hcell i hb]
      have hr : i < (r :: l).length := hi
      rw [bl_get (List.getElem?_eq_getElem hr), List.getD_eq_getElem?_getD, List.getElem?_map, List.getElem?_eq_getElem hr]
      rfl
/-- A slice literal of bytes. -/
theorem wpList_build_bytes {ops : Array Oper} {rest : List Oper} {o : Oper} {a : Act} {w : World} {Q : Exit → Act → World → Prop} (hg : o.guard = none) (n : Nat) (parts : Array (Nat × Operand)) (ho : o.op = .buildSlice 26 n parts)
    (l : List Nat) (hlen : n = l.length) (hpos : 0 < n) (hsmall : n ≤ 2 ^ 24)
    (hparts : parts.toList = ((l.map fun (b : Nat) => (b : Int)).zipIdx 0).map fun x => (x.2, Operand.const (Value.int .u8 x.1)))
    (h : wpList Tryd.prog ops Q rest (a.put o.dst (.slice (some ⟨w.heap.size, 0, none⟩) n n)) (w.alloc (.cells (bs l) 5))) : wpList Tryd.prog ops Q (o :: rest) a w := by
  refine wpList_buildFlat hg 26 5 n parts ho .u8 (l.map fun (b : Nat) => (b : Int)) Tryd.underlying26 size8 (by kernel_rfl) (by rw [List.length_map]; exact hlen) hpos hsmall hparts ?_
  rw [List.map_map]
  exact h
/-- A row that lies whole in its block, marked or not, is read. -/
theorem rd_blk2 {w : World} {g n : Nat} {l : List Nat} {t : TypeId} {fr : Nat × Nat} (h : w.heap[g]? = some (.cells (bs l) t fr)) (hn : l.length = n) : RdB w (.slice (some ⟨g, 0, none⟩) n n) l := by
  subst hn
  refine ⟨by rw [bl_len]; omega, _, _, rfl, Nat.le_refl _, fun _ => ⟨g, 0, rfl, (Array.getElem?_eq_some_iff.1 h).1, fun j hj => ?_⟩⟩
  rw [Nat.zero_add]
  simp [World.cell?, h, bs]
end Go.Proofs.YtebmbapaedlmiaaDoor
