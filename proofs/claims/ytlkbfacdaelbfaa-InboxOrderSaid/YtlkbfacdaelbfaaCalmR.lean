/-
  Regions that draw their order (with guards that hold): steps; cuts of slices of bytes, bytes as strings.
-/
import Derived.Test.YtlkbfacdaelbfaaCalm
import Derived.Test.YtlkbfacdaelbfaaBy
import Derived.Laws.BytesArg
import Derived.Great.BuildSlice
import Derived.Lib.SlBytesConst
namespace Go.Proofs.Ytlkbfacdaelbfaa
open Go.RowKit Ae
set_option linter.unusedVariables false

theorem wp_move {P : Program} {o : Oper} {a : Act} {w : World} {x : Operand} {v : Value} {K : Act → World → Prop} {Q : Exit → Act → World → Prop} (ho : o.op = .move x) (hx : a.eval x = v) (h : K (a.put o.dst v) w) : o.wp P a w K Q := by
  refine wp_run ?_ h
  unfold execOp
  simp only [ho, hx]
  simp
theorem wp_len_bytes {o : Oper} {a : Act} {w : World} {x : Operand} {A : Option Addr} {n c : Nat} {K : Act → World → Prop} {Q : Exit → Act → World → Prop}
    (ho : o.op = .call { callee := .builtin .len, args := #[x], argTypes := #[47] }) (hx : a.eval x = .slice A n c) (h : K (a.put o.dst (.int .i64 (n : Int))) w) : o.wp Try.prog a w K Q := by
  refine wp_run ?_ h
  unfold execOp
  simp only [ho]
  have ht := Try.underlying47
  simp [resolve, invoke, builtin, hx, run_underlying ht, Builtin.len_, goInt]
theorem wp_slice_of {P : Program} {o : Oper} {a : Act} {w : World} {t : TypeId} {x : Operand} {lo hi mx : Option Operand} {vx v : Value} {vlo vhi vmx : Option Value} {K : Act → World → Prop} {Q : Exit → Act → World → Prop} (ho : o.op = .slice t x lo hi mx)
    (hx : a.eval x = vx) (hlo : lo.map a.eval = vlo) (hhi : hi.map a.eval = vhi) (hmx : mx.map a.eval = vmx)
    (hrun : (Instr.sliceAt t vx vlo vhi vmx).run P w = .ok v w) (h : K (a.put o.dst v) w) : o.wp P a w K Q := by
  subst hx hlo hhi hmx
  exact wp_slice_at ho hrun h
theorem elemB : Try.prog.elem 47 = 5 := by kernel_rfl
theorem undB : Try.prog.underlying 47 = some (.slice (Try.prog.elem 47)) := by kernel_rfl
theorem sizeB (w : World) : (sizeOf (Try.prog.elem 47)).run Try.prog w = .ok 1 w := by
  obtain ⟨i, hi, hz, hsize, hby⟩ := infoB_parts
  rw [elemB]
  simp [sizeOf, typeInfo, hi, hsize]
/-- A cut of a slice of bytes. -/
def cutB (A : Option Addr) (l h m : Nat) : Value := .slice (if m = l then A else A.map (·.add l)) (h - l) (m - l)
theorem cut_eq (A : Option Addr) (l h m : Nat) : sliced A l h m 1 = cutB A l h m := by unfold sliced cutB; rw [Nat.mul_one]
theorem cut_hm (w : World) (A : Option Addr) (n c h m : Nat) (h1 : h ≤ m) (h2 : m ≤ c) : (Instr.sliceAt 47 (.slice A n c) none (some (.int .i64 (h : Int))) (some (.int .i64 (m : Int)))).run Try.prog w = .ok (cutB A 0 h m) w := by
  rw [run_sliceAt_slice w _ _ _ _ _ undB, run_slice_hm w _ _ _ _ undB .i64 .i64 (h : Int) (m : Int) (by omega) (by omega) (by omega), sizeB]
  simp only [Result.andThen, Int.toNat_natCast, cut_eq]
theorem cut_h (w : World) (A : Option Addr) (n c h : Nat) (h1 : h ≤ c) : (Instr.sliceAt 47 (.slice A n c) none (some (.int .i64 (h : Int))) none).run Try.prog w = .ok (cutB A 0 h c) w := by
  rw [run_sliceAt_slice w _ _ _ _ _ undB, run_slice_h w _ _ _ _ undB .i64 (h : Int) (by omega) (by omega), sizeB]
  simp only [Result.andThen, Int.toNat_natCast, cut_eq]
theorem cut_l (w : World) (A : Option Addr) (n c l : Nat) (h1 : l ≤ n) : (Instr.sliceAt 47 (.slice A n c) (some (.int .i64 (l : Int))) none none).run Try.prog w = .ok (cutB A l n c) w := by
  rw [run_sliceAt_slice w _ _ _ _ _ undB, run_slice_l w _ _ _ _ undB .i64 (l : Int) (by omega) (by omega), sizeB]
  simp only [Result.andThen, Int.toNat_natCast, cut_eq]
/-- A cut of what is read is read. -/
theorem RdB.cut {w : World} {A : Option Addr} {n c : Nat} {l : List Nat} (h : RdB w (.slice A n c) l) {lo hi m : Nat} (h1 : lo ≤ hi) (h2 : hi ≤ n) (h3 : hi ≤ m) (h4 : m ≤ c) : RdB w (cutB A lo hi m) ((l.drop lo).take (hi - lo)) := by
  obtain ⟨hl, A', c', hv, hc, hA⟩ := h
  cases hv
  have hlen : ((l.drop lo).take (hi - lo)).length = hi - lo := by rw [List.length_take, List.length_drop]; omega
  refine ⟨by rw [bl_len]; omega, _, m - lo, by rw [hlen]; rfl, by rw [hlen]; omega, fun h0 => ?_⟩
  rw [hlen] at h0
  obtain ⟨g, o, rfl, hg, hcell⟩ := hA (by omega)
  refine ⟨g, o + lo, ?_, hg, fun j hj => ?_⟩
  · rw [if_neg (by omega)]
    simp [Addr.add]
  · rw [bl_len, hlen] at hj
    rw [Nat.add_assoc, hcell (lo + j) (by rw [bl_len]; omega), ← bl_take, ← bl_drop, List.getElem?_take_of_lt (by omega), List.getElem?_drop]
/-- A row that lies whole in its block is read. -/
theorem rd_blk {w : World} {g n : Nat} {l : List Nat} {t : TypeId} (h : w.heap[g]? = some (.cells (bs l) t (0, 0))) (hn : l.length = n) : RdB w (.slice (some ⟨g, 0, none⟩) n n) l := by
  subst hn
  refine ⟨by rw [bl_len]; omega, _, _, rfl, Nat.le_refl _, fun _ => ⟨g, 0, rfl, lt_blk h, fun j hj => ?_⟩⟩
  rw [Nat.zero_add, cell_blk h]
  simp [bs]
theorem wp_make_slice {P : Program} {o : Oper} {a : Act} {w w2 : World} {t : TypeId} {x y : Operand} {vx vy v : Value} {K : Act → World → Prop} {Q : Exit → Act → World → Prop} (ho : o.op = .makeSlice t x y) (hx : a.eval x = vx) (hy : a.eval y = vy)
    (hrun : (Instr.makeSlice t vx vy).run P w = .ok v w2) (h : K (a.put o.dst v) w2) : o.wp P a w K Q := by
  refine wp_run ?_ h
  unfold execOp
  simp only [ho, hx, hy]
  simp [hrun]
theorem wp_extract_at {P : Program} {o : Oper} {a : Act} {w : World} {x : Operand} {i : Nat} {vs : Array Value} {v : Value} {K : Act → World → Prop} {Q : Exit → Act → World → Prop} (ho : o.op = .extract x i) (hx : a.eval x = .tuple vs)
    (hi : vs[i]? = some v) (h : K (a.put o.dst v) w) : o.wp P a w K Q := by
  refine wp_run ?_ h
  unfold execOp
  simp only [ho, hx]
  simp [Instr.extract, hi]
theorem wp_assign {P : Program} {o : Oper} {a : Act} {w : World} {x : Operand} {v : Value} {K : Act → World → Prop} {Q : Exit → Act → World → Prop} (ho : o.op = .assign x) (hx : a.eval x = v) (h : K (a.put o.dst v) w) : o.wp P a w K Q := by
  refine wp_run ?_ h
  unfold execOp
  simp only [ho, hx]
  simp
/-- Bytes as a string. -/
def sb (l : List Nat) : ByteArray := strOfNums (l.map fun (n : Nat) => (n : Int))
theorem sb_eq {l m : List Nat} (hl : Byt l) (hm : Byt m) (h : sb l = sb m) : l = m := by
  have e := congrArg (fun (b : ByteArray) => b.data.toList) h
  simp only [sb, strOfNums_data, List.map_map] at e
  have inj : ∀ {l : List Nat}, Byt l → (l.map ((fun (n : Int) => UInt8.ofNat n.toNat) ∘ fun (n : Nat) => (n : Int))).map UInt8.toNat = l := by
    intro l hl
    rw [List.map_map]
    conv => rhs; rw [← List.map_id l]
    refine List.map_congr_left fun b hb => ?_
    have := hl b hb
    simp
    omega
  rw [← inj hl, ← inj hm, e]
theorem sb_iff {l m : List Nat} (hl : Byt l) (hm : Byt m) : sb l = sb m ↔ l = m := ⟨sb_eq hl hm, fun h => by rw [h]⟩
theorem undU8 : Try.prog.underlying 5 = some (.int .u8) := Try.underlying5
/-- What is read, as a string. -/
theorem conv_rd {w : World} {v : Value} {l : List Nat} (h : RdB w v l) : (convert 47 9 v).run Try.prog w = .ok (.string (sb l)) w := by
  obtain ⟨hl, A, c, rfl, hc, hA⟩ := h
  cases A with
  | none =>
    have h0 : l = [] := by
      cases l with
      | nil => rfl
      | cons r l => obtain ⟨g, o, e, _⟩ := hA (by simp); cases e
    subst h0
    exact run_convert_bytes_nil w 47 5 Try.underlying47 undU8 _ _ _ Try.underlying9
  | some ad =>
    cases l with
    | nil =>
      rw [run_convert_bytes_string w 47 9 5 (some ad) _ c Try.underlying47 undU8 Try.underlying9]
      simp [Conv.bytesToString, loadCells]
      all_goals rfl
    | cons r l =>
      obtain ⟨g, o, e, hg, hcell⟩ := hA (by simp)
      cases e
      refine run_convert_bytes_arg w 47 5 Try.underlying47 undU8 g o _ c ((r :: l).map fun (n : Nat) => (n : Int)) (by simp) (fun i hi => ?_) _ Try.underlying9
      have hb : i < (bl (r :: l)).length := by rw [bl_len]; exact hi
      rw [hcell i hb]
      have hr : i < (r :: l).length := hi
      rw [bl_get (List.getElem?_eq_getElem hr), List.getD_eq_getElem?_getD, List.getElem?_map, List.getElem?_eq_getElem hr]
      rfl
/-- A slice literal of bytes. -/
theorem wpList_build_bytes {ops : Array Oper} {rest : List Oper} {o : Oper} {a : Act} {w : World} {Q : Exit → Act → World → Prop} (hg : o.guard = none) (n : Nat) (parts : Array (Nat × Operand)) (ho : o.op = .buildSlice 47 n parts)
    (l : List Nat) (hlen : n = l.length) (hpos : 0 < n) (hsmall : n ≤ 2 ^ 24)
    (hparts : parts.toList = ((l.map fun (b : Nat) => (b : Int)).zipIdx 0).map fun x => (x.2, Operand.const (Value.int .u8 x.1)))
    (h : wpList Try.prog ops Q rest (a.put o.dst (.slice (some ⟨w.heap.size, 0, none⟩) n n)) (w.alloc (.cells (bs l) 5))) : wpList Try.prog ops Q (o :: rest) a w := by
  refine wpList_buildFlat hg 47 5 n parts ho .u8 (l.map fun (b : Nat) => (b : Int)) Try.underlying47 size8 (by kernel_rfl) (by rw [List.length_map]; exact hlen) hpos hsmall hparts ?_
  rw [List.map_map]
  exact h
/-- One operation after the other, each wanted, each from what it waits for. -/
def StepsG (P : Program) (l : List Oper) (ds : List Nat) (A : List Nat) (F : List Fact) (R : World → World → Prop) (a : Act) (w : World) : Nat → List Oper → Prop
  | _, [] => True
  | i, o :: rest => (∀ x w', R w w' → (∀ j, waits2 l i j = true → (F.getD j nothing).at x w') →
      Region.wanted o (yielded l.toArray (puts a ds x).tmps) = true ∧
      ∀ (K : Act → World → Prop) (Q' : Exit → Act → World → Prop), (∀ v w2, R w' w2 → (F.getD i nothing).at (upd x o.dst v) w2 → (∀ d, o.dst = some d → d ∈ A → Born w' w2 v) → K ((puts a ds x).put o.dst v) w2) → o.wp P (puts a ds x) w' K Q') ∧
      StepsG P l ds A F R a w (i + 1) rest
theorem StepsG.nil {P : Program} {l : List Oper} {ds : List Nat} {A : List Nat} {F : List Fact} {R : World → World → Prop} {a : Act} {w : World} {i : Nat} : StepsG P l ds A F R a w i [] := trivial
theorem StepsG.cons {P : Program} {l : List Oper} {ds : List Nat} {A : List Nat} {F : List Fact} {R : World → World → Prop} {a : Act} {w : World} {i : Nat} {o : Oper} {rest : List Oper}
    (g : ∀ x w', R w w' → (∀ j, waits2 l i j = true → (F.getD j nothing).at x w') → Region.wanted o (yielded l.toArray (puts a ds x).tmps) = true)
    (h : ∀ x w', R w w' → (∀ j, waits2 l i j = true → (F.getD j nothing).at x w') →
      ∀ (K : Act → World → Prop) (Q' : Exit → Act → World → Prop), (∀ v w2, R w' w2 → (F.getD i nothing).at (upd x o.dst v) w2 → (∀ d, o.dst = some d → d ∈ A → Born w' w2 v) → K ((puts a ds x).put o.dst v) w2) → o.wp P (puts a ds x) w' K Q')
    (k : StepsG P l ds A F R a w (i + 1) rest) : StepsG P l ds A F R a w i (o :: rest) := ⟨fun x w' hR hd => ⟨g x w' hR hd, h x w' hR hd⟩, k⟩
theorem StepsG.get {P : Program} {l : List Oper} {ds : List Nat} {A : List Nat} {F : List Fact} {R : World → World → Prop} {a : Act} {w : World} : ∀ {k : Nat} {L : List Oper}, StepsG P l ds A F R a w k L → ∀ j o, L[j]? = some o →
    ∀ x w', R w w' → (∀ i, waits2 l (k + j) i = true → (F.getD i nothing).at x w') →
      Region.wanted o (yielded l.toArray (puts a ds x).tmps) = true ∧
      ∀ (K : Act → World → Prop) (Q' : Exit → Act → World → Prop), (∀ v w2, R w' w2 → (F.getD (k + j) nothing).at (upd x o.dst v) w2 → (∀ d, o.dst = some d → d ∈ A → Born w' w2 v) → K ((puts a ds x).put o.dst v) w2) → o.wp P (puts a ds x) w' K Q'
  | k, [], _, j, o, ho => by simp at ho
  | k, o' :: L, h, 0, o, ho => by simp at ho; subst ho; exact h.1
  | k, o' :: L, h, j + 1, o, ho => by
    have := h.2.get j o (by simpa using ho)
    rw [show k + 1 + j = k + (j + 1) by omega] at this
    exact this
theorem wp_region_calmG {P : Program} {l : List Oper} {Q : Exit → Act → World → Prop} {id : Nat} {a : Act} {w : World} (n : Nat) (ds : List Nat) (A : List Nat) (F : List Fact) (R : World → World → Prop) (hm : P.follows .mixedOrders = true) (hB : calmB l n ds (F.map (·.slots)) = true)
    (refl : ∀ w, R w w) (trans : ∀ {a b c}, R a b → R b c → R a c) (grows : ∀ {a b}, R a b → a.heap.size ≤ b.heap.size) (hA : ∀ d, d ∈ A → d ∈ ds) (drew : R w { w with drawn := w.drawn + 1 })
    (stable : Lasting R F) (step : StepsG P l ds A F R a w 0 (l.take n))
    (tail : ∀ x w', R w w' → (∀ i, i < n → (F.getD i nothing).at x w') → (∀ d e, d ∈ A → e ∈ A → d ≠ e → blk (x d) ≠ blk (x e)) → wpList P l.toArray Q (l.drop n) (puts a ds x) w') : (Code.region id l.toArray true).wp P Q a w := by
  refine wp_region_calm n ds A F R hm hB refl trans grows hA drew (fun i _ x w1 w2 hR h => stable.get i _ _ _ hR h) (fun i o ho hi x w' hR hd => ?_) tail
  have ho2 : (l.take n)[i]? = some o := by rw [List.getElem?_take_of_lt hi]; exact ho
  have := step.get i o ho2 x w' hR (by rw [Nat.zero_add]; exact hd)
  rw [Nat.zero_add] at this
  rw [if_pos this.1]
  exact this.2 _ _ fun v w2 h1 h2 h3 => ⟨v, rfl, h1, h2, h3⟩
theorem want_none {o : Oper} {f : Nat → Option Bool} (h : o.guard = none) : Region.wanted o f = true := by simp [Region.wanted, h]
theorem want_some {o : Oper} {l : List Oper} {a : Act} {ds : List Nat} {x : Nat → Value} {j d : Nat} {b : Bool} (hg : o.guard = some (j, b)) (hd : (l[j]?).bind (·.dst) = some d) (hin : ds.contains d = true) (hs : (a.tmps[d]?).isSome = true) (hx : x d = .bool b) :
    Region.wanted o (yielded l.toArray (puts a ds x).tmps) = true := by
  obtain ⟨u, hu⟩ := Option.isSome_iff_exists.1 hs
  have e : yielded l.toArray (puts a ds x).tmps j = some b := by
    unfold yielded
    rw [List.getElem?_toArray, hd]
    simp only [Option.bind_some]
    rw [puts_get, hu, Option.map_some, if_pos hin, hx]
  simp [Region.wanted, hg, e]
theorem wp_conv {P : Program} {o : Oper} {a : Act} {w : World} {s t : TypeId} {x : Operand} {vx v : Value} {K : Act → World → Prop} {Q : Exit → Act → World → Prop} (ho : o.op = .convert s t x) (hx : a.eval x = vx)
    (hrun : (convert s t vx).run P w = .ok v w) (h : K (a.put o.dst v) w) : o.wp P a w K Q := by
  refine wp_run ?_ h
  unfold execOp
  simp only [ho, hx]
  simp [hrun]
theorem wp_field_at {P : Program} {o : Oper} {a : Act} {w : World} {t : TypeId} {x : Operand} {i : Nat} {vx v : Value} {K : Act → World → Prop} {Q : Exit → Act → World → Prop} (ho : o.op = .fieldAddr t x i) (hx : a.eval x = vx)
    (hrun : (Instr.fieldAt t vx i).run P w = .ok v w) (h : K (a.put o.dst v) w) : o.wp P a w K Q := by
  refine wp_run ?_ h
  unfold execOp
  simp only [ho, hx]
  simp [hrun]
theorem wp_pick {P : Program} {o : Oper} {a : Act} {w : World} {c x y : Operand} {b : Bool} {v : Value} {K : Act → World → Prop} {Q : Exit → Act → World → Prop} (ho : o.op = .pick c x y) (hc : a.eval c = .bool b) (hx : (if b then a.eval x else a.eval y) = v)
    (h : K (a.put o.dst v) w) : o.wp P a w K Q := by
  refine wp_run ?_ h
  subst hx
  unfold execOp
  simp only [ho, hc]
  cases b <;> simp [asBool]
theorem wp_bin {P : Program} {o : Oper} {a : Act} {w : World} {b : BinOp} {t u : TypeId} {x y : Operand} {vx vy v : Value} {K : Act → World → Prop} {Q : Exit → Act → World → Prop} (ho : o.op = .binOp b t x y u) (hx : a.eval x = vx) (hy : a.eval y = vy)
    (hq : (eqGuard b t x y vx vy).run P w = .ok () w) (hrun : (binOp b t vx vy).run P w = .ok v w) (h : K (a.put o.dst v) w) : o.wp P a w K Q := by
  refine wp_run ?_ h
  unfold execOp
  simp only [ho, hx, hy]
  simp [hq, hrun]
theorem ld3 (b j : Nat) (v : Int) (w : World) (h : w.cell? ⟨b, j, none⟩ = some (.int .i64 v)) : (Instr.loadAt 3 (.pointer (some ⟨b, j, none⟩))).run Try.prog w = .ok (.int .i64 v) w := by go_simp
theorem ne_int (x : Int) (w : World) : (binOp .neq 3 (.int .i64 x) (.int .i64 x)).run Try.prog w = .ok (.bool false) w := by go_simp
theorem neg_int (x y : Operand) (s t : Int) (w : World) : (eqGuard .neq 3 x y (.int .i64 s) (.int .i64 t)).run Try.prog w = .ok () w := by simp [eqGuard]
theorem ne_bool (x : Bool) (w : World) : (binOp .neq 4 (.bool x) (.bool x)).run Try.prog w = .ok (.bool false) w := by go_simp
theorem neg_bool (x y : Operand) (s t : Bool) (w : World) : (eqGuard .neq 4 x y (.bool s) (.bool t)).run Try.prog w = .ok () w := by simp [eqGuard]
theorem ne_rng (x y : Int) (w : World) : (binOp .neq 33 (.agg #[.int .i64 x, .int .i64 y]) (.agg #[.int .i64 x, .int .i64 y])).run Try.prog w = .ok (.bool false) w := by go_simp
theorem neg_rng (x y : Operand) (s t u v : Int) (w : World) : (eqGuard .neq 33 x y (.agg #[.int .i64 s, .int .i64 t]) (.agg #[.int .i64 u, .int .i64 v])).run Try.prog w = .ok () w := by go_simp
theorem not_true (w : World) : (Op.unary .not (.bool true)).run Try.prog w = .ok (.bool false) w := by go_simp
theorem wp_un {P : Program} {o : Oper} {a : Act} {w : World} {u : UnOp} {t : TypeId} {x : Operand} {vx v : Value} {K : Act → World → Prop} {Q : Exit → Act → World → Prop} (ho : o.op = .unOp u t x) (hx : a.eval x = vx)
    (hrun : (Op.unary u vx).run P w = .ok v w) (h : K (a.put o.dst v) w) : o.wp P a w K Q := by
  refine wp_run ?_ h
  unfold execOp
  simp only [ho, hx]
  simp [hrun]
theorem ldR (b j : Nat) (x y : Int) (w : World) (h : w.cell? ⟨b, j, none⟩ = some (.int .i64 x)) (h2 : w.cell? ⟨b, j + 1, none⟩ = some (.int .i64 y)) : (Instr.loadAt 33 (.pointer (some ⟨b, j, none⟩))).run Try.prog w = .ok (.agg #[.int .i64 x, .int .i64 y]) w := by go_simp
end Go.Proofs.Ytlkbfacdaelbfaa
