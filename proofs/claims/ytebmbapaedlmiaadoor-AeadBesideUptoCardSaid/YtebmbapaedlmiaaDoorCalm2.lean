/-
  More steps for a region that draws its order: a move, len, cuts of slices of bytes.
-/
import Derived.Test.YtebmbapaedlmiaaDoorAeY
namespace Go.Proofs.YtebmbapaedlmiaaDoor
open Go.RowKit Ae
set_option linter.unusedVariables false

theorem wp_move {P : Program} {o : Oper} {a : Act} {w : World} {x : Operand} {v : Value} {K : Act → World → Prop} {Q : Exit → Act → World → Prop} (ho : o.op = .move x) (hx : a.eval x = v) (h : K (a.put o.dst v) w) : o.wp P a w K Q := by
  refine wp_run ?_ h
  unfold execOp
  simp only [ho, hx]
  simp
theorem wp_len_bytes {o : Oper} {a : Act} {w : World} {x : Operand} {A : Option Addr} {n c : Nat} {K : Act → World → Prop} {Q : Exit → Act → World → Prop}
    (ho : o.op = .call { callee := .builtin .len, args := #[x], argTypes := #[26] }) (hx : a.eval x = .slice A n c) (h : K (a.put o.dst (.int .i64 (n : Int))) w) : o.wp Tryd.prog a w K Q := by
  refine wp_run ?_ h
  unfold execOp
  simp only [ho]
  have ht := Tryd.underlying26
  simp [resolve, invoke, builtin, hx, run_underlying ht, Builtin.len_, goInt]
theorem wp_slice_of {P : Program} {o : Oper} {a : Act} {w : World} {t : TypeId} {x : Operand} {lo hi mx : Option Operand} {vx v : Value} {vlo vhi vmx : Option Value} {K : Act → World → Prop} {Q : Exit → Act → World → Prop} (ho : o.op = .slice t x lo hi mx)
    (hx : a.eval x = vx) (hlo : lo.map a.eval = vlo) (hhi : hi.map a.eval = vhi) (hmx : mx.map a.eval = vmx)
    (hrun : (Instr.sliceAt t vx vlo vhi vmx).run P w = .ok v w) (h : K (a.put o.dst v) w) : o.wp P a w K Q := by
  subst hx hlo hhi hmx
  exact wp_slice_at ho hrun h
theorem elemB : Tryd.prog.elem 26 = 5 := by kernel_rfl
theorem undB : Tryd.prog.underlying 26 = some (.slice (Tryd.prog.elem 26)) := by kernel_rfl
theorem sizeB (w : World) : (sizeOf (Tryd.prog.elem 26)).run Tryd.prog w = .ok 1 w := by
  obtain ⟨i, hi, hz, hsize, hby⟩ := infoB_parts
  rw [elemB]
  simp [sizeOf, typeInfo, hi, hsize]
/-- A cut of a slice of bytes. -/
def cutB (A : Option Addr) (l h m : Nat) : Value := .slice (if m = l then A else A.map (·.add l)) (h - l) (m - l)
theorem cut_eq (A : Option Addr) (l h m : Nat) : sliced A l h m 1 = cutB A l h m := by unfold sliced cutB; rw [Nat.mul_one]
theorem cut_hm (w : World) (A : Option Addr) (n c h m : Nat) (h1 : h ≤ m) (h2 : m ≤ c) : (Instr.sliceAt 26 (.slice A n c) none (some (.int .i64 (h : Int))) (some (.int .i64 (m : Int)))).run Tryd.prog w = .ok (cutB A 0 h m) w := by
  rw [run_sliceAt_slice w _ _ _ _ _ undB, run_slice_hm w _ _ _ _ undB .i64 .i64 (h : Int) (m : Int) (by omega) (by omega) (by omega), sizeB]
  simp only [Result.andThen, Int.toNat_natCast, cut_eq]
theorem cut_h (w : World) (A : Option Addr) (n c h : Nat) (h1 : h ≤ c) : (Instr.sliceAt 26 (.slice A n c) none (some (.int .i64 (h : Int))) none).run Tryd.prog w = .ok (cutB A 0 h c) w := by
  rw [run_sliceAt_slice w _ _ _ _ _ undB, run_slice_h w _ _ _ _ undB .i64 (h : Int) (by omega) (by omega), sizeB]
  simp only [Result.andThen, Int.toNat_natCast, cut_eq]
theorem cut_l (w : World) (A : Option Addr) (n c l : Nat) (h1 : l ≤ n) : (Instr.sliceAt 26 (.slice A n c) (some (.int .i64 (l : Int))) none none).run Tryd.prog w = .ok (cutB A l n c) w := by
  rw [run_sliceAt_slice w _ _ _ _ _ undB, run_slice_l w _ _ _ _ undB .i64 (l : Int) (by omega) (by omega), sizeB]
  simp only [Result.andThen, Int.toNat_natCast, cut_eq]
/-- A cut of what is read is read. -/
theorem RdB.cut {w : World} {A : Option Addr} {n c : Nat} {l : List Nat} (h : RdB w (.slice A n c) l) {lo hi m : Nat} (h1 : lo ≤ hi) (h2 : hi ≤ n) (h3 : hi ≤ m) (h4 : m ≤ c) : RdB w (cutB A lo hi m) ((l.drop lo).take (hi - lo)) := by
  obtain ⟨hl, A', c', hv, hc, hA⟩ := h
  cases hv
  have hlen : ((l.drop lo).take (hi - lo)).length = hi - lo := by rw [List.length_take, List.length_drop]; omega
  refine ⟨by rw [bl_len]; omega, _, m - lo, by rw [hlen]; rfl, by rw [hlen]; omega, fun h0 => ?_⟩
  rw [hlen] at h0
  obtain ⟨g, o, rfl, hg, hcell⟩ := hA (by omega)
  refine ⟨g, o + lo, ?_, hg, fun j hj => ?_⟩
  · rw [if_neg (by omega)]
    simp [Addr.add]
  · rw [bl_len, hlen] at hj
    rw [Nat.add_assoc, hcell (lo + j) (by rw [bl_len]; omega), ← bl_take, ← bl_drop, List.getElem?_take_of_lt (by omega), List.getElem?_drop]
/-- A row that lies whole in its block is read. -/
theorem rd_blk {w : World} {g n : Nat} {l : List Nat} {t : TypeId} (h : w.heap[g]? = some (.cells (bs l) t (0, 0))) (hn : l.length = n) : RdB w (.slice (some ⟨g, 0, none⟩) n n) l := by
  subst hn
  refine ⟨by rw [bl_len]; omega, _, _, rfl, Nat.le_refl _, fun _ => ⟨g, 0, rfl, lt_blk h, fun j hj => ?_⟩⟩
  rw [Nat.zero_add, cell_blk h]
  simp [bs]
end Go.Proofs.YtebmbapaedlmiaaDoor
