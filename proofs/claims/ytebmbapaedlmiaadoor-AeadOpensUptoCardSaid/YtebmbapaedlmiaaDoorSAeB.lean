/-
  Numbers of three words: load and store of package clamp.
-/
import Derived.Test.YtebmbapaedlmiaaDoorSAeA
import Derived.Deep.WholeRow
namespace Go.Proofs.YtebmbapaedlmiaaDoor
open Go.RowKit Ae
set_option linter.unusedVariables false

def bl (l : List Nat) : List Value := l.map fun (n : Nat) => Value.int .u8 (n : Int)
def bs (l : List Nat) : Array Value := (bl l).toArray
theorem bl_len (l : List Nat) : (bl l).length = l.length := by simp [bl]
def ws (l : List Nat) : Array Value := (l.map fun (n : Nat) => Value.int .u32 (n : Int)).toArray
def ds (l : List Nat) : Array Value := (l.map fun (n : Nat) => Value.int .u64 (n : Int)).toArray
theorem bs_size (l : List Nat) : (bs l).size = l.length := by simp [bs, bl]
theorem ws_size (l : List Nat) : (ws l).size = l.length := by simp [ws]
theorem ds_size (l : List Nat) : (ds l).size = l.length := by simp [ds]
theorem bs_get {l : List Nat} {i b : Nat} (h : l[i]? = some b) : (bs l)[i]? = some (.int .u8 (b : Int)) := by simp [bs, bl, h]
theorem ws_get {l : List Nat} {i b : Nat} (h : l[i]? = some b) : (ws l)[i]? = some (.int .u32 (b : Int)) := by simp [ws, h]
theorem ds_get {l : List Nat} {i b : Nat} (h : l[i]? = some b) : (ds l)[i]? = some (.int .u64 (b : Int)) := by simp [ds, h]
theorem bs_set (l : List Nat) (i b : Nat) : (bs l).setIfInBounds i (.int .u8 (b : Int)) = bs (l.set i b) := by simp [bs, bl, List.map_set]
theorem ws_set (l : List Nat) (i b : Nat) : (ws l).setIfInBounds i (.int .u32 (b : Int)) = ws (l.set i b) := by simp [ws, List.map_set]
theorem ds_set (l : List Nat) (i b : Nat) : (ds l).setIfInBounds i (.int .u64 (b : Int)) = ds (l.set i b) := by simp [ds, List.map_set]
theorem bs_one (l : List Nat) : (bs l).all (·.oneCell') = true := by rw [Array.all_eq_true_iff_forall_mem]; intro v hv; simp [bs, bl] at hv; obtain ⟨b, _, rfl⟩ := hv; rfl
theorem ws_one (l : List Nat) : (ws l).all (·.oneCell') = true := by rw [Array.all_eq_true_iff_forall_mem]; intro v hv; simp [ws] at hv; obtain ⟨b, _, rfl⟩ := hv; rfl
theorem ds_one (l : List Nat) : (ds l).all (·.oneCell') = true := by rw [Array.all_eq_true_iff_forall_mem]; intro v hv; simp [ds] at hv; obtain ⟨b, _, rfl⟩ := hv; rfl

/-- The three words of a number. -/
def words (x : Nat) : List Nat := [x % 18446744073709551616, x / 18446744073709551616 % 18446744073709551616, x / 340282366920938463463374607431768211456 % 18446744073709551616]
theorem words_get (x i : Nat) (hi : i < 3) : (words x)[i]? = some (x / 18446744073709551616 ^ i % 18446744073709551616) := by
  match i, hi with
  | 0, _ => simp [words]
  | 1, _ => simp [words]
  | 2, _ => simp [words]
def InfoArr (t n : Nat) : Prop := (Tryd.prog.info? t).map (·.size) = some n
theorem info17 : InfoArr 58 17 := by unfold InfoArr; kernel_rfl

/-- What a function of numbers gives: a value, and nothing that was there is changed. -/
def Gives (w : World) (v : Value) (e : Ending) (w' : World) : Prop := e = .returned v ∧ Chg Nowhere w w'

theorem some_of {α : Type} {o : Option α} (h : o.isSome = true) : ∃ i, o = some i := Option.isSome_iff_exists.1 h
theorem infoS8 : ∃ i, Tryd.prog.info? 5 = some i := some_of (by kernel_rfl)
theorem infoS32 : ∃ i, Tryd.prog.info? 39 = some i := some_of (by kernel_rfl)
theorem infoSi : ∃ i, Tryd.prog.info? 3 = some i := some_of (by kernel_rfl)
theorem idx_big {l : List Nat} {k b : Nat} (h : l[k]? = some b) (hk : k < 17) (w : World) : (Instr.index 58 (.agg (bs l)) (.int .i64 (k : Int))).run Tryd.prog w = .ok (.int .u8 (b : Int)) w := by
  obtain ⟨i, hi⟩ := infoS8
  exact run_index_arr w Tryd.underlying58 (by kernel_rfl) hi (by kernel_rfl) _ k hk _ (bs_get h)
theorem sz1 (w : World) (A : Obj) : (w.alloc A).heap.size = w.heap.size + 1 := by simp
theorem sz2 (w : World) (A B : Obj) : ((w.alloc A).alloc B).heap.size = w.heap.size + 1 + 1 := by simp
theorem sz3 (w : World) (A B C : Obj) : (((w.alloc A).alloc B).alloc C).heap.size = w.heap.size + 1 + 1 + 1 := by simp
theorem new_1 (w : World) (A o : Obj) : ((w.alloc A).alloc o).heap[w.heap.size + 1]? = some o := by have := alloc_new (w.alloc A) o; rwa [sz1] at this
theorem new_2 (w : World) (A B o : Obj) : (((w.alloc A).alloc B).alloc o).heap[w.heap.size + 1 + 1]? = some o := by have := alloc_new ((w.alloc A).alloc B) o; rwa [sz2] at this
theorem new_3 (w : World) (A B C o : Obj) : ((((w.alloc A).alloc B).alloc C).alloc o).heap[w.heap.size + 1 + 1 + 1]? = some o := by have := alloc_new (((w.alloc A).alloc B).alloc C) o; rwa [sz3] at this
theorem info3 : InfoArr 67 3 := by unfold InfoArr; kernel_rfl
theorem infoW (x : Nat) : InfoArr 67 (ds (words x)).size := by rw [ds_size]; exact info3
/-- A whole array stored into its block. -/
theorem row_blk {w : World} {b : Nat} {old cs : Array Value} {t : Nat} (h : w.heap[b]? = some (.cells old t (0, 0))) : (w.setRow b cs).heap[b]? = some (.cells cs t (0, 0)) := setRow_heap w b old cs t (0, 0) h
theorem row_other {w : World} {b k : Nat} {cs : Array Value} {o : Obj} (h : w.heap[k]? = some o) (hn : k ≠ b) : (w.setRow b cs).heap[k]? = some o := (setRow_other w b k cs hn).trans h
theorem Chg.putRow {S : Nat → Prop} {a w : World} (h : Chg S a w) {b : Nat} (hb : S b ∨ a.heap.size ≤ b) {cs : Array Value} : Chg S a (w.setRow b cs) :=
  ⟨h.os, h.tape, h.output, by rw [setRow_size]; exact h.size, fun k hk hn => by
    rw [setRow_other _ _ _ _ (by rintro rfl; rcases hb with hb | hb; exact hn hb; omega)]; exact h.block k hk hn⟩
theorem load_or (x i c : Nat) (hx : x < 256 ^ i) (hi : i < 17) (hc : c < 256) :
    words (x + 256 ^ i * c) = (words x).set (i / 8) ((x / 18446744073709551616 ^ (i / 8) % 18446744073709551616) ||| c * 2 ^ (8 * (i % 8))) := by
  have hor : ∀ y : Nat, y < 2 ^ (8 * (i % 8)) → y ||| c * 2 ^ (8 * (i % 8)) = y + c * 2 ^ (8 * (i % 8)) := fun y hy => by
    rw [Nat.or_comm, nat_join (8 * (i % 8)) _ _ (Nat.mul_mod_left _ _) hy, Nat.add_comm]
  rcases (by omega : i = 0 ∨ i = 1 ∨ i = 2 ∨ i = 3 ∨ i = 4 ∨ i = 5 ∨ i = 6 ∨ i = 7 ∨ i = 8 ∨ i = 9 ∨ i = 10 ∨ i = 11 ∨ i = 12 ∨ i = 13 ∨ i = 14 ∨ i = 15 ∨ i = 16) with rfl | rfl | rfl | rfl | rfl | rfl | rfl | rfl | rfl | rfl | rfl | rfl | rfl | rfl | rfl | rfl | rfl <;>
  · simp only [Nat.reduceMod, Nat.reduceMul, Nat.reducePow, Nat.reduceDiv, Nat.mul_one, Nat.div_one] at hx hor ⊢
    rw [hor _ (by omega)]
    simp only [words, List.set_cons_zero, List.set_cons_succ, List.cons.injEq, and_true]
    refine ⟨?_, ?_, ?_⟩ <;> omega
theorem shl_or {y c k : Nat} (hy : y < 18446744073709551616) (hc : c < 256) (hk : k < 8) : bits .or .u64 (y : Int) (IntKind.u64.wrap ((c : Int) * 2 ^ (8 * k))) = ((y ||| c * 2 ^ (8 * k) : Nat) : Int) := by
  have e : ((c : Int) * 2 ^ (8 * k)) = ((c * 2 ^ (8 * k) : Nat) : Int) := by simp
  have hlt : c * 2 ^ (8 * k) < 18446744073709551616 := by
    rcases (by omega : k = 0 ∨ k = 1 ∨ k = 2 ∨ k = 3 ∨ k = 4 ∨ k = 5 ∨ k = 6 ∨ k = 7) with rfl | rfl | rfl | rfl | rfl | rfl | rfl | rfl <;>
    · simp only [Nat.reduceMul, Nat.reducePow]; omega
  rw [e, wrap_u64_nat hlt, bits_or hy hlt]
end Go.Proofs.YtebmbapaedlmiaaDoor
