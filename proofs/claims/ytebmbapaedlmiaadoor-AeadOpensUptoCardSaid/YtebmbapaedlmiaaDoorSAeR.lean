/-
  Package chacha: Xor (the walk).
-/
import Derived.Test.YtebmbapaedlmiaaDoorSAeQ
import Derived.Test.YtebmbapaedlmiaaDoorSAeN
import Derived.Deep.OwnRows
namespace Go.Proofs.YtebmbapaedlmiaaDoor
open Go.RowKit Ae
set_option linter.unusedVariables false

theorem info12 : InfoArr 25 12 := by unfold InfoArr; kernel_rfl
theorem infoB8 : (Tryd.prog.info? 5).map (fun i => (i.zero, i.size, i.bytes)) = some (some (.int .u8 0), 1, 1) := by kernel_rfl
theorem made_bs (n : Nat) : madeCells #[.int .u8 0] n = bs (List.replicate n 0) := by
  apply Array.ext'
  rw [toList_madeCells_one]
  simp [bs, bl]
theorem make_b (n : Nat) (hn : n ≤ 281474976710656) (w : World) :
    (Instr.makeSlice 26 (.int .i64 (n : Int)) (.int .i64 (n : Int))).run Tryd.prog w = .ok (.slice (some ⟨w.heap.size, 0, none⟩) n n) (w.alloc (.cells (bs (List.replicate n 0)) 5)) := by
  rw [run_make_row' 26 5 (.int .u8 0) 1 Tryd.underlying26 infoB8 rfl .i64 .i64 n (by omega) (by omega) w, made_bs]
theorem xors_len (key : List Nat) (ctr : Nat) (nonce l : List Nat) : (xors key ctr nonce l).length = l.length := by simp [xors]
theorem xors_get (key : List Nat) (ctr : Nat) (nonce l : List Nat) {k : Nat} (hk : k < l.length) : (xors key ctr nonce l)[k]? = some (l.getD k 0 ^^^ (block key (m32 (ctr + k / 64)) nonce).getD (k % 64) 0) := by
  simp [xors, hk, xorAt]
/-- A row of bytes of its own, made after the world w. -/
def NewB (w w' : World) (v : Value) (l : List Nat) : Prop := ∃ g, w.heap.size ≤ g ∧ v = .slice (some ⟨g, 0, none⟩) l.length l.length ∧ w'.heap[g]? = some (.cells (bs l) 5 (0, 0))
def GivesB (w : World) (l : List Nat) : Ending → World → Prop := fun e w' => ∃ v, e = .returned v ∧ NewB w w' v l ∧ Chg Nowhere w w'
structure XorW (w wr : World) (key nonce O S : List Nat) : Prop where
  k : wr.heap[w.heap.size]? = some (.cells (bs key) 23 (0, 0))
  n : wr.heap[w.heap.size + 1]? = some (.cells (bs nonce) 25 (0, 0))
  o : wr.heap[w.heap.size + 1 + 1]? = some (.cells (bs O) 5 (0, 0))
  s : wr.heap[w.heap.size + 1 + 1 + 1]? = some (.cells (bs S) 43 (0, 0))
  c : Chg Nowhere w wr
theorem XorW.chg {w wr w2 : World} {key nonce O S : List Nat} (h : XorW w wr key nonce O S) (hc : Chg Nowhere wr w2) : XorW w w2 key nonce O S :=
  ⟨hc.same h.k, hc.same h.n, hc.same h.o, hc.same h.s, h.c.then_none hc⟩
theorem XorW.put {w wr : World} {key nonce O S : List Nat} (h : XorW w wr key nonce O S) (i b : Nat) : XorW w (wr.setCell ⟨w.heap.size + 1 + 1, i, none⟩ (.int .u8 (b : Int))) key nonce (O.set i b) S :=
  ⟨(set_other _ (by show w.heap.size ≠ w.heap.size + 1 + 1; omega)).trans h.k, (set_other _ (by show w.heap.size + 1 ≠ w.heap.size + 1 + 1; omega)).trans h.n, (set_blk _ h.o).trans (by rw [bs_set]), (set_other _ (by show w.heap.size + 1 + 1 + 1 ≠ w.heap.size + 1 + 1; omega)).trans h.s, h.c.put (.inr (by omega))⟩
theorem XorW.row {w wr : World} {key nonce O S : List Nat} (h : XorW w wr key nonce O S) (S' : List Nat) : XorW w (wr.setRow (w.heap.size + 1 + 1 + 1) (bs S')) key nonce O S' :=
  ⟨row_other h.k (by omega), row_other h.n (by omega), row_other h.o (by omega), row_blk h.s, h.c.putRow (.inr (by omega))⟩
theorem xorW0 (w : World) (key nonce : List Nat) (n : Nat) : XorW w ((((w.alloc (.cells (bs key) 23)).alloc (.cells (bs nonce) 25)).alloc (.cells (bs (List.replicate n 0)) 5)).alloc (.cells (bs (List.replicate 64 0)) 43)) key nonce (List.replicate n 0) (List.replicate 64 0) :=
  ⟨alloc_old (alloc_old (alloc_old (alloc_new _ _))), alloc_old (alloc_old (new_1 _ _ _)), alloc_old (new_2 _ _ _ _), new_3 _ _ _ _ _, ((((Chg.refl _ _).alloc _).alloc _).alloc _).alloc _⟩
theorem m32_succ (x : Nat) : (((m32 x : Nat) : Int) + 1) % 4294967296 = ((m32 (x + 1) : Nat) : Int) := by unfold m32; omega
end Go.Proofs.YtebmbapaedlmiaaDoor
