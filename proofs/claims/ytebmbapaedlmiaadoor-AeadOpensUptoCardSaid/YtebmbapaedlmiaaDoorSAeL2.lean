/-
  Package clamp: Block (the walk); package poly: Same.
-/
import Derived.Test.YtebmbapaedlmiaaDoorSAeK
import Derived.Laws.CopyOwn
import Derived.Deep.QuietTactic
import Derived.BigQuiet
namespace Go.Proofs.YtebmbapaedlmiaaDoor
open Go.RowKit Ae
set_option linter.unusedVariables false

/-- A piece of a text as a number: a 1 behind it, and noughts. -/
def pieceL (l : List Nat) : List Nat := (l ++ List.replicate (17 - l.length) 0).set l.length 1
theorem pieceL_len {l : List Nat} (h : l.length ≤ 16) : (pieceL l).length = 17 := by simp [pieceL]; omega
theorem results_cell_tmp {fn : Func} {p q : Tmp} {ty : TypeId} {P : Program} (h : fn.results = #[.cell p ty, .tmp q]) (tmps : Array Value) (w : World) (g : Nat) (t : TypeId) (cs : Array Value) (n : Nat) (e : TypeId)
    (hp : tmps.getD p undef = .pointer (some ⟨g, 0, none⟩)) (hg : w.heap[g]? = some (.cells cs t (0, 0)))
    (hu : P.underlying ty = some (.array n e)) (hi : (P.info? ty).map (·.size) = some cs.size) (v : Value) (hv : tmps.getD q undef = v) :
    (results fn tmps).run P w = .ok (.tuple #[.agg cs, v]) w := by
  have hp' : tmps[p]?.getD undef = .pointer (some ⟨g, 0, none⟩) := by simpa using hp
  have hv' : tmps[q]?.getD undef = v := by simpa using hv
  simp [results, h, hp', hv', asAddr, run_loadVar_row w g t ty cs (0, 0) _ hg hu rfl hi]
theorem bl_one (l : List Nat) : ∀ v ∈ bl l, v.oneCell' = true := by intro v hv; simp [bl] at hv; obtain ⟨b, _, rfl⟩ := hv; rfl
theorem size8 : (Tryd.prog.info? 5).map (·.size) = some 1 := by kernel_rfl
theorem bl_append (l m : List Nat) : bl (l ++ m) = bl l ++ bl m := by simp [bl]
theorem bl_drop (l : List Nat) (n : Nat) : (bl l).drop n = bl (l.drop n) := by simp [bl]
theorem bl_take (l : List Nat) (n : Nat) : (bl l).take n = bl (l.take n) := by simp [bl]
theorem bl_get {l : List Nat} {i b : Nat} (h : l[i]? = some b) : (bl l)[i]? = some (.int .u8 (b : Int)) := by simp [bl, h]
/-- A slice of bytes that is read. -/
def RdB (w : World) (v : Value) (l : List Nat) : Prop := Rd w v 1 l.length (bl l)
theorem RdB.same {w w' : World} {v : Value} {l : List Nat} (h : RdB w v l) (hc : Chg Nowhere w w') : RdB w' v l := Rd.same h hc

theorem chg_below {w w2 w3 : World} {B : Nat} (h : Chg Nowhere w w2) (hb : Below B w2 w3) (hB : w.heap.size ≤ B) : Chg Nowhere w w3 :=
  ⟨hb.os.trans h.os, hb.tape.trans h.tape, hb.output.trans h.output, Nat.le_trans h.size hb.size, fun k hk hn => (hb.block k (Nat.lt_of_lt_of_le hk hB)).trans (h.block k hk hn)⟩
set_option maxHeartbeats 1600000 in
set_option maxRecDepth 100000 in
theorem block_any (v : Value) (l : List Nat) (w : World) (h : RdB w v l) (hl : l.length ≤ 16) :
    Calls Tryd.prog 31 #[v] w (Gives w (.tuple #[.agg (bs (pieceL l)), .int .i64 0])) := by
  have hw2 : Chg Nowhere w ((w.alloc (.cells (bs (List.replicate 17 0)) 58)).alloc (.cells (bs (List.replicate 17 0)) 58)) := ((Chg.refl _ _).alloc _).alloc _
  have h2 := h.same hw2
  obtain ⟨-, A, c, rfl, hnc, hA⟩ := h2
  have HA := Lib.hid hA
  clear hA
  have HH := Lib.hid h
  clear h
  have HW2 := Lib.hid hw2
  clear hw2
  have HIP := Lib.hid (show InfoArr 58 (bs (pieceL l)).size by rw [bs_size, pieceL_len hl]; exact info17)
  have hlt : ¬ (16 : Int) < (l.length : Int) := by omega
  have hpo : 0 < (bl l).length → some (⟨w.heap.size + 1, 0, none⟩ : Addr) = some ⟨w.heap.size + 1, 0, none⟩ ∧ ∃ ad, A = some ad ∧ ∀ (j : Nat) v, (bl l)[j]? = some v → ((w.alloc (.cells (bs (List.replicate 17 0)) 58)).alloc (.cells (bs (List.replicate 17 0)) 58)).cell? (ad.add j) = some v := fun h0 => by
    rw [bl_len] at h0
    obtain ⟨g, o, rfl, hg, hcell⟩ := HA.out h0
    refine ⟨rfl, _, rfl, fun j v hj => ?_⟩
    rw [Addr.add_mid]
    exact (hcell j (List.getElem?_eq_some_iff.1 hj).1).trans hj
  have HPO := Lib.hid hpo
  clear hpo
  have HSZ := Lib.hid (show (bs (List.replicate 17 0)).size = (bs (pieceL l)).size by rw [bs_size, bs_size, pieceL_len hl]; rfl)
  go_enter Tryd.func31, Tryd.ntmps31
  have hsp : splice (bl (List.replicate 17 0)) 0 (bl l) = bl (l ++ List.replicate (17 - l.length) 0) := by
    rw [splice, Nat.zero_add, List.take_zero, List.nil_append, bl_len, bl_drop, ← bl_append, List.drop_replicate]
  have HSP := Lib.hid hsp
  clear hsp
  have hlc : (0 : Int) ≤ (l.length : Int) := by omega
  go_wp2_with (first | (refine wpList_copy_splice rfl (Operand.tmp 9) (Operand.tmp 10) 26 26 rfl 5 Tryd.underlying26 size8 (some ⟨w.heap.size + 1, 0, none⟩) A 17 17 l.length c rfl rfl (w.heap.size + 1) 0 (bl (List.replicate 17 0)) 58 (new_1 _ _ _) (bl l) (by rw [bl_len]; exact (Nat.min_eq_left (by omega)).symm) HPO.out (by rw [bl_len, bl_len, List.length_replicate]; omega) (bl_one _) (w.heap.size + 1) _ (Below.refl _ _) (Nat.le_refl _) ?_; intro w3 hB3 hb3; rw [HSP.out] at hB3; have HB3 := hB3; have HC3 := Lib.hid (chg_below HW2.out hb3 (by omega)); have HR3 := Lib.hid ((hb3.block w.heap.size (by omega)).trans (alloc_old (alloc_new w (.cells (bs (List.replicate 17 0)) 58)))); have hmn := Nat.le_refl l.length; rw [bl_len]; obtain ⟨v3, hv3⟩ : ∃ v3, w3.cell? ⟨w.heap.size + 1, l.length, none⟩ = some v3 := ⟨_, (cell_blk HB3.out (o := l.length)).trans (Array.getElem?_eq_getElem (by rw [List.size_toArray, bl_len, List.length_append, List.length_replicate]; omega))⟩; have f3 : w3.frozen? ⟨w.heap.size + 1, l.length, none⟩ = false := frozen_blk HB3.out; clear hB3 hb3) | (refine wpList_load_row rfl 58 (Operand.tmp 4) rfl (w.heap.size + 1) rfl 58 (bs (pieceL l)) (0, 0) _ ((set_blk _ HB3.out).trans (congrArg (fun c => some (Obj.cells c 58 (0, 0))) (bs_set (l ++ List.replicate (17 - l.length) 0) l.length 1))) Tryd.underlying58 rfl HIP.out ?_) | (refine wpList_store_row rfl 58 (Operand.tmp 2) (Operand.tmp 13) rfl w.heap.size (bs (pieceL l)) rfl rfl 58 (bs (List.replicate 17 0)) ((set_other _ (by simp)).trans HR3.out) HIP.out HSZ.out (bs_one _) ?_))
  refine bodyPost_ret (v := .tuple #[.agg (bs (pieceL l)), .int .i64 0]) (results_cell_tmp rfl _ _ w.heap.size _ _ 17 _ rfl (row_blk ((set_other _ (by simp)).trans HR3.out)) Tryd.underlying58 HIP.out _ rfl) rfl ⟨rfl, (HC3.out.put (.inr (by omega))).putRow (.inr (Nat.le_refl _))⟩
end Go.Proofs.YtebmbapaedlmiaaDoor
