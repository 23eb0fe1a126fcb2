/-
  Package clamp: Canon, Add (the walks).
-/
import Derived.Test.YtebmbapaedlmiaaDoorSAeG
import Derived.Test.YtebmbapaedlmiaaDoorSCalm
import Derived.Deep.MidRow
namespace Go.Proofs.YtebmbapaedlmiaaDoor
open Go.RowKit Ae
set_option linter.unusedVariables false

theorem rangeAt_blk {w : World} {b : Nat} {cs : List Value} {t : Nat} (h : w.heap[b]? = some (.cells cs.toArray t (0, 0))) : w.rangeAt b 0 cs := fun j v hv => by
  rw [Nat.zero_add, cell_blk h]; simpa using hv
theorem rangeAt_chg {w w' : World} {b o : Nat} {cs : List Value} (h : w.rangeAt b o cs) (hc : Chg Nowhere w w') : w'.rangeAt b o cs := fun j v hv =>
  (hc.cell (p := ⟨b, o + j, none⟩) (block_lt_of_cell (h j v hv)) (not_nowhere _)).trans (h j v hv)
theorem keep2_chg {w w' : World} {b c : Nat} {l m : List Value} (h : w.rangeAt b 0 l ∧ w.rangeAt c 0 m) (hc : Chg Nowhere w w') : w'.rangeAt b 0 l ∧ w'.rangeAt c 0 m := ⟨rangeAt_chg h.1 hc, rangeAt_chg h.2 hc⟩
theorem keep2_alloc {w : World} {b c : Nat} {l m : List Value} {o : Obj} (h : w.rangeAt b 0 l ∧ w.rangeAt c 0 m) : (w.alloc o).rangeAt b 0 l ∧ (w.alloc o).rangeAt c 0 m := keep2_chg h ((Chg.refl _ _).alloc _)
theorem keep2_drew {w : World} {b c : Nat} {l m : List Value} (h : w.rangeAt b 0 l ∧ w.rangeAt c 0 m) : w.drew.rangeAt b 0 l ∧ w.drew.rangeAt c 0 m := keep2_chg h (Chg.refl _ _).drew
theorem val17_lt {l : List Nat} (hb : Byt l) (hl : l.length = 17) : val l < 87112285931760246646623899502532662132736 := by
  have := val_lt hb
  rw [hl] at this
  exact this
theorem words_lt {x : Nat} (h : x < 87112285931760246646623899502532662132736) : x < 6277101735386680763835789423207666416102355444464034512896 := by omega
theorem enters_load : Enters Tryd.prog 43 := enters_of Tryd.func43 (by kernel_rfl) rfl
set_option maxHeartbeats 1600000 in
set_option maxRecDepth 100000 in
theorem canonB_any (l : List Nat) (hl : l.length = 17) (hb : Byt l) (w : World) (hg : Glob w) :
    Calls Tryd.prog 48 #[.agg (bs l)] w (Gives w (.agg (bs (bytesOf 17 (val l % q))))) := by
  have HI := Lib.hid (show InfoArr 58 (bs l).size by rw [bs_size, hl]; exact info17)
  have HIO := Lib.hid (show InfoArr 58 (bs (bytesOf 17 (val l % q))).size by rw [bs_size, bytesOf_len]; exact info17)
  have HL := Lib.hid hl
  have HB := Lib.hid hb
  have HG := Lib.hid hg
  clear hl hb hg
  go_enter Tryd.func48, Tryd.ntmps48
  go_wp2_with (first | (refine wpList_load_row rfl 58 (Operand.tmp 1) rfl w.heap.size rfl 58 (bs l) (0, 0) _ (alloc_old (alloc_new _ _)) Tryd.underlying58 rfl HI.out ?_) | (go_at_call 43; refine (load_any l HL.out HB.out _).mono ?_; rintro e w1 ⟨rfl, hC1⟩; have R1 := Lib.hid (hC1.same (new_1 w _ (.cells (bs (List.replicate 17 0)) 58))); have HC1 := Lib.hid (Chg.none_then (((Chg.refl Nowhere w).alloc _).alloc _) hC1); clear hC1) | (go_at_call 47; refine (canon_any (val l) (words_lt (val17_lt HB.out HL.out)) _ (HG.out.chg HC1.out)).mono ?_; rintro e w2 ⟨rfl, hC2⟩; have R2 := Lib.hid (hC2.same R1.out); have HC2 := Lib.hid (HC1.out.then_none hC2); clear hC2) | (go_at_call 46; refine (store_any _ _).mono ?_; rintro e w3 ⟨rfl, hC3⟩; have R3 := Lib.hid (hC3.same R2.out); have HC3 := Lib.hid (HC2.out.then_none hC3); clear hC3) | (refine wpList_store_row rfl 58 (Operand.tmp 2) (Operand.tmp 6) rfl (w.heap.size + 1) _ rfl rfl 58 _ R3.out HIO.out (by rw [bs_size, bs_size, bytesOf_len]; rfl) (bs_one _) ?_))
  refine bodyPost_ret (results_cell_row rfl _ _ (w.heap.size + 1) _ _ (0, 0) _ rfl (row_blk R3.out) Tryd.underlying58 rfl HIO.out) rfl ⟨rfl, HC3.out.putRow (.inr (by omega))⟩

end Go.Proofs.YtebmbapaedlmiaaDoor
