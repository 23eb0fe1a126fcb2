/-
  The law's head: the document's examples (the walk).
-/
import Derived.Test.YtebmbapaedlmiaaDoorSCalm3
import Derived.Deep.QuietTactic
import Derived.BigQuiet
namespace Go.Proofs.YtebmbapaedlmiaaDoor
open Go.RowKit Ae
set_option linter.unusedVariables false
set_option maxRecDepth 100000 in
theorem ex_kb : Byt exK := by unfold Byt; decide +kernel
theorem ex_nb : Byt exN := by unfold Byt; decide +kernel
theorem ex_bb : Byt exB := by unfold Byt; decide +kernel
theorem ex_tb : Byt exT := by unfold Byt; decide +kernel
theorem enters_open : Enters Tryd.prog 11 := enters_of Tryd.func11 (by kernel_rfl) rfl
theorem rd_drew {w : World} {v : Value} {l : List Nat} (h : RdB w v l) (j : Nat) : RdB (w.drewN j) v l := by
  obtain ⟨h1, A, c, h2, h3, h4⟩ := h
  refine ⟨h1, A, c, h2, h3, fun h0 => ?_⟩
  obtain ⟨g, o, e, hg, hc⟩ := h4 h0
  exact ⟨g, o, e, by simpa using hg, fun j hj => by simpa using hc j hj⟩
/-- Seal at the example. -/
theorem ex_seal_any (v x : Value) (w : World) (hg : Glob w) (h : RdB w v exB) (hx : RdB w x exT) :
    Calls Tryd.prog 9 #[.agg (bs exK), .agg (bs exN), v, x] w (fun e w2 => ∃ g, w.heap.size ≤ g ∧ e = .returned (.slice (some ⟨g, 0, none⟩) 130 130) ∧ w2.heap[g]? = some (.cells (bs (exO ++ exW)) 5 (0, 0)) ∧ Chg Nowhere w w2) := by
  refine (seal_any exK exN rfl ex_kb rfl ex_nb v x exB exT w h hx ex_bb ex_tb (by decide) (by decide) hg).mono ?_
  rw [ex_seal]
  rintro e w2 ⟨_, rfl, ⟨g, hg, rfl, hh⟩, hC⟩
  exact ⟨g, hg, rfl, hh, hC⟩
theorem ex_short_any (v x : Value) (m : List Nat) (w : World) (hm : m.length < 16) (hx : RdB w x m) :
    Calls Tryd.prog 11 #[.agg (bs exK), .agg (bs exN), v, x] w (fun e w2 => ∃ u, e = .returned (.tuple #[u, .int .i64 3]) ∧ Chg Nowhere w w2) := by
  refine (open_short _ _ v x m w hx hm (bs exK) (bs exN) rfl rfl).mono ?_
  rintro e w2 ⟨u, he, -, hC⟩
  exact ⟨u, he, hC⟩
theorem ex_forged_any (v x : Value) (w : World) (hg : Glob w) (h : RdB w v exB) (hx : RdB w x (List.replicate 16 0)) :
    Calls Tryd.prog 11 #[.agg (bs exK), .agg (bs exN), v, x] w (fun e w2 => ∃ u, e = .returned (.tuple #[u, .int .i64 70]) ∧ Chg Nowhere w w2) := by
  refine (open_any exK exN rfl ex_kb rfl ex_nb v x exB (List.replicate 16 0) 0 w h hx ex_bb (Byt.replicate _ (by decide)) (by decide) rfl (by decide) hg).mono ?_
  rw [List.take_zero, List.drop_zero, if_neg ex_tag0, if_neg ex_tag0]
  rintro e w2 ⟨u, he, -, hC⟩
  exact ⟨u, he, hC⟩
set_option maxHeartbeats 2000000 in
set_option maxRecDepth 100000 in
theorem shown07_any (w : World) (hg : Glob w) :
    Calls Tryd.prog 8 #[] w (Gives w (.bool true)) := by
  have HG := Lib.hid hg
  clear hg
  go_enter Tryd.func8, Tryd.ntmps8
  have HI32 := Lib.hid (show InfoArr 23 (bs (List.replicate 32 0)).size by rw [bs_size]; exact info32)
  go_wp2_with (refine wpList_store_row rfl 23 (Operand.tmp 1) (Operand.tmp 11) rfl w.heap.size (bs (List.replicate 32 0)) rfl rfl 23 (bs (List.replicate 32 0)) (alloc_new _ _) HI32.out rfl (bs_one _) ?_)
  have HA0 := Lib.hid (show ((w.alloc (.cells (bs (List.replicate 32 0)) 23)).setRow w.heap.size (bs (List.replicate 32 0))).heap[w.heap.size]? = some (.cells (bs (fillTo 0 exK 0)) 23 (0, 0)) from row_blk (alloc_new _ _))
  have HC0 := Lib.hid (((Chg.refl Nowhere w).alloc (.cells (bs (List.replicate 32 0)) 23)).putRow (b := w.heap.size) (cs := bs (List.replicate 32 0)) (.inr (Nat.le_refl _)))
  go_loopw [2] (fun i wr => ∃ k : Nat, k ≤ 32 ∧ i = .int .i64 k ∧ wr.heap[w.heap.size]? = some (.cells (bs (fillTo 0 exK k)) 23 (0, 0)) ∧ Chg Nowhere w wr) (fun i _ => 32 - (intOf i).toNat)
  case atStart => exact ⟨0, by omega, rfl, HA0.out, HC0.out⟩
  case round =>
    obtain ⟨k, hk, rfl, hA, hC⟩ := hrel
    have HA := Lib.hid hA
    have HC := Lib.hid hC
    clear hA hC HA0 HC0
    by_cases hk2 : k < 32
    · obtain ⟨b, hb⟩ : ∃ b, b = 128 + k := ⟨_, rfl⟩
      have hm : (128 + (k : Int)) = (b : Int) := by omega
      have hb8 : b < 256 := by omega
      have HB := Lib.hid (show exK[k]? = some b by rw [hb]; simp [exK, hk2])
      have fo : wr.frozen? ⟨w.heap.size, k, none⟩ = false := frozen_blk HA.out
      obtain ⟨v0, hv0⟩ : ∃ v, wr.cell? ⟨w.heap.size, k, none⟩ = some v := ⟨_, (cell_blk HA.out (o := k)).trans (Array.getElem?_eq_getElem (by rw [bs_size, fill_len]; exact hk2))⟩
      clear hb
      go_wp2_with fail
      go_roundw
      case rel => exact ⟨k + 1, by omega, by go_num, (set_blk _ HA.out).trans (by rw [bs_set, fill_set 0 exK HB.out]), HC.out.put (.inr (Nat.le_refl _))⟩
      case measure => simp [intOf]; omega
    · obtain rfl : k = 32 := by omega
      have HK := Lib.hid (show wr.heap[w.heap.size]? = some (.cells (bs exK) 23 (0, 0)) from HA.out)
      clear HA
      have HI12 := Lib.hid (show InfoArr 25 (bs exN).size by rw [bs_size]; exact info12)
      have HIK := Lib.hid (show InfoArr 23 (bs exK).size by rw [bs_size]; exact info32)
      go_upto_region 7 with (refine wpList_store_row rfl 25 (Operand.tmp 3) (Operand.tmp 21) rfl wr.heap.size (bs exN) rfl rfl 25 (bs (List.replicate 12 0)) (alloc_new _ _) HI12.out rfl (bs_one _) ?_)
      simp only [Act.put]
      show Code.wp _ _ _ _ ((wr.alloc (.cells (bs (List.replicate 12 0)) 25)).setRow wr.heap.size (bs exN))
      have HN2 := Lib.hid (row_blk (cs := bs exN) (alloc_new wr (.cells (bs (List.replicate 12 0)) 25)))
      have HK2 := Lib.hid (row_other (b := wr.heap.size) (cs := bs exN) (alloc_old (o := .cells (bs (List.replicate 12 0)) 25) HK.out) (by have := lt_blk HK.out; omega))
      have HC2 := Lib.hid ((HC.out.alloc (.cells (bs (List.replicate 12 0)) 25)).putRow (b := wr.heap.size) (cs := bs exN) (.inr HC.out.size))
      generalize (wr.alloc (.cells (bs (List.replicate 12 0)) 25)).setRow wr.heap.size (bs exN) = w2 at HN2 HK2 HC2 ⊢
      go_upto_region 8 with fail
      show Code.wp _ _ _ _ (w2.alloc (.cells (bs exB) 5))
      have HX3 := Lib.hid (alloc_new w2 (.cells (bs exB) 5))
      have HN3 := Lib.hid (alloc_old (o := .cells (bs exB) 5) HN2.out)
      have HK3 := Lib.hid (alloc_old (o := .cells (bs exB) 5) HK2.out)
      have HC3 := Lib.hid (HC2.out.alloc (.cells (bs exB) 5))
      generalize w2.alloc (.cells (bs exB) 5) = w3 at HX3 HN3 HK3 HC3 ⊢
      generalize hg2 : wr.heap.size = g2
      rw [hg2] at HN3
      generalize hg3 : w2.heap.size = g3
      rw [hg3] at HX3
      clear hg2 hg3 HN2 HK2 HC2 HC HK
      have HX4 := Lib.hid (alloc_new w3 (.cells (bs exT) 5 ((bs exT).size, (bs exT).size + 1)))
      have HX3' := Lib.hid (alloc_old (o := .cells (bs exT) 5 ((bs exT).size, (bs exT).size + 1)) HX3.out)
      have HN4 := Lib.hid (alloc_old (o := .cells (bs exT) 5 ((bs exT).size, (bs exT).size + 1)) HN3.out)
      have HK4 := Lib.hid (alloc_old (o := .cells (bs exT) 5 ((bs exT).size, (bs exT).size + 1)) HK3.out)
      have HC4 := Lib.hid (HC3.out.alloc (.cells (bs exT) 5 ((bs exT).size, (bs exT).size + 1)))
      have kc := Lib.run_convert_bytes_const (P := Tryd.prog) w3 26 5 (bs exT) 114 114 Tryd.underlying26 undU8
      go_upto_region 9 with (first
        | (refine wpList_build_bytes rfl 114 _ rfl exT rfl (by decide) (by decide) (by kernel_rfl) ?_)
        | (refine wpList_load_row rfl 23 (Operand.tmp 1) rfl w.heap.size rfl 23 _ (0, 0) _ HK3.out Tryd.underlying23 rfl HIK.out ?_)
        | (refine wpList_load_row rfl 25 (Operand.tmp 3) rfl g2 rfl 25 _ (0, 0) _ HN3.out Tryd.underlying25 rfl HI12.out ?_)
        | (go_at_call 9; go_loud (refine (ex_seal_any _ _ (w3.alloc (.cells (bs exT) 5 ((bs exT).size, (bs exT).size + 1))) (HG.out.chg HC4.out) (rd_blk HX3'.out rfl) (rd_blk2 HX4.out rfl)).mono ?_); rintro e w5 ⟨g5, hge5, rfl, hh5, hC5⟩; have HS5 := Lib.hid hh5; have HX5 := Lib.hid (hC5.same HX3'.out); have HN5 := Lib.hid (hC5.same HN4.out); have HK5 := Lib.hid (hC5.same HK4.out); have HC5 := Lib.hid (HC4.out.then_none hC5); clear hge5 hh5 hC5))
      clear HX4 HX3' HN4 HK4 HC4 HX3 HN3 HK3 HC3
      go_upto_region 10 with fail
      show Code.wp _ _ _ _ (w5.alloc (.cells (bs exW) 5))
      have HW6 := Lib.hid (alloc_new w5 (.cells (bs exW) 5))
      have HS6 := Lib.hid (alloc_old (o := .cells (bs exW) 5) HS5.out)
      have HX6 := Lib.hid (alloc_old (o := .cells (bs exW) 5) HX5.out)
      have HN6 := Lib.hid (alloc_old (o := .cells (bs exW) 5) HN5.out)
      have HK6 := Lib.hid (alloc_old (o := .cells (bs exW) 5) HK5.out)
      have HC6 := Lib.hid (HC5.out.alloc (.cells (bs exW) 5))
      generalize w5.alloc (.cells (bs exW) 5) = w6 at HW6 HS6 HX6 HN6 HK6 HC6 ⊢
      generalize hg6 : w5.heap.size = g6
      rw [hg6] at HW6
      clear hg6 HS5 HX5 HN5 HK5 HC5
      have hu1 := Tryd.underlying23
      have hu2 := Tryd.underlying25
      have hi1 : (Tryd.prog.info? 23).map (·.size) = some (bl exK).length := by have := HIK.out; rwa [InfoArr, bs_size, ← bl_len] at this
      have hi2 : (Tryd.prog.info? 25).map (·.size) = some (bl exN).length := by have := HI12.out; rwa [InfoArr, bs_size, ← bl_len] at this
      refine wp_region_calm0 10 [31, 32, 33, 34, 35, 30, 36, 37, 7, 8] [] [⟨[31], fun v _ => v = [.agg (bs exK)]⟩, ⟨[32], fun v _ => v = [.agg (bs exN)]⟩, ⟨[33], fun v _ => v = [.slice (some ⟨g3, 0, none⟩) 12 12]⟩, ⟨[34], fun v w2 => ∃ b, v = [.slice (some ⟨b, 0, none⟩) 15 15] ∧ w2.heap[b]? = some (.cells (bs (List.replicate 15 0)) 5 (0, 0))⟩, ⟨[35], fun v _ => ∃ u, v = [.tuple #[u, .int .i64 3]]⟩, ⟨[30], fun v _ => ∃ u, v = [.tuple #[u, .int .i64 3]]⟩, ⟨[36], fun _ _ => True⟩, ⟨[37], fun v _ => v = [.int .i64 3]⟩, ⟨[7], fun _ _ => True⟩, ⟨[8], fun v _ => v = [.int .i64 3]⟩] (Chg Nowhere) (by kernel_rfl) (by kernel_rfl) (by kernel_rfl) (Chg.refl _) Chg.trans' Chg.size (by decide) (Chg.refl Nowhere _).drew ?_ ?_ ?_
      · exact ⟨fun _ _ _ _ h => h, fun _ _ _ _ h => h, fun _ _ _ _ h => h, fun _ _ _ hR ⟨b, h1, h2⟩ => ⟨b, h1, hR.same h2⟩, fun _ _ _ _ h => h, fun _ _ _ _ h => h, fun _ _ _ _ h => h, fun _ _ _ _ h => h, fun _ _ _ _ h => h, fun _ _ _ _ h => h, trivial⟩
      · simp only [List.take_succ_cons, List.take_zero]
        refine Steps.cons ?_ (Steps.cons ?_ (Steps.cons ?_ (Steps.cons ?_ (Steps.cons ?_ (Steps.cons ?_ (Steps.cons ?_ (Steps.cons ?_ (Steps.cons ?_ (Steps.cons ?_ Steps.nil)))))))))
        · intro x w' hR hd K Q' hK
          exact wp_load_mid 23 (Operand.tmp 1) rfl w.heap.size 0 rfl (bl exK) _ (rangeAt_chg (rangeAt_blk HK6.out) hR) hu1 rfl hi1 (hK _ _ (Chg.refl _ _) rfl (fun d h1 h2 => by simp at h2))
        · intro x w' hR hd K Q' hK
          exact wp_load_mid 25 (Operand.tmp 3) rfl g2 0 rfl (bl exN) _ (rangeAt_chg (rangeAt_blk HN6.out) hR) hu2 rfl hi2 (hK _ _ (Chg.refl _ _) rfl (fun d h1 h2 => by simp at h2))
        · intro x w' hR hd K Q' hK
          exact wp_move rfl rfl (hK _ _ (Chg.refl _ _) rfl (fun d h1 h2 => by simp at h2))
        · intro x w' hR hd K Q' hK
          exact wp_make_slice rfl rfl rfl (make_b 15 (by decide) w') (hK _ _ ((Chg.refl _ _).alloc _) ⟨_, rfl, alloc_new _ _⟩ (fun d h1 h2 => by simp at h2))
        · intro x w' hR hd K Q' hK
          obtain ⟨b, hb1, hb2⟩ := hd 3 (by kernel_rfl)
          exact wp_call_fn rfl enters_open [.agg (bs exK), .agg (bs exN), .slice (some ⟨g3, 0, none⟩) 12 12, .slice (some ⟨b, 0, none⟩) 15 15] (four_slots (hd 0 (by kernel_rfl)) (hd 1 (by kernel_rfl)) (hd 2 (by kernel_rfl)) hb1) ((ex_short_any _ _ (List.replicate 15 0) w' (by decide) (rd_blk hb2 rfl)).mono fun e w1 ⟨u, he, hC1⟩ => ⟨_, he, hK _ _ hC1 ⟨u, rfl⟩ (fun d h1 h2 => by simp at h2)⟩)
        · intro x w' hR hd K Q' hK
          obtain ⟨u, hu⟩ := hd 4 (by kernel_rfl)
          exact wp_move rfl (List.head_eq_of_cons_eq hu) (hK _ _ (Chg.refl _ _) ⟨u, rfl⟩ (fun d h1 h2 => by simp at h2))
        · intro x w' hR hd K Q' hK
          obtain ⟨u, hu⟩ := hd 5 (by kernel_rfl)
          exact wp_extract_at rfl (List.head_eq_of_cons_eq hu) rfl (hK _ _ (Chg.refl _ _) trivial (fun d h1 h2 => by simp at h2))
        · intro x w' hR hd K Q' hK
          obtain ⟨u, hu⟩ := hd 5 (by kernel_rfl)
          exact wp_extract_at rfl (List.head_eq_of_cons_eq hu) rfl (hK _ _ (Chg.refl _ _) rfl (fun d h1 h2 => by simp at h2))
        · intro x w' hR hd K Q' hK
          exact wp_assign rfl rfl (hK _ _ (Chg.refl _ _) trivial (fun d h1 h2 => by simp at h2))
        · intro x w' hR hd K Q' hK
          exact wp_assign rfl (List.head_eq_of_cons_eq (hd 7 (by kernel_rfl))) (hK _ _ (Chg.refl _ _) rfl (fun d h1 h2 => by simp at h2))
      · intro x w' hR hV hap
        have e8 : x 8 = .int .i64 3 := List.head_eq_of_cons_eq (hV 9 (by decide))
        have HW7 := Lib.hid (hR.same HW6.out)
        have HS7 := Lib.hid (hR.same HS6.out)
        have HX7 := Lib.hid (hR.same HX6.out)
        have HN7 := Lib.hid (hR.same HN6.out)
        have HK7 := Lib.hid (hR.same HK6.out)
        have HC7 := Lib.hid (HC6.out.then_none hR)
        clear hR hV hap
        set_option linter.unusedSimpArgs false in
        simp only [puts, putsL, List.contains_cons, List.contains_nil, Nat.reduceBEq, Bool.or_true, Bool.true_or, Bool.or_false, Bool.false_eq_true, if_true, if_false, Nat.reduceAdd, List.drop_succ_cons, List.drop_zero, e8]
        clear e8
        clear HW6 HS6 HX6 HN6 HK6 HC6
        go_wp2_with fail
        refine wp_region_calm0 10 [39, 40, 41, 42, 43, 38, 44, 45, 9, 10] [] [⟨[39], fun v _ => v = [.agg (bs exK)]⟩, ⟨[40], fun v _ => v = [.agg (bs exN)]⟩, ⟨[41], fun v _ => v = [.slice (some ⟨g3, 0, none⟩) 12 12]⟩, ⟨[42], fun v w2 => ∃ b, v = [.slice (some ⟨b, 0, none⟩) 16 16] ∧ w2.heap[b]? = some (.cells (bs (List.replicate 16 0)) 5 (0, 0))⟩, ⟨[43], fun v _ => ∃ u, v = [.tuple #[u, .int .i64 70]]⟩, ⟨[38], fun v _ => ∃ u, v = [.tuple #[u, .int .i64 70]]⟩, ⟨[44], fun _ _ => True⟩, ⟨[45], fun v _ => v = [.int .i64 70]⟩, ⟨[9], fun _ _ => True⟩, ⟨[10], fun v _ => v = [.int .i64 70]⟩] (Chg Nowhere) (by kernel_rfl) (by kernel_rfl) (by kernel_rfl) (Chg.refl _) Chg.trans' Chg.size (by decide) (Chg.refl Nowhere _).drew ?_ ?_ ?_
        · exact ⟨fun _ _ _ _ h => h, fun _ _ _ _ h => h, fun _ _ _ _ h => h, fun _ _ _ hR ⟨b, h1, h2⟩ => ⟨b, h1, hR.same h2⟩, fun _ _ _ _ h => h, fun _ _ _ _ h => h, fun _ _ _ _ h => h, fun _ _ _ _ h => h, fun _ _ _ _ h => h, fun _ _ _ _ h => h, trivial⟩
        · simp only [List.take_succ_cons, List.take_zero]
          refine Steps.cons ?_ (Steps.cons ?_ (Steps.cons ?_ (Steps.cons ?_ (Steps.cons ?_ (Steps.cons ?_ (Steps.cons ?_ (Steps.cons ?_ (Steps.cons ?_ (Steps.cons ?_ Steps.nil)))))))))
          · intro x w' hR hd K Q' hK
            exact wp_load_mid 23 (Operand.tmp 1) rfl w.heap.size 0 rfl (bl exK) _ (rangeAt_chg (rangeAt_blk HK7.out) hR) hu1 rfl hi1 (hK _ _ (Chg.refl _ _) rfl (fun d h1 h2 => by simp at h2))
          · intro x w' hR hd K Q' hK
            exact wp_load_mid 25 (Operand.tmp 3) rfl g2 0 rfl (bl exN) _ (rangeAt_chg (rangeAt_blk HN7.out) hR) hu2 rfl hi2 (hK _ _ (Chg.refl _ _) rfl (fun d h1 h2 => by simp at h2))
          · intro x w' hR hd K Q' hK
            exact wp_move rfl rfl (hK _ _ (Chg.refl _ _) rfl (fun d h1 h2 => by simp at h2))
          · intro x w' hR hd K Q' hK
            exact wp_make_slice rfl rfl rfl (make_b 16 (by decide) w') (hK _ _ ((Chg.refl _ _).alloc _) ⟨_, rfl, alloc_new _ _⟩ (fun d h1 h2 => by simp at h2))
          · intro x w' hR hd K Q' hK
            obtain ⟨b, hb1, hb2⟩ := hd 3 (by kernel_rfl)
            exact wp_call_fn rfl enters_open [.agg (bs exK), .agg (bs exN), .slice (some ⟨g3, 0, none⟩) 12 12, .slice (some ⟨b, 0, none⟩) 16 16] (four_slots (hd 0 (by kernel_rfl)) (hd 1 (by kernel_rfl)) (hd 2 (by kernel_rfl)) hb1) ((ex_forged_any _ _ w' (HG.out.chg (HC7.out.then_none hR)) (rd_blk (hR.same HX7.out) rfl) (rd_blk hb2 rfl)).mono fun e w1 ⟨u, he, hC1⟩ => ⟨_, he, hK _ _ hC1 ⟨u, rfl⟩ (fun d h1 h2 => by simp at h2)⟩)
          · intro x w' hR hd K Q' hK
            obtain ⟨u, hu⟩ := hd 4 (by kernel_rfl)
            exact wp_move rfl (List.head_eq_of_cons_eq hu) (hK _ _ (Chg.refl _ _) ⟨u, rfl⟩ (fun d h1 h2 => by simp at h2))
          · intro x w' hR hd K Q' hK
            obtain ⟨u, hu⟩ := hd 5 (by kernel_rfl)
            exact wp_extract_at rfl (List.head_eq_of_cons_eq hu) rfl (hK _ _ (Chg.refl _ _) trivial (fun d h1 h2 => by simp at h2))
          · intro x w' hR hd K Q' hK
            obtain ⟨u, hu⟩ := hd 5 (by kernel_rfl)
            exact wp_extract_at rfl (List.head_eq_of_cons_eq hu) rfl (hK _ _ (Chg.refl _ _) rfl (fun d h1 h2 => by simp at h2))
          · intro x w' hR hd K Q' hK
            exact wp_assign rfl rfl (hK _ _ (Chg.refl _ _) trivial (fun d h1 h2 => by simp at h2))
          · intro x w' hR hd K Q' hK
            exact wp_assign rfl (List.head_eq_of_cons_eq (hd 7 (by kernel_rfl))) (hK _ _ (Chg.refl _ _) rfl (fun d h1 h2 => by simp at h2))
        · intro x w' hR hV hap
          have e10 : x 10 = .int .i64 70 := List.head_eq_of_cons_eq (hV 9 (by decide))
          have HW8 := Lib.hid (hR.same HW7.out)
          have HS8 := Lib.hid (hR.same HS7.out)
          have HX8 := Lib.hid (hR.same HX7.out)
          have HN8 := Lib.hid (hR.same HN7.out)
          have HK8 := Lib.hid (hR.same HK7.out)
          have HC8 := Lib.hid (HC7.out.then_none hR)
          clear hR hV hap
          set_option linter.unusedSimpArgs false in
          simp only [puts, putsL, List.contains_cons, List.contains_nil, Nat.reduceBEq, Bool.or_true, Bool.true_or, Bool.or_false, Bool.false_eq_true, if_true, if_false, Nat.reduceAdd, List.drop_succ_cons, List.drop_zero, e10]
          clear e10
          clear HW7 HS7 HX7 HN7 HK7 HC7
          go_wp2_with fail
          have cS0 : w'.cell? ⟨g5, 0, none⟩ = some (.int .u8 211) := (cell_blk HS8.out (o := 0)).trans rfl
          have cS1 : w'.cell? ⟨g5, 1, none⟩ = some (.int .u8 26) := (cell_blk HS8.out (o := 1)).trans rfl
          obtain ⟨SW, hSW⟩ : ∃ s, s = sb exW := ⟨_, rfl⟩
          have cv1 : ∀ j, (convert 26 9 (.slice (some ⟨g5, 114, none⟩) 16 16)).run Tryd.prog (w'.drewN j) = .ok (.string SW) (w'.drewN j) := fun j => by
            rw [hSW]
            refine conv_rd ?_
            have h1 := ((rd_blk HS8.out (n := 130) rfl).same (Chg.refl Nowhere w')).cut (lo := 114) (hi := 130) (m := 130) (by decide) (by decide) (by decide) (by decide)
            exact rd_drew h1 j
          have cv2 : ∀ j, (convert 26 9 (.slice (some ⟨g6, 0, none⟩) 16 16)).run Tryd.prog (w'.drewN j) = .ok (.string SW) (w'.drewN j) := fun j => by
            rw [hSW]
            exact conv_rd (rd_drew (rd_blk HW8.out rfl) j)
          clear hSW
          have HCE := Lib.hid (show ∀ j, Chg Nowhere w (w'.drewN j) from fun j => HC8.out.drewN j)
          go_quiet (fail)
          go_wp2_with fail
          go_ret
          exact ⟨rfl, HCE.out _⟩
end Go.Proofs.YtebmbapaedlmiaaDoor
