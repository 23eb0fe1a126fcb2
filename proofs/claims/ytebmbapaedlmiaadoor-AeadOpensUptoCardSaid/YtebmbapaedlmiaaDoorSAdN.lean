/-
  The document's numbers: Trim, Block (the walks).
-/
import Derived.Test.YtebmbapaedlmiaaDoorSAdL
import Derived.Test.YtebmbapaedlmiaaDoorSAeL2
namespace Go.Proofs.YtebmbapaedlmiaaDoor
open Go.RowKit Ae
set_option linter.unusedVariables false

theorem cut_lh (w : World) (A : Option Addr) (n c l h : Nat) (h1 : l ≤ h) (h2 : h ≤ c) : (Instr.sliceAt 26 (.slice A n c) (some (.int .i64 (l : Int))) (some (.int .i64 (h : Int))) none).run Tryd.prog w = .ok (cutB A l h c) w := by
  rw [run_sliceAt_slice w _ _ _ _ _ undB, run_slice_lh w _ _ _ _ undB .i64 .i64 (l : Int) (h : Int) (by omega) (by omega) (by omega), sizeB]
  simp only [Result.andThen, Int.toNat_natCast, cut_eq]
def trm (i b : Nat) : Nat := if i % 4 = 3 then b &&& 15 else if i % 4 = 0 ∧ 0 < i then b &&& 252 else b
def trmK (l : List Nat) (k : Nat) : List Nat := (List.range 16).map fun i => if i < k then trm i (l.getD i 0) else l.getD i 0
theorem trmK_len (l : List Nat) (k : Nat) : (trmK l k).length = 16 := by simp [trmK]
theorem trmK_get (l : List Nat) (k : Nat) {i : Nat} (hi : i < 16) : (trmK l k)[i]? = some (if i < k then trm i (l.getD i 0) else l.getD i 0) := by simp [trmK, hi]
theorem trmK_zero {l : List Nat} (h : l.length = 16) : trmK l 0 = l := by
  apply List.ext_getElem?
  intro i
  by_cases hi : i < 16
  · rw [trmK_get l 0 hi, if_neg (by omega)]; exact (some_getD (by omega)).symm
  · rw [List.getElem?_eq_none (by rw [trmK_len]; omega), List.getElem?_eq_none (by omega)]
theorem trmK_step (l : List Nat) {k : Nat} (hk : k < 16) : (trmK l k).set k (trm k (l.getD k 0)) = trmK l (k + 1) := by
  apply List.ext_getElem?
  intro i
  by_cases hi : i < 16
  · rw [trmK_get l (k + 1) hi, List.getElem?_set]
    by_cases h : k = i
    · subst h
      rw [if_pos rfl, if_pos (by rw [trmK_len]; exact hi), if_pos (by omega)]
    · rw [if_neg h, trmK_get l k hi]
      congr 1
      repeat' split
      all_goals first | rfl | omega
  · rw [List.getElem?_eq_none (by rw [List.length_set, trmK_len]; omega), List.getElem?_eq_none (by rw [trmK_len]; omega)]
theorem trmK_same (l : List Nat) {k : Nat} (hk : k < 16) (h : trm k (l.getD k 0) = l.getD k 0) : trmK l k = trmK l (k + 1) := by
  rw [← trmK_step l hk, h]
  apply List.ext_getElem?
  intro i
  by_cases e : k = i
  · subst e
    rw [List.getElem?_set, if_pos rfl, if_pos (by rw [trmK_len]; exact hk), trmK_get l k hk, if_neg (by omega)]
  · rw [List.getElem?_set_ne e]
theorem trmK_done {l : List Nat} (h : l.length = 16) : trmK l 16 = trimL l := by
  match l, h with
  | [a, b, c, d, e, f, g, h, i, j, k, l, m, n, o, p], _ => rfl
set_option maxHeartbeats 4000000 in
set_option maxRecDepth 100000 in
theorem rtrim_any (l : List Nat) (hl : l.length = 16) (hb : Byt l) (w : World) :
    Calls Tryd.prog 35 #[.agg (bs l)] w (Gives w (.agg (bs (trimL l)))) := by
  obtain ⟨M, hM⟩ : ∃ M : Nat → List Nat, M = trmK l := ⟨_, rfl⟩
  have HM0 := Lib.hid (show M 0 = l by rw [hM]; exact trmK_zero hl)
  have HML := Lib.hid (show ∀ k, (M k).length = 16 from fun k => by rw [hM]; exact trmK_len _ _)
  have HMG := Lib.hid (show ∀ k, k < 16 → (M k)[k]? = some (l.getD k 0) from fun k hk => by rw [hM, trmK_get l k hk, if_neg (by omega)])
  have HMS := Lib.hid (show ∀ k, k < 16 → (M k).set k (trm k (l.getD k 0)) = M (k + 1) from fun k hk => by rw [hM]; exact trmK_step l hk)
  have HME := Lib.hid (show ∀ k, k < 16 → trm k (l.getD k 0) = l.getD k 0 → M k = M (k + 1) from fun k hk h => by rw [hM]; exact trmK_same l hk h)
  have HMD := Lib.hid (show M 16 = trimL l by rw [hM]; exact trmK_done hl)
  have HB := Lib.hid hb
  rw [← HMD.out]
  clear hM hl hb HMD
  have HX0 := Lib.hid (show ((w.alloc (.cells (bs l) 36)).alloc (.cells (bs (List.replicate 16 0)) 36)).heap[w.heap.size]? = some (.cells (bs (M 0)) 36 (0, 0)) by rw [HM0.out]; exact alloc_old (alloc_new _ _))
  have HR0 := Lib.hid (new_1 w (.cells (bs l) 36) (.cells (bs (List.replicate 16 0)) 36))
  have HC0 := Lib.hid (((Chg.refl Nowhere w).alloc (.cells (bs l) 36)).alloc (.cells (bs (List.replicate 16 0)) 36))
  go_enter Tryd.func35, Tryd.ntmps35
  go_wp2_with fail
  go_loopw [3] (fun i wr => ∃ k : Nat, k ≤ 16 ∧ i = .int .i64 (k : Int) ∧ wr.heap[w.heap.size]? = some (.cells (bs (M k)) 36 (0, 0)) ∧ wr.heap[w.heap.size + 1]? = some (.cells (bs (List.replicate 16 0)) 36 (0, 0)) ∧ Chg Nowhere w wr) (fun i _ => 16 - (intOf i).toNat)
  case atStart => exact ⟨0, by omega, rfl, HX0.out, HR0.out, HC0.out⟩
  case round =>
    obtain ⟨k, hk, rfl, hX, hR, hC⟩ := hrel
    clear HX0 HR0 HC0
    have HX := Lib.hid hX
    have HR := Lib.hid hR
    have HC := Lib.hid hC
    clear hX hR hC
    by_cases hk2 : k < 16
    · have hdk : decide ((k : Int) < 16) = true := decide_eq_true (by omega)
      obtain ⟨b, hbk⟩ : ∃ b, b = l.getD k 0 := ⟨_, rfl⟩
      have hb8 : b < 256 := by rw [hbk]; exact HB.out.at k
      have cx : wr.cell? ⟨w.heap.size, k, none⟩ = some (.int .u8 (b : Int)) := (cell_blk HX.out (o := k)).trans (bs_get (by rw [hbk]; exact HMG.out k hk2))
      have fx : wr.frozen? ⟨w.heap.size, k, none⟩ = false := frozen_blk HX.out
      rcases (by omega : k % 4 = 3 ∨ (k % 4 = 0 ∧ 0 < k) ∨ k = 0 ∨ k % 4 = 1 ∨ k % 4 = 2) with h | h | h | h | h
      · have i1 : (k : Int) % 4 = 3 := by omega
        have HN := Lib.hid (show (M k).set k (b &&& 15) = M (k + 1) by rw [← HMS.out k hk2, ← hbk]; unfold trm; rw [if_pos (by omega)])
        have E2 : (b : Int) % 16 = ((b &&& 15 : Nat) : Int) := by rw [nat_mask4]; simp
        clear hbk h
        go_wp2_with fail
        go_roundw
        case rel => exact ⟨k + 1, by omega, by go_num, (set_blk _ HX.out).trans (by rw [bs_set, HN.out]), (set_other _ (by simp)).trans HR.out, HC.out.put (.inr (Nat.le_refl _))⟩
        case measure => simp [intOf]; omega
      · have i1 : (k : Int) % 4 = 0 := by omega
        have dp : 0 < k := h.2
        have dp2 : decide (0 < k) = true := decide_eq_true h.2
        have HN := Lib.hid (show (M k).set k (b &&& 252) = M (k + 1) by rw [← HMS.out k hk2, ← hbk]; unfold trm; rw [if_neg (by omega), if_pos (by omega)])
        have E2 : bits .and .u8 (b : Int) 252 = ((b &&& 252 : Nat) : Int) := u8_and_nat b 252 hb8 (by decide)
        clear hbk h
        go_wp2_with fail
        go_roundw
        case rel => exact ⟨k + 1, by omega, by go_num, (set_blk _ HX.out).trans (by rw [bs_set, HN.out]), (set_other _ (by simp)).trans HR.out, HC.out.put (.inr (Nat.le_refl _))⟩
        case measure => simp [intOf]; omega
      · have HN := Lib.hid (show M k = M (k + 1) from HME.out k hk2 (by unfold trm; rw [if_neg (by omega), if_neg (by omega)]))
        subst h
        clear hbk
        go_wp2_with fail
        go_roundw
        case rel => exact ⟨0 + 1, by omega, rfl, (by rw [← HN.out]; exact HX.out), HR.out, HC.out⟩
        case measure => simp [intOf]
      · have i1 : (k : Int) % 4 = 1 := by omega
        have HN := Lib.hid (show M k = M (k + 1) from HME.out k hk2 (by unfold trm; rw [if_neg (by omega), if_neg (by omega)]))
        clear hbk h
        go_wp2_with fail
        go_roundw
        case rel => exact ⟨k + 1, by omega, by go_num, (by rw [← HN.out]; exact HX.out), HR.out, HC.out⟩
        case measure => simp [intOf]; omega
      · have i1 : (k : Int) % 4 = 2 := by omega
        have HN := Lib.hid (show M k = M (k + 1) from HME.out k hk2 (by unfold trm; rw [if_neg (by omega), if_neg (by omega)]))
        clear hbk h
        go_wp2_with fail
        go_roundw
        case rel => exact ⟨k + 1, by omega, by go_num, (by rw [← HN.out]; exact HX.out), HR.out, HC.out⟩
        case measure => simp [intOf]; omega
    · obtain rfl : k = 16 := by omega
      have HIT := Lib.hid (show InfoArr 36 (bs (M 16)).size by rw [bs_size, HML.out]; exact info16)
      go_wp2_with (first | (refine wpList_load_row rfl 36 (Operand.tmp 1) rfl w.heap.size rfl 36 _ (0, 0) _ HX.out Tryd.underlying36 rfl HIT.out ?_) | (refine wpList_store_row rfl 36 (Operand.tmp 2) (Operand.tmp 30) rfl (w.heap.size + 1) _ rfl rfl 36 _ HR.out HIT.out (by rw [bs_size, bs_size, HML.out]; rfl) (bs_one _) ?_))
      refine bodyPost_ret (results_cell_row rfl _ _ (w.heap.size + 1) _ _ (0, 0) _ rfl (row_blk HR.out) Tryd.underlying36 rfl HIT.out) rfl ⟨rfl, HC.out.putRow (.inr (by omega))⟩
set_option maxHeartbeats 4000000 in
set_option maxRecDepth 100000 in
theorem rpiece_any (x : Value) (l : List Nat) (w : World) (h : RdB w x l) (hl : l.length ≤ 16) (hb : Byt l) :
    Calls Tryd.prog 36 #[x] w (Gives w (.tuple #[.agg (bs (pieceL l)), .int .i64 0])) := by
  obtain ⟨n, hnn⟩ : ∃ n, n = l.length := ⟨_, rfl⟩
  obtain ⟨P, hP⟩ : ∃ P, P = l ++ List.replicate (17 - n) 0 := ⟨_, rfl⟩
  have HPL := Lib.hid (show P.length = 17 by rw [hP, List.length_append, List.length_replicate]; omega)
  have HPG := Lib.hid (show ∀ k, k < n → P[k]? = some (l.getD k 0) from fun k hk => by rw [hP, List.getElem?_append_left (by omega)]; exact some_getD (by omega))
  have HPS := Lib.hid (show (fillTo 0 P n).set n 1 = pieceL l by
    have h1 : P.take n = l := by rw [hP, hnn]; exact List.take_left
    have e : fillTo 0 P n = P := by
      show P.take n ++ List.replicate (P.length - n) 0 = P
      rw [h1, HPL.out, hP]
    rw [e, hP, hnn]
    rfl)
  have HB := Lib.hid hb
  have HH := Lib.hid h
  have HNN := Lib.hid hnn
  have hn16 : n ≤ 16 := by omega
  obtain ⟨-, A, c, rfl, hnc, -⟩ := h
  rw [← hnn] at HH hnc ⊢
  clear hP hb hl hnn
  have hlen : decide ((16 : Int) < (n : Int)) = false := decide_eq_false (by omega)
  have HI17 := Lib.hid (info17b (List.replicate 17 0) (by simp))
  have HR0 := Lib.hid (alloc_new w (.cells (bs (List.replicate 17 0)) 58))
  have HC0' := Lib.hid (show Chg Nowhere (w.alloc (.cells (bs (List.replicate 17 0)) 58)) (((w.alloc (.cells (bs (List.replicate 17 0)) 58)).alloc (.cells (bs (List.replicate 17 0)) 58)).setRow (w.heap.size + 1) (bs (List.replicate 17 0))) from ((Chg.refl Nowhere _).alloc _).putRow (.inr (by rw [sz1]; omega)))
  have HR1 := Lib.hid (HC0'.out.same HR0.out)
  have HC1 := Lib.hid (((Chg.refl Nowhere w).alloc (.cells (bs (List.replicate 17 0)) 58)).then_none HC0'.out)
  have HO1 := Lib.hid (show (((w.alloc (.cells (bs (List.replicate 17 0)) 58)).alloc (.cells (bs (List.replicate 17 0)) 58)).setRow (w.heap.size + 1) (bs (List.replicate 17 0))).heap[w.heap.size + 1]? = some (.cells (bs (fillTo 0 P 0)) 58 (0, 0)) by rw [fill_zero, HPL.out]; exact row_blk (new_1 _ _ _))
  clear HR0 HC0'
  go_enter Tryd.func36, Tryd.ntmps36
  go_upto_region 2 with (refine wpList_store_row rfl 58 (Operand.tmp 4) (Operand.tmp 6) rfl (w.heap.size + 1) (bs (List.replicate 17 0)) rfl rfl 58 (bs (List.replicate 17 0)) (new_1 _ _ _) HI17.out rfl (bs_one _) ?_)
  simp only [Act.put]
  show Code.wp _ _ _ _ (((w.alloc (.cells (bs (List.replicate 17 0)) 58)).alloc (.cells (bs (List.replicate 17 0)) 58)).setRow (w.heap.size + 1) (bs (List.replicate 17 0)))
  generalize ((w.alloc (.cells (bs (List.replicate 17 0)) 58)).alloc (.cells (bs (List.replicate 17 0)) 58)).setRow (w.heap.size + 1) (bs (List.replicate 17 0)) = w2 at HR1 HC1 HO1 ⊢
  go_wp2_with fail
  go_loopw [5] (fun i wr => ∃ k : Nat, k ≤ n ∧ i = .int .i64 (k : Int) ∧ wr.heap[w.heap.size]? = some (.cells (bs (List.replicate 17 0)) 58 (0, 0)) ∧ wr.heap[w.heap.size + 1]? = some (.cells (bs (fillTo 0 P k)) 58 (0, 0)) ∧ Chg Nowhere w wr) (fun i _ => n - (intOf i).toNat)
  case atStart => exact ⟨0, by omega, rfl, HR1.out, HO1.out, HC1.out⟩
  case round =>
    obtain ⟨k, hk, rfl, hR, hO, hC⟩ := hrel
    clear HR1 HO1 HC1
    have HR := Lib.hid hR
    have HO := Lib.hid hO
    have HC := Lib.hid hC
    clear hR hO hC
    by_cases hk2 : k < n
    · have hdk : decide ((k : Int) < (n : Int)) = true := decide_eq_true (by omega)
      have hRd := HH.out.same HC.out
      obtain ⟨-, A', c', hv, -, hA⟩ := hRd
      simp only [Value.slice.injEq] at hv
      obtain ⟨rfl, -, rfl⟩ := hv
      obtain ⟨g, o, rfl, hgs, hcell⟩ := hA (by have := HNN.out; omega)
      obtain ⟨b, hbk⟩ : ∃ b, b = l.getD k 0 := ⟨_, rfl⟩
      have cb : wr.cell? ⟨g, o + k, none⟩ = some (.int .u8 (b : Int)) := by rw [hcell k (by rw [bl_len, ← HNN.out]; exact hk2), hbk]; exact bl_get (some_getD (by rw [← HNN.out]; exact hk2))
      have HG := Lib.hid (HPG.out k hk2)
      rw [← hbk] at HG
      obtain ⟨z, hz⟩ := fill_getD P (k := k) (by rw [HPL.out]; omega)
      have co := (cell_blk HO.out (o := k)).trans (bs_get hz)
      have fo : wr.frozen? ⟨w.heap.size + 1, k, none⟩ = false := frozen_blk HO.out
      clear hbk hz hcell hA
      go_wp2_with fail
      go_roundw
      case rel => exact ⟨k + 1, by omega, by go_num, (set_other _ (by simp)).trans HR.out, (set_blk _ HO.out).trans (by rw [bs_set, fill_set 0 P HG.out]), HC.out.put (.inr (by omega))⟩
      case measure => simp [intOf]; omega
    · obtain rfl : k = n := by omega
      obtain ⟨z, hz⟩ : ∃ v, (fillTo 0 P k)[k]? = some v := fill_getD P (k := k) (by rw [HPL.out]; omega)
      have co := (cell_blk HO.out (o := k)).trans (bs_get hz)
      have fo : wr.frozen? ⟨w.heap.size + 1, k, none⟩ = false := frozen_blk HO.out
      have HO2 := Lib.hid (show (wr.setCell ⟨w.heap.size + 1, k, none⟩ (.int .u8 1)).heap[w.heap.size + 1]? = some (.cells (bs (pieceL l)) 58 (0, 0)) from (set_blk _ HO.out).trans (by rw [← HPS.out]; exact congrArg (fun c => some (Obj.cells c 58 (0, 0))) (bs_set (fillTo 0 P k) k 1)))
      have HR2 := Lib.hid (show (wr.setCell ⟨w.heap.size + 1, k, none⟩ (.int .u8 1)).heap[w.heap.size]? = some (.cells (bs (List.replicate 17 0)) 58 (0, 0)) from (set_other _ (by simp)).trans HR.out)
      have HC2 := Lib.hid (show Chg Nowhere w (wr.setCell ⟨w.heap.size + 1, k, none⟩ (.int .u8 1)) from HC.out.put (.inr (by omega)))
      have HPE := Lib.hid (show (pieceL l).length = 17 by rw [← HPS.out, List.length_set, fill_len, HPL.out])
      have HIP := Lib.hid (info17b (pieceL l) HPE.out)
      have hk17 : (k : Int) < 17 := by omega
      clear hz
      go_wp2_with (first | (refine wpList_load_row rfl 58 (Operand.tmp 4) rfl (w.heap.size + 1) rfl 58 _ (0, 0) _ HO2.out Tryd.underlying58 rfl HIP.out ?_) | (refine wpList_store_row rfl 58 (Operand.tmp 2) (Operand.tmp 26) rfl w.heap.size _ rfl rfl 58 _ HR2.out HIP.out (by rw [bs_size, bs_size, HPE.out]; rfl) (bs_one _) ?_))
      refine bodyPost_ret (v := .tuple #[.agg (bs (pieceL l)), .int .i64 0]) (results_cell_tmp rfl _ _ w.heap.size _ _ 17 _ rfl (row_blk HR2.out) Tryd.underlying58 HIP.out _ rfl) rfl ⟨rfl, HC2.out.putRow (.inr (Nat.le_refl _))⟩
end Go.Proofs.YtebmbapaedlmiaaDoor
