/-
  The document's numbers: Mul (the walk).
  The document's numbers: Low, Trim, Block (the walks).
-/
import Derived.Test.YtebmbapaedlmiaaDoorSAdK

namespace Go.Proofs.YtebmbapaedlmiaaDoor
open Go.RowKit Ae
set_option linter.unusedVariables false

theorem dval_set : ∀ (o : List Nat) (j x : Nat), j < o.length → dval (o.set j (o.getD j 0 + x)) = dval o + x * 67108864 ^ j
  | [], _, _, h => by simp at h
  | a :: o, 0, x, _ => by simp only [List.set_cons_zero, List.getD_cons_zero, dval, Nat.pow_zero]; omega
  | a :: o, j + 1, x, h => by
    rw [List.set_cons_succ, List.getD_cons_succ, dval, dval, dval_set o j x (by simpa using h), Nat.pow_succ, Nat.mul_add]
    have e : x * (67108864 ^ j * 67108864) = 67108864 * (x * 67108864 ^ j) := by rw [← Nat.mul_assoc, Nat.mul_comm]
    omega
theorem dval_take : ∀ (l : List Nat) (k : Nat), k < l.length → dval (l.take (k + 1)) = dval (l.take k) + l.getD k 0 * 67108864 ^ k
  | [], _, h => by simp at h
  | a :: l, 0, _ => by simp [dval]
  | a :: l, k + 1, h => by
    rw [List.take_succ_cons, List.take_succ_cons, List.getD_cons_succ, dval, dval, dval_take l k (by simpa using h), Nat.pow_succ, Nat.mul_add]
    have e : l.getD k 0 * (67108864 ^ k * 67108864) = 67108864 * (l.getD k 0 * 67108864 ^ k) := by rw [← Nat.mul_assoc, Nat.mul_comm]
    omega
theorem dval_zeros : ∀ n, dval (List.replicate n 0) = 0
  | 0 => rfl
  | n + 1 => by rw [List.replicate_succ, dval, dval_zeros n]
/-- What the rows of a product hold: i rows are done, and k places of the next. -/
structure MulO (T U : List Nat) (i k : Nat) (o : List Nat) : Prop where
  len : o.length = 11
  v : dval o = dval (T.take i) * dval U + T.getD i 0 * 67108864 ^ i * dval (U.take k)
  b : ∀ j, o.getD j 0 ≤ (if j < i + k then i + 1 else i) * 4503599627370496
theorem mulO_zero (T U : List Nat) : MulO T U 0 0 (List.replicate 11 0) := ⟨by simp, by simp [dval], fun j => by
  rw [List.getD_eq_getElem?_getD, List.getElem?_replicate]
  split <;> simp⟩
theorem MulO.step {T U o : List Nat} {i k x y : Nat} (h : MulO T U i k o) (hT : T.length = 6) (hU : U.length = 6) (hx : x = T.getD i 0) (hy : y = U.getD k 0) (hxl : x < 67108864) (hyl : y < 67108864) (hi : i < 6) (hk : k < 6) :
    MulO T U i (k + 1) (o.set (i + k) (o.getD (i + k) 0 + x * y)) := by
  have hxy : x * y ≤ 4503599627370496 := Nat.le_trans (Nat.mul_le_mul (show x ≤ 67108863 by omega) (show y ≤ 67108863 by omega)) (by decide)
  refine ⟨by rw [List.length_set]; exact h.len, ?_, fun j => ?_⟩
  · rw [dval_set o (i + k) (x * y) (by rw [h.len]; omega), h.v, dval_take U k (by omega), ← hx, ← hy, Nat.mul_add (x * 67108864 ^ i), Nat.add_assoc, Nat.pow_add]
    congr 2
    rw [Nat.mul_assoc, Nat.mul_assoc]
    congr 1
    rw [← Nat.mul_assoc, Nat.mul_comm y, Nat.mul_assoc]
  · have hb := h.b j
    by_cases e : i + k = j
    · subst e
      rw [List.getD_eq_getElem?_getD, List.getElem?_set, if_pos rfl, if_pos (by rw [h.len]; omega), Option.getD_some, if_pos (by omega)]
      rw [if_neg (by omega)] at hb
      omega
    · rw [List.getD_eq_getElem?_getD, List.getElem?_set_ne e, ← List.getD_eq_getElem?_getD]
      refine Nat.le_trans hb ?_
      repeat' split
      all_goals omega
theorem MulO.next {T U o : List Nat} {i : Nat} (h : MulO T U i 6 o) (hT : T.length = 6) (hU : U.length = 6) (hi : i < 6) : MulO T U (i + 1) 0 o := by
  refine ⟨h.len, ?_, fun j => ?_⟩
  · rw [h.v, List.take_of_length_le (show U.length ≤ 6 by omega), dval_take T i (by omega), Nat.add_mul]
    simp [dval]
  · refine Nat.le_trans (h.b j) ?_
    repeat' split
    all_goals omega
theorem MulO.upto {T U o : List Nat} (h : MulO T U 6 0 o) : Upto 36028797018963968 o := fun x hx => by
  obtain ⟨j, hj, rfl⟩ := List.mem_iff_getElem.1 hx
  have := h.b j
  rw [List.getD_eq_getElem?_getD, List.getElem?_eq_getElem hj, Option.getD_some] at this
  refine Nat.le_trans this ?_
  split <;> omega
theorem MulO.done {T U o : List Nat} (h : MulO T U 6 0 o) (hT : T.length = 6) : dval o = dval T * dval U := by
  rw [h.v, List.take_of_length_le (by omega)]
  simp [dval]
theorem reduce11 (t : List Nat) (h11 : t.length = 11) (hu : Upto 36028797018963968 t) (g0 : Nat) (w : World) (h0 : w.heap[g0]? = some (.cells (ia t) 3 (0, 0))) :
    Calls Tryd.prog 50 #[.slice (some ⟨g0, 0, none⟩) 11 11] w (Gives w (.agg (bs (bytesOf 17 (dval t % q))))) := by
  have := reduce_any t (.inl ⟨h11, hu⟩) g0 w h0
  rwa [h11] at this
set_option maxHeartbeats 4000000 in
set_option maxRecDepth 100000 in
theorem rmul_any (a b : List Nat) (ha : a.length = 17) (hab : Byt a) (hb : b.length = 17) (hbb : Byt b) (w : World) :
    Calls Tryd.prog 37 #[.agg (bs a), .agg (bs b)] w (Gives w (.agg (bs (bytesOf 17 (val a * val b % q))))) := by
  obtain ⟨T, hT⟩ : ∃ T, T = digs (val a) 136 := ⟨_, rfl⟩
  obtain ⟨U, hU⟩ : ∃ T, T = digs (val b) 136 := ⟨_, rfl⟩
  have hTl : T.length = 6 := by rw [hT, digs_len]
  have hUl : U.length = 6 := by rw [hU, digs_len]
  have HTU := Lib.hid (show ∀ i, T.getD i 0 < 67108864 from fun i => Nat.lt_of_le_of_lt ((show Upto 67108863 T by
    rw [hT]
    intro d hd
    obtain ⟨i, _, rfl⟩ := List.mem_map.1 hd
    exact Nat.le_of_lt_succ (dig_lt _ _ i)).at i) (by decide))
  have HUU := Lib.hid (show ∀ i, U.getD i 0 < 67108864 from fun i => Nat.lt_of_le_of_lt ((show Upto 67108863 U by
    rw [hU]
    intro d hd
    obtain ⟨i, _, rfl⟩ := List.mem_map.1 hd
    exact Nat.le_of_lt_succ (dig_lt _ _ i)).at i) (by decide))
  have HIA := Lib.hid (info17b a ha)
  have HIB := Lib.hid (info17b b hb)
  have HIO := Lib.hid (info17b (bytesOf 17 (val a * val b % q)) (bytesOf_len _ _))
  have HDA := Lib.hid (fun w => digits6 a ha hab w)
  have HDB := Lib.hid (fun w => digits6 b hb hbb w)
  rw [← hT] at HDA
  rw [← hU] at HDB
  have HR := Lib.hid (show ∀ o g w, MulO T U 6 0 o → w.heap[g]? = some (.cells (ia o) 3 (0, 0)) → Calls Tryd.prog 50 #[.slice (some ⟨g, 0, none⟩) 11 11] w (Gives w (.agg (bs (bytesOf 17 (val a * val b % q))))) from fun o g w ho h => by
    have := reduce11 o ho.len ho.upto g w h
    rwa [ho.done hTl, hT, hU, val17 ha hab, val17 hb hbb] at this)
  have HTL := Lib.hid hTl
  have HUL := Lib.hid hUl
  clear ha hab hb hbb hT hU hTl hUl
  have hmk : ∀ w, (Instr.makeSlice 46 (.int .i64 11) (.int .i64 11)).run Tryd.prog w = .ok (.slice (some ⟨w.heap.size, 0, none⟩) 11 11) (w.alloc (.cells (ia (List.replicate 11 0)) 3)) := make_i 11 (by decide)
  have HA0 := Lib.hid (alloc_old (o := .cells (bs (List.replicate 17 0)) 58) (alloc_old (o := .cells (bs b) 58) (alloc_new w (.cells (bs a) 58))))
  have HB0 := Lib.hid (alloc_old (o := .cells (bs (List.replicate 17 0)) 58) (new_1 w (.cells (bs a) 58) (.cells (bs b) 58)))
  have HR0 := Lib.hid (new_2 w (.cells (bs a) 58) (.cells (bs b) 58) (.cells (bs (List.replicate 17 0)) 58))
  have HC0 := Lib.hid ((((Chg.refl Nowhere w).alloc (.cells (bs a) 58)).alloc (.cells (bs b) 58)).alloc (.cells (bs (List.replicate 17 0)) 58))
  go_enter Tryd.func37, Tryd.ntmps37
  go_upto_region 4 with (first
    | (refine wpList_load_row rfl 58 (Operand.tmp 2) rfl w.heap.size rfl 58 _ (0, 0) _ HA0.out Tryd.underlying58 rfl HIA.out ?_)
    | (go_at_call 49; refine (HDA.out _).mono ?_; clear HDA; rintro e w1 ⟨g1, hg1, rfl, h1, hC1⟩; have HG1 := Lib.hid (show w.heap.size + 1 + 1 < g1 by rw [sz3] at hg1; omega); have HH1 := Lib.hid h1; have HB1 := Lib.hid (hC1.same HB0.out); have HR1 := Lib.hid (hC1.same HR0.out); have HC1 := Lib.hid (HC0.out.then_none hC1); clear h1 hC1 hg1)
    | (refine wpList_load_row rfl 58 (Operand.tmp 3) rfl (w.heap.size + 1) rfl 58 _ (0, 0) _ HB1.out Tryd.underlying58 rfl HIB.out ?_)
    | (go_at_call 49; refine (HDB.out _).mono ?_; rintro e w2 ⟨g2, hg2, rfl, h2, hC2⟩; have HG2 := Lib.hid (show g1 ≠ g2 ∧ w.heap.size + 1 + 1 < g2 by have a1 := lt_blk HH1.out; have a2 := HG1.out; omega); have HH2 := Lib.hid h2; have HK2 := Lib.hid (hC2.same HH1.out); have HR2 := Lib.hid (hC2.same HR1.out); have HC2 := Lib.hid (HC1.out.then_none hC2); clear h2 hC2 hg2))
  show Code.wp _ _ _ _ (w2.alloc (.cells (ia (List.replicate 11 0)) 3))
  have HO3 := Lib.hid (alloc_new w2 (.cells (ia (List.replicate 11 0)) 3))
  have HT3 := Lib.hid (alloc_old (o := .cells (ia (List.replicate 11 0)) 3) HK2.out)
  have HU3 := Lib.hid (alloc_old (o := .cells (ia (List.replicate 11 0)) 3) HH2.out)
  have HR3 := Lib.hid (alloc_old (o := .cells (ia (List.replicate 11 0)) 3) HR2.out)
  have HC3 := Lib.hid (HC2.out.alloc (.cells (ia (List.replicate 11 0)) 3))
  have HG3 := Lib.hid (show g1 ≠ w2.heap.size ∧ g2 ≠ w2.heap.size ∧ w.heap.size + 1 + 1 < w2.heap.size from (by have a1 := lt_blk HK2.out; have a2 := lt_blk HH2.out; have a3 := lt_blk HR2.out; omega))
  generalize w2.alloc (.cells (ia (List.replicate 11 0)) 3) = w3 at HO3 HT3 HU3 HR3 HC3 ⊢
  generalize w2.heap.size = g3 at HO3 HG3 ⊢
  clear HK2 HH2 HR2 HC2 HH1 HB1 HR1 HC1 HA0 HB0 HR0 HC0 HG1 HG2 hmk
  go_wp2_with fail
  go_loopw [8] (fun i wr => ∃ n : Nat, n ≤ 6 ∧ i = .int .i64 n ∧ wr.heap[g1]? = some (.cells (ia T) 3 (0, 0)) ∧ wr.heap[g2]? = some (.cells (ia U) 3 (0, 0)) ∧ wr.heap[w.heap.size + 1 + 1]? = some (.cells (bs (List.replicate 17 0)) 58 (0, 0)) ∧ Chg Nowhere w wr ∧ ∃ o, wr.heap[g3]? = some (.cells (ia o) 3 (0, 0)) ∧ Hid (MulO T U n 0 o)) (fun i _ => 6 - (intOf i).toNat)
  case atStart => exact ⟨0, by omega, rfl, HT3.out, HU3.out, HR3.out, HC3.out, _, HO3.out, Lib.hid (mulO_zero T U)⟩
  case round =>
    obtain ⟨n, hn, rfl, hT, hU, hr, hC, o, hO, HM⟩ := hrel
    clear HT3 HU3 HR3 HC3 HO3
    have HTr := Lib.hid hT
    have HUr := Lib.hid hU
    have HRr := Lib.hid hr
    have HC := Lib.hid hC
    have HO := Lib.hid hO
    clear hT hU hr hC hO
    by_cases hn2 : n < 6
    · have hdn : decide ((n : Int) < 6) = true := decide_eq_true (by omega)
      go_wp2_with fail
      go_loopw [9] (fun i wr => ∃ k : Nat, k ≤ 6 ∧ i = .int .i64 k ∧ wr.heap[g1]? = some (.cells (ia T) 3 (0, 0)) ∧ wr.heap[g2]? = some (.cells (ia U) 3 (0, 0)) ∧ wr.heap[w.heap.size + 1 + 1]? = some (.cells (bs (List.replicate 17 0)) 58 (0, 0)) ∧ Chg Nowhere w wr ∧ ∃ o, wr.heap[g3]? = some (.cells (ia o) 3 (0, 0)) ∧ Hid (MulO T U n k o)) (fun i _ => 6 - (intOf i).toNat)
      case atStart => exact ⟨0, by omega, rfl, HTr.out, HUr.out, HRr.out, HC.out, o, HO.out, HM⟩
      case round =>
        obtain ⟨k, hk, rfl, hT, hU, hr, hC, o, hO, HM⟩ := hrel
        clear HTr HUr HRr HC HO
        have HTr := Lib.hid hT
        have HUr := Lib.hid hU
        have HRr := Lib.hid hr
        have HC := Lib.hid hC
        have HO := Lib.hid hO
        clear hT hU hr hC hO
        by_cases hk2 : k < 6
        · have hdk : decide ((k : Int) < 6) = true := decide_eq_true (by omega)
          obtain ⟨j, hj⟩ : ∃ j, j = n + k := ⟨_, rfl⟩
          have hjs : (n : Int) + (k : Int) = (j : Int) := by omega
          have hj11 : j < 11 := by omega
          obtain ⟨x, hx⟩ : ∃ x, x = T.getD n 0 := ⟨_, rfl⟩
          obtain ⟨y, hy⟩ : ∃ y, y = U.getD k 0 := ⟨_, rfl⟩
          obtain ⟨c, hc⟩ : ∃ c, c = o.getD j 0 := ⟨_, rfl⟩
          have hxl : x < 67108864 := by rw [hx]; exact HTU.out n
          have hyl : y < 67108864 := by rw [hy]; exact HUU.out k
          have hcl : c ≤ 7 * 4503599627370496 := by
            rw [hc]
            refine Nat.le_trans (HM.out.b j) ?_
            split <;> omega
          have cx : wr.cell? ⟨g1, n, none⟩ = some (.int .i64 (x : Int)) := (cell_blk HTr.out (o := n)).trans (ia_get (by rw [hx]; exact some_getD (by rw [HTL.out]; exact hn2)))
          have cy : wr.cell? ⟨g2, k, none⟩ = some (.int .i64 (y : Int)) := (cell_blk HUr.out (o := k)).trans (ia_get (by rw [hy]; exact some_getD (by rw [HUL.out]; exact hk2)))
          have cc : wr.cell? ⟨g3, j, none⟩ = some (.int .i64 (c : Int)) := (cell_blk HO.out (o := j)).trans (ia_get (by rw [hc]; exact some_getD (by rw [HM.out.len]; exact hj11)))
          have fo : wr.frozen? ⟨g3, j, none⟩ = false := frozen_blk HO.out
          obtain ⟨p, hp⟩ : ∃ p, p = x * y := ⟨_, rfl⟩
          have hpl : p ≤ 4503599627370496 := by rw [hp]; exact Nat.le_trans (Nat.mul_le_mul (show x ≤ 67108863 by omega) (show y ≤ 67108863 by omega)) (by decide)
          have hp2 : (x : Int) * (y : Int) = (p : Int) := by rw [hp]; simp
          obtain ⟨z, hz⟩ : ∃ z, z = c + p := ⟨_, rfl⟩
          have hz2 : (c : Int) + (p : Int) = (z : Int) := by omega
          have hzl : z < 4611686018427387904 := by omega
          have HS := Lib.hid (show MulO T U n (k + 1) (o.set j z) by rw [hz, hp, hc, hj]; exact HM.out.step HTL.out HUL.out hx hy hxl hyl hn2 hk2)
          clear hx hy hc hp hz hj
          go_wp2_with fail
          go_region
          go_wp2_with fail
          go_roundw
          case rel => exact ⟨k + 1, by omega, by go_num, (set_other _ HG3.out.1).trans HTr.out, (set_other _ HG3.out.2.1).trans HUr.out, (set_other _ (by have := HG3.out.2.2; show w.heap.size + 1 + 1 ≠ g3; omega)).trans HRr.out, (HC.out.put (.inr (by have := HG3.out.2.2; omega))).drew, o.set j z, (set_blk _ HO.out).trans (by rw [ia_set]), HS⟩
          case measure => simp [intOf]; omega
        · have HS := Lib.hid (show MulO T U (n + 1) 0 o by have := HM.out; rw [show k = 6 by omega] at this; exact this.next HTL.out HUL.out hn2)
          go_wp2_with fail
          go_roundw
          case rel => first | exact ⟨n + 1, by omega, by go_num, HTr.out, HUr.out, HRr.out, HC.out, o, HO.out, HS⟩ | ((repeat apply Exists.intro); refine ⟨?_, rfl⟩; exact ⟨n + 1, by omega, by go_num, HTr.out, HUr.out, HRr.out, HC.out, o, HO.out, HS⟩)
          case measure => simp [intOf]; omega
    · have HM6 := Lib.hid (show MulO T U 6 0 o by have := HM.out; rwa [show n = 6 by omega] at this)
      go_wp2_with (first
        | (go_at_call 50; refine (HR.out o _ _ HM6.out HO.out).mono ?_; rintro e w4 ⟨rfl, hC4⟩; have HR4 := Lib.hid (hC4.same HRr.out); have HC4 := Lib.hid (HC.out.then_none hC4); clear hC4)
        | (refine wpList_store_row rfl 58 (Operand.tmp 4) (Operand.tmp 45) rfl (w.heap.size + 1 + 1) _ rfl rfl 58 _ HR4.out HIO.out (by rw [bs_size, bs_size, bytesOf_len]; rfl) (bs_one _) ?_))
      refine bodyPost_ret (results_cell_row rfl _ _ (w.heap.size + 1 + 1) _ _ (0, 0) _ rfl (row_blk HR4.out) Tryd.underlying58 rfl HIO.out) rfl ⟨rfl, HC4.out.putRow (.inr (by omega))⟩
end Go.Proofs.YtebmbapaedlmiaaDoor

namespace Go.Proofs.YtebmbapaedlmiaaDoor
open Go.RowKit Ae
set_option linter.unusedVariables false

set_option maxHeartbeats 4000000 in
set_option maxRecDepth 100000 in
theorem rlow_any (l s : List Nat) (hl : l.length = 17) (hb : Byt l) (hs : s.length = 16) (hc : Byt s) (w : World) :
    Calls Tryd.prog 39 #[.agg (bs l), .agg (bs s)] w (Gives w (.agg (bs (bytesOf 16 (val l % q + val s))))) := by
  have HI := Lib.hid (info17b l hl)
  have HCN := Lib.hid (fun w => rcanon_any l hl hb w)
  obtain ⟨X, hX⟩ : ∃ X, X = val l % q := ⟨_, rfl⟩
  obtain ⟨S, hS⟩ : ∃ S, S = val s := ⟨_, rfl⟩
  rw [← hX] at HCN
  rw [← hX, ← hS]
  have HS := Lib.hid hS
  have HIO := Lib.hid (info17b (bytesOf 17 X) (bytesOf_len _ _))
  have HSL := Lib.hid hs
  have HSB := Lib.hid hc
  obtain ⟨T, hT⟩ : ∃ T, T = bytesOf 16 (X + S) := ⟨_, rfl⟩
  rw [← hT]
  have HTL := Lib.hid (show T.length = 16 by rw [hT, bytesOf_len])
  have HTG := Lib.hid (show ∀ k, k < 16 → T[k]? = some ((X + S) / 256 ^ k % 256) from fun k hk => by rw [hT]; exact bytesOf_get _ _ _ hk)
  clear hl hb hs hc hX hS hT
  have HI16 := Lib.hid (show InfoArr 36 (bs (List.replicate 16 0)).size by rw [bs_size]; exact info16)
  have HA0 := Lib.hid (alloc_old (o := .cells (bs (List.replicate 16 0)) 36) (alloc_old (o := .cells (bs s) 36) (alloc_new w (.cells (bs l) 58))))
  have HS0 := Lib.hid (alloc_old (o := .cells (bs (List.replicate 16 0)) 36) (new_1 w (.cells (bs l) 58) (.cells (bs s) 36)))
  have HR0 := Lib.hid (new_2 w (.cells (bs l) 58) (.cells (bs s) 36) (.cells (bs (List.replicate 16 0)) 36))
  have HC0 := Lib.hid ((((Chg.refl Nowhere w).alloc (.cells (bs l) 58)).alloc (.cells (bs s) 36)).alloc (.cells (bs (List.replicate 16 0)) 36))
  go_enter Tryd.func39, Tryd.ntmps39
  go_upto_region 2 with (first
    | (refine wpList_load_row rfl 58 (Operand.tmp 2) rfl w.heap.size rfl 58 _ (0, 0) _ HA0.out Tryd.underlying58 rfl HI.out ?_)
    | (go_at_call 51; refine (HCN.out _).mono ?_; rintro e w1 ⟨rfl, hC1⟩; have HS1 := Lib.hid (hC1.same HS0.out); have HR1 := Lib.hid (hC1.same HR0.out); have HC1 := Lib.hid (HC0.out.then_none hC1); clear hC1)
    | (refine wpList_store_row rfl 58 (Operand.tmp 5) (Operand.tmp 10) rfl w1.heap.size _ rfl rfl 58 (bs (List.replicate 17 0)) (alloc_new _ _) HIO.out (by rw [bs_size, bs_size, bytesOf_len]; rfl) (bs_one _) ?_))
  simp only [Act.put]
  show Code.wp _ _ _ _ ((w1.alloc (.cells (bs (List.replicate 17 0)) 58)).setRow w1.heap.size (bs (bytesOf 17 X)))
  have HX2 := Lib.hid (row_blk (cs := bs (bytesOf 17 X)) (alloc_new w1 (.cells (bs (List.replicate 17 0)) 58)))
  have HC2' := Lib.hid ((((Chg.refl Nowhere w1).alloc (.cells (bs (List.replicate 17 0)) 58)).putRow (b := w1.heap.size) (cs := bs (bytesOf 17 X)) (.inr (Nat.le_refl _))))
  have HS2 := Lib.hid (HC2'.out.same HS1.out)
  have HR2 := Lib.hid (HC2'.out.same HR1.out)
  have HC2 := Lib.hid (HC1.out.then_none HC2'.out)
  have HG2 := Lib.hid (show w.heap.size + 1 + 1 < w1.heap.size from lt_blk HR1.out)
  clear HC2'
  generalize (w1.alloc (.cells (bs (List.replicate 17 0)) 58)).setRow w1.heap.size (bs (bytesOf 17 X)) = w2 at HX2 HS2 HR2 HC2 ⊢
  generalize w1.heap.size = gx at HX2 HG2 ⊢
  clear HS1 HR1 HC1 HA0 HS0 HR0 HC0
  have HO3 := Lib.hid (show ((w2.alloc (.cells (bs (List.replicate 16 0)) 36)).setRow w2.heap.size (bs (List.replicate 16 0))).heap[w2.heap.size]? = some (.cells (bs (fillTo 0 T 0)) 36 (0, 0)) by rw [fill_zero, HTL.out]; exact row_blk (alloc_new _ _))
  have HC3' := Lib.hid ((((Chg.refl Nowhere w2).alloc (.cells (bs (List.replicate 16 0)) 36)).putRow (b := w2.heap.size) (cs := bs (List.replicate 16 0)) (.inr (Nat.le_refl _))))
  have HX3 := Lib.hid (HC3'.out.same HX2.out)
  have HS3 := Lib.hid (HC3'.out.same HS2.out)
  have HR3 := Lib.hid (HC3'.out.same HR2.out)
  have HC3 := Lib.hid (HC2.out.then_none HC3'.out)
  have HG3 := Lib.hid (show gx ≠ w2.heap.size ∧ w.heap.size + 1 + 1 < w2.heap.size from (by have a1 := lt_blk HX2.out; have a2 := lt_blk HR2.out; omega))
  go_upto_region 3 with (refine wpList_store_row rfl 36 (Operand.tmp 6) (Operand.tmp 11) rfl w2.heap.size (bs (List.replicate 16 0)) rfl rfl 36 (bs (List.replicate 16 0)) (alloc_new _ _) HI16.out rfl (bs_one _) ?_)
  simp only [Act.put]
  show Code.wp _ _ _ _ ((w2.alloc (.cells (bs (List.replicate 16 0)) 36)).setRow w2.heap.size (bs (List.replicate 16 0)))
  clear HC3'
  generalize (w2.alloc (.cells (bs (List.replicate 16 0)) 36)).setRow w2.heap.size (bs (List.replicate 16 0)) = w3 at HO3 HX3 HS3 HR3 HC3 ⊢
  generalize w2.heap.size = go at HO3 HG3 ⊢
  clear HX2 HS2 HR2 HC2
  go_wp2_with fail
  go_loopw [7, 8] (fun c i wr => ∃ k : Nat, k ≤ 16 ∧ i = .int .i64 k ∧ (∃ r : Nat, c = .int .i64 (r : Int) ∧ r ≤ 1 ∧ Hid (r = carB X S k)) ∧ wr.heap[gx]? = some (.cells (bs (bytesOf 17 X)) 58 (0, 0)) ∧ wr.heap[w.heap.size + 1]? = some (.cells (bs s) 36 (0, 0)) ∧ wr.heap[w.heap.size + 1 + 1]? = some (.cells (bs (List.replicate 16 0)) 36 (0, 0)) ∧ wr.heap[go]? = some (.cells (bs (fillTo 0 T k)) 36 (0, 0)) ∧ Chg Nowhere w wr) (fun _ i _ => 16 - (intOf i).toNat)
  case atStart => exact ⟨0, by omega, rfl, ⟨0, rfl, by omega, Lib.hid (carB_zero X S).symm⟩, HX3.out, HS3.out, HR3.out, HO3.out, HC3.out⟩
  case round =>
    obtain ⟨k, hk, rfl, ⟨r, rfl, hr, HRC⟩, hX, hS, hR, hO, hC⟩ := hrel
    clear HX3 HS3 HR3 HO3 HC3
    have HXX := Lib.hid hX
    have HSS := Lib.hid hS
    have HR := Lib.hid hR
    have HO := Lib.hid hO
    have HC := Lib.hid hC
    clear hX hS hR hO hC
    by_cases hk2 : k < 16
    · have hdk : decide ((k : Int) < 16) = true := decide_eq_true (by omega)
      obtain ⟨a, ha⟩ : ∃ a, a = X / 256 ^ k % 256 := ⟨_, rfl⟩
      obtain ⟨b, hbk⟩ : ∃ b, s[k]? = some b := ⟨_, List.getElem?_eq_getElem (by rw [HSL.out]; exact hk2)⟩
      have hb8 := HSB.out.get hbk
      have ha8 : a < 256 := by rw [ha]; exact Nat.mod_lt _ (by decide)
      have hbv : b = S / 256 ^ k % 256 := by rw [HS.out]; exact val_byte HSB.out hbk
      have cx : wr.cell? ⟨gx, k, none⟩ = some (.int .u8 (a : Int)) := by rw [ha]; exact (cell_blk HXX.out (o := k)).trans (bs_get (bytesOf_get _ _ _ (by omega)))
      have cs : wr.cell? ⟨w.heap.size + 1, k, none⟩ = some (.int .u8 (b : Int)) := (cell_blk HSS.out (o := k)).trans (bs_get hbk)
      obtain ⟨o0, ho0⟩ := fill_getD T (k := k) (by rw [HTL.out]; exact hk2)
      have co := (cell_blk HO.out (o := k)).trans (bs_get ho0)
      have fo : wr.frozen? ⟨go, k, none⟩ = false := frozen_blk HO.out
      obtain ⟨s1, hs1⟩ : ∃ z, z = r + a := ⟨_, rfl⟩
      have i1 : (r : Int) + (a : Int) = (s1 : Int) := by omega
      obtain ⟨s2, hs2⟩ : ∃ z, z = s1 + b := ⟨_, rfl⟩
      have i2 : (s1 : Int) + (b : Int) = (s2 : Int) := by omega
      obtain ⟨u, hu⟩ : ∃ z, z = s2 % 256 := ⟨_, rfl⟩
      have i3 : (s2 : Int) % 256 = (u : Int) := by omega
      obtain ⟨v, hv⟩ : ∃ z, z = s2 / 256 := ⟨_, rfl⟩
      have i4 : (s2 : Int) / 256 = (v : Int) := by omega
      have hu8 : u < 256 := by omega
      have hs2l : s2 < 1000 := by omega
      have hs1l : s1 < 1000 := by omega
      have hv1 : v ≤ 1 := by omega
      have HU := Lib.hid (show T[k]? = some u by rw [HTG.out k hk2, sum_byte, ← HRC.out, ← ha, ← hbv, hu, hs2, hs1, Nat.add_assoc])
      have HVV := Lib.hid (show v = carB X S (k + 1) by rw [carB_succ, ← HRC.out, ← ha, ← hbv, hv, hs2, hs1, Nat.add_assoc])
      clear ha hbk hbv hs1 hs2 hu hv ho0
      go_wp2_with fail
      go_quiet (fail)
      go_wp2_with fail
      go_roundw
      case rel => exact ⟨k + 1, by omega, by go_num, ⟨v, rfl, hv1, HVV⟩, (set_other _ HG3.out.1).trans HXX.out, (set_other _ (by have := HG3.out.2; show w.heap.size + 1 ≠ go; omega)).trans HSS.out, (set_other _ (by have := HG3.out.2; show w.heap.size + 1 + 1 ≠ go; omega)).trans HR.out, (set_blk _ HO.out).trans (by rw [bs_set, fill_set 0 T HU.out]), (HC.out.drewN _).put (.inr (by have := HG3.out.2; omega))⟩
      case measure => simp [intOf]; omega
    · have HF := Lib.hid (show fillTo 0 T k = T from fill_all 0 T (by rw [HTL.out]; omega))
      rw [HF.out] at HO
      have HIT := Lib.hid (show InfoArr 36 (bs T).size by rw [bs_size, HTL.out]; exact info16)
      go_wp2_with (first | (refine wpList_load_row rfl 36 (Operand.tmp 6) rfl go rfl 36 _ (0, 0) _ HO.out Tryd.underlying36 rfl HIT.out ?_) | (refine wpList_store_row rfl 36 (Operand.tmp 4) (Operand.tmp 34) rfl (w.heap.size + 1 + 1) _ rfl rfl 36 _ HR.out HIT.out (by rw [bs_size, bs_size, HTL.out]; rfl) (bs_one _) ?_))
      refine bodyPost_ret (results_cell_row rfl _ _ (w.heap.size + 1 + 1) _ _ (0, 0) _ rfl (row_blk HR.out) Tryd.underlying36 rfl HIT.out) rfl ⟨rfl, HC.out.putRow (.inr (by omega))⟩
end Go.Proofs.YtebmbapaedlmiaaDoor
