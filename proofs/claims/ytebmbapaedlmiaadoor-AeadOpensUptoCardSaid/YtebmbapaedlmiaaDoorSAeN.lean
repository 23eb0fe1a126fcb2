/-
  Package poly: Sum (the walk).
-/
import Derived.Test.YtebmbapaedlmiaaDoorSAeJ
import Derived.Test.YtebmbapaedlmiaaDoorSAeL
import Derived.Test.YtebmbapaedlmiaaDoorSAeM
import Derived.Deep.RegionLaw
import Derived.WalkLawsBesides
namespace Go.Proofs.YtebmbapaedlmiaaDoor
open Go.RowKit Ae
set_option linter.unusedVariables false

/-- One piece of a text more. -/
def polyS (r : Nat) (l : List Nat) (k a : Nat) : Nat := (a + val (pieceL ((l.drop (16 * k)).take 16))) * r % q
def polyA (r : Nat) (l : List Nat) (k : Nat) : Nat := itr (polyS r l) k 0
def polyN (r : Nat) (l : List Nat) : Nat := polyA r l ((l.length + 15) / 16)
def sumL (key l : List Nat) : List Nat := bytesOf 16 (polyN (val (trimL (key.take 16))) l % q + val (key.drop 16))
theorem polyA_lt (r : Nat) (l : List Nat) : ∀ k, polyA r l k < q
  | 0 => by show 0 < q; decide +kernel
  | k + 1 => Nat.mod_lt _ (by decide +kernel)
theorem polyA_zero (r : Nat) (l : List Nat) : bytesOf 17 (polyA r l 0) = List.replicate 17 0 := by rw [show polyA r l 0 = 0 from rfl]; decide
theorem info32 : InfoArr 23 32 := by unfold InfoArr; kernel_rfl
theorem enters_add : Enters Tryd.prog 33 := enters_of Tryd.func33 (by kernel_rfl) rfl
theorem enters_mul : Enters Tryd.prog 32 := enters_of Tryd.func32 (by kernel_rfl) rfl
theorem enters_low : Enters Tryd.prog 34 := enters_of Tryd.func34 (by kernel_rfl) rfl
theorem rangeAt_part {w : World} {b o : Nat} {l : List Nat} (h : w.rangeAt b 0 (bl l)) (n : Nat) : w.rangeAt b o (bl ((l.drop o).take n)) := fun j v hv => by
  have h1 : (bl l)[o + j]? = some v := by
    rw [← bl_take, ← bl_drop] at hv
    have hj := (List.getElem?_eq_some_iff.1 hv).1
    rw [List.length_take] at hj
    rw [List.getElem?_take_of_lt (by omega), List.getElem?_drop] at hv
    exact hv
  have := h (o + j) v h1
  rwa [Nat.zero_add] at this

theorem at_tag (a : Addr) (c : Nat) (w : World) : (Instr.arrayAt 36 (.slice (some a) 16 c)).run Tryd.prog w = .ok (.pointer (some a)) w := run_arrayAt w 36 _ 16 (some a) 16 c Tryd.underlying36 (Nat.le_refl _)
theorem sl_big (a : Addr) (w : World) : (Instr.sliceAt 58 (.pointer (some a)) none none none).run Tryd.prog w = .ok (.slice (some a) 17 17) w := by go_simp
theorem sl_tag (a : Addr) (w : World) : (Instr.sliceAt 36 (.pointer (some a)) none none none).run Tryd.prog w = .ok (.slice (some a) 16 16) w := by go_simp
theorem sl_key16 (g : Nat) (w : World) : (Instr.sliceAt 23 (.pointer (some ⟨g, 0, none⟩)) (some (.int .i64 16)) none none).run Tryd.prog w = .ok (.slice (some ⟨g, 16, none⟩) 16 16) w := by go_simp
def polyW (w1 : World) (t : List Nat) : World := (((w1.alloc (.cells (bs (List.replicate 16 0)) 36)).setRow w1.heap.size (bs t)).alloc (.cells (bs (List.replicate 17 0)) 58)).alloc (.cells (bs (List.replicate 17 0)) 58)
theorem polyW_size (w1 : World) (t : List Nat) : (polyW w1 t).heap.size = w1.heap.size + 1 + 1 + 1 := by simp [polyW]
theorem polyW_r (w1 : World) (t : List Nat) : (polyW w1 t).heap[w1.heap.size]? = some (.cells (bs t) 36 (0, 0)) := alloc_old (alloc_old (row_blk (alloc_new _ _)))
theorem polyW_by (w1 : World) (t : List Nat) : (polyW w1 t).heap[w1.heap.size + 1]? = some (.cells (bs (List.replicate 17 0)) 58 (0, 0)) := by
  have := alloc_new ((w1.alloc (.cells (bs (List.replicate 16 0)) 36)).setRow w1.heap.size (bs t)) (.cells (bs (List.replicate 17 0)) 58)
  rw [setRow_size, sz1] at this
  exact alloc_old this
theorem polyW_a (w1 : World) (t : List Nat) : (polyW w1 t).heap[w1.heap.size + 1 + 1]? = some (.cells (bs (List.replicate 17 0)) 58 (0, 0)) := by
  have := alloc_new (((w1.alloc (.cells (bs (List.replicate 16 0)) 36)).setRow w1.heap.size (bs t)).alloc (.cells (bs (List.replicate 17 0)) 58)) (.cells (bs (List.replicate 17 0)) 58)
  rw [sz1, setRow_size, sz1] at this
  exact this
theorem polyW_chg (w1 : World) (t : List Nat) : Chg Nowhere w1 (polyW w1 t) := (((((Chg.refl _ _).alloc _).putRow (.inr (Nat.le_refl _))).alloc _).alloc _)
theorem by_row (t : List Nat) (h : (bl t).length = 16) : (List.take 0 (bs (List.replicate 17 0)).toList ++ (bl t ++ List.drop (0 + 16) (bs (List.replicate 17 0)).toList)).toArray = bs (t ++ [0]) := by
  show (List.take 0 (bl (List.replicate 17 0)) ++ (bl t ++ List.drop (0 + 16) (bl (List.replicate 17 0)))).toArray = (bl (t ++ [0])).toArray
  rw [List.take_zero, List.nil_append, bl_append]
  rfl
theorem two_slots {x : Nat → Value} {d e : Nat} {u v : Value} (h1 : [x d] = [u]) (h2 : [x e] = [v]) : [x d, x e] = [u, v] := by rw [List.head_eq_of_cons_eq h1, List.head_eq_of_cons_eq h2]
theorem pieceL_byt {l : List Nat} (h : Byt l) : Byt (pieceL l) := (h.append (Byt.replicate _ (by decide))).set _ (by decide)
theorem val_zero_end (l : List Nat) : val (l ++ [0]) = val l := by rw [val_append]; simp [val]
theorem rd_none (w : World) (A : Option Addr) (c : Nat) (l : List Nat) (h : l.length = 0) : RdB w (.slice A 0 c) l := by
  obtain rfl : l = [] := List.length_eq_zero_iff.1 h
  exact ⟨rfl, A, c, rfl, Nat.zero_le _, fun h => by simp at h⟩
theorem RdB.next {w : World} {g o n c m : Nat} {l l' : List Nat} (h : RdB w (.slice (some ⟨g, o, none⟩) n c) l) (hm : m ≤ n) (hl : l' = l.drop m) : RdB w (.slice (some ⟨g, o + m, none⟩) (n - m) (c - m)) l' := by
  subst hl
  obtain ⟨h1, A, c', hv, hc, hA⟩ := h
  cases hv
  refine ⟨by rw [bl_len]; omega, _, _, by rw [List.length_drop], by rw [List.length_drop]; omega, fun h0 => ?_⟩
  rw [List.length_drop] at h0
  obtain ⟨g', o', e, hg, hcell⟩ := hA (by omega)
  cases e
  refine ⟨g, o + m, rfl, hg, fun j hj => ?_⟩
  rw [bl_len, List.length_drop] at hj
  rw [Nat.add_assoc, hcell (m + j) (by rw [bl_len]; omega), ← bl_drop, List.getElem?_drop]
def slen : Value → Nat
  | .slice _ n _ => n
  | _ => 0
set_option maxHeartbeats 32000000 in
set_option maxRecDepth 100000 in
theorem sum_any (key : List Nat) (hk : key.length = 32) (hkb : Byt key) (v : Value) (l : List Nat) (w : World) (h : RdB w v l) (hb : Byt l) (hlen : l.length ≤ 100000000) (hg : Glob w) :
    Calls Tryd.prog 22 #[.agg (bs key), v] w (Gives w (.agg (bs (sumL key l)))) := by
  have HK := Lib.hid hk
  have HKB := Lib.hid hkb
  have HH := Lib.hid h
  have HB := Lib.hid hb
  have HG := Lib.hid hg
  obtain ⟨-, A, cap, rfl, hcap, -⟩ := h
  obtain ⟨k1, hk1⟩ : ∃ k1, k1 = key.take 16 := ⟨_, rfl⟩
  have HK1 := Lib.hid (show k1.length = 16 by rw [hk1, List.length_take, hk]; rfl)
  have HK1B := Lib.hid (show Byt k1 by rw [hk1]; exact hkb.take 16)
  have HKE := Lib.hid hk1
  clear hk hkb hb hg hk1
  have hu := Tryd.underlying36
  have hi1 : (Tryd.prog.info? 36).map (·.size) = some (bl k1).length := by rw [bl_len, HK1.out]; exact info16
  have HR1 := Lib.hid (show ((w.alloc (.cells (bs key) 23)).alloc (.cells (bs (List.replicate 16 0)) 36)).rangeAt w.heap.size 0 (bl k1) by
    have := rangeAt_part (o := 0) (rangeAt_blk (alloc_old (o := .cells (bs (List.replicate 16 0)) 36) (alloc_new w (.cells (bs key) 23)))) 16
    rwa [List.drop_zero, ← HKE.out] at this)
  have hat := at_tag
  have HIT := Lib.hid (show InfoArr 36 (bs (trimL k1)).size by rw [bs_size, trimL_len, HK1.out]; exact info16)
  go_enter Tryd.func22, Tryd.ntmps22
  go_wp2_with (first | (refine wpList_load_mid rfl 36 (Operand.tmp 12) rfl w.heap.size 0 rfl (bl k1) _ HR1.out hu rfl hi1 ?_) | (go_at_call 30; refine (trim_any k1 HK1.out HK1B.out _).mono ?_; rintro e w1 ⟨rfl, hC1⟩; have KB1 := Lib.hid (hC1.same (alloc_old (o := .cells (bs (List.replicate 16 0)) 36) (alloc_new w (.cells (bs key) 23)))); have RB1 := Lib.hid (hC1.same (new_1 w (.cells (bs key) 23) (.cells (bs (List.replicate 16 0)) 36))); have hw1 : w.heap.size + 1 + 1 ≤ w1.heap.size := (by have := hC1.size; simpa using this); have HC1 := Lib.hid (Chg.none_then (((Chg.refl Nowhere w).alloc _).alloc _) hC1); clear hC1) | (refine wpList_store_row rfl 36 (Operand.tmp 5) (Operand.tmp 14) rfl w1.heap.size _ rfl rfl 36 (bs (List.replicate 16 0)) (alloc_new _ _) HIT.out (by rw [bs_size, bs_size, trimL_len, HK1.out]; rfl) (bs_one _) ?_))
  change Code.wp _ _ _ _ (polyW w1 (trimL k1))
  have WR := Lib.hid (polyW_r w1 (trimL k1))
  have WB := Lib.hid (polyW_by w1 (trimL k1))
  have WA := Lib.hid (polyW_a w1 (trimL k1))
  have WC := Lib.hid (polyW_chg w1 (trimL k1))
  generalize polyW w1 (trimL k1) = W2 at *
  have HTL := Lib.hid (show (bl (trimL k1)).length = 16 by rw [bl_len, trimL_len, HK1.out])
  refine wp_region_calm0 2 [15, 16] [] [⟨[15], fun v _ => v = [.slice (some ⟨w1.heap.size + 1, 0, none⟩) 17 17]⟩, ⟨[16], fun v _ => v = [.slice (some ⟨w1.heap.size, 0, none⟩) 16 16]⟩] (Chg Nowhere) (by kernel_rfl) (by kernel_rfl) (by kernel_rfl) (Chg.refl _) Chg.trans' Chg.size (by decide) (Chg.refl Nowhere _).drew ?_ ?_ ?_
  · exact ⟨fun _ _ _ _ h => h, fun _ _ _ _ h => h, trivial⟩
  · simp only [List.take_succ_cons, List.take_zero]
    refine Steps.cons ?_ (Steps.cons ?_ Steps.nil)
    · intro x w' hR hd K Q' hK
      exact wp_slice_at rfl (sl_big _ _) (hK _ _ (Chg.refl _ _) rfl (fun d h1 h2 => by simp at h2))
    · intro x w' hR hd K Q' hK
      exact wp_slice_at rfl (sl_tag _ _) (hK _ _ (Chg.refl _ _) rfl (fun d h1 h2 => by simp at h2))
  · intro x w' hR hV hap
    have e15 : x 15 = .slice (some ⟨w1.heap.size + 1, 0, none⟩) 17 17 := List.head_eq_of_cons_eq (hV 0 (by decide))
    have e16 : x 16 = .slice (some ⟨w1.heap.size, 0, none⟩) 16 16 := List.head_eq_of_cons_eq (hV 1 (by decide))
    have VR := Lib.hid (hR.same WR.out)
    have VB := Lib.hid (hR.same WB.out)
    have VA := Lib.hid (hR.same WA.out)
    have VK := Lib.hid (hR.same (WC.out.same KB1.out))
    have VO := Lib.hid (hR.same (WC.out.same RB1.out))
    have VC := Lib.hid ((HC1.out.then_none WC.out).then_none hR)
    clear hR hV hap
    set_option linter.unusedSimpArgs false in
    simp only [puts, putsL, List.contains_cons, List.contains_nil, Nat.reduceBEq, Bool.or_true, Bool.true_or, Bool.or_false, Bool.false_eq_true, if_true, if_false, Nat.reduceAdd, List.drop_succ_cons, List.drop_zero, e15, e16]
    clear e15 e16
    go_wp2_with (refine wpList_copy_own rfl (Operand.tmp 15) (Operand.tmp 16) 26 26 rfl 5 Tryd.underlying26 size8 (w1.heap.size + 1) 0 17 17 ⟨w1.heap.size, 0, none⟩ 16 16 rfl rfl (bs (List.replicate 17 0)) 58 VB.out (bl (trimL k1)) HTL.out (fun j v hj => (by rw [Addr.add_mid]; exact (rangeAt_blk VR.out) j v hj)) (by rw [HTL.out]; decide) (bl_one _) ?_; rw [HTL.out, by_row (trimL k1) HTL.out]; simp only [Act.put, goInt, List.setIfInBounds_toArray, List.set_cons_zero, List.set_cons_succ])
    have HX0 := Lib.hid (row_blk (cs := bs (trimL k1 ++ [0])) VB.out)
    have HA0 := Lib.hid (show (w'.setRow (w1.heap.size + 1) (bs (trimL k1 ++ [0]))).heap[w1.heap.size + 1 + 1]? = some (.cells (bs (bytesOf 17 (polyA (val (trimL k1)) l 0))) 58 (0, 0)) from row_other (VA.out.trans (by rw [polyA_zero])) (by omega))
    have HK0 := Lib.hid (row_other (b := w1.heap.size + 1) (cs := bs (trimL k1 ++ [0])) VK.out (by omega))
    have HO0 := Lib.hid (row_other (b := w1.heap.size + 1) (cs := bs (trimL k1 ++ [0])) VO.out (by omega))
    have HC0 := Lib.hid (VC.out.putRow (b := w1.heap.size + 1) (cs := bs (trimL k1 ++ [0])) (.inr (by omega)))
    have HS0 := Lib.hid (show RdB (w'.setRow (w1.heap.size + 1) (bs (trimL k1 ++ [0]))) (.slice A l.length cap) (l.drop (16 * 0)) from HH.out.same HC0.out)
    obtain ⟨r, hr⟩ : ∃ r, r = val (trimL k1) := ⟨_, rfl⟩
    rw [← hr] at HA0
    have HRR := Lib.hid hr
    clear hr
    go_loopw [1] (fun b wr => ∃ k : Nat, RdB w b (l.drop (16 * k)) ∧ Hid (k ≤ (l.length + 15) / 16) ∧ wr.heap[w1.heap.size + 1]? = some (.cells (bs (trimL k1 ++ [0])) 58 (0, 0)) ∧ wr.heap[w1.heap.size + 1 + 1]? = some (.cells (bs (bytesOf 17 (polyA r l k))) 58 (0, 0)) ∧ wr.heap[w.heap.size]? = some (.cells (bs key) 23 (0, 0)) ∧ wr.heap[w.heap.size + 1]? = some (.cells (bs (List.replicate 16 0)) 36 (0, 0)) ∧ Chg Nowhere w wr) (fun b _ => slen b)
    case atStart => exact ⟨0, HH.out, Lib.hid (by omega), HX0.out, HA0.out, HK0.out, HO0.out, HC0.out⟩
    case round =>
      obtain ⟨k, hS, HKL, hX, hA, hK, hO, hC⟩ := hrel
      clear HX0 HA0 HK0 HO0 HC0 HS0
      have HX := Lib.hid hX
      have HA := Lib.hid hA
      have HKY := Lib.hid hK
      have HO := Lib.hid hO
      have HC := Lib.hid hC
      have HS := Lib.hid hS
      obtain ⟨-, B, c, rfl, hc, hB⟩ := hS.same HC.out
      clear hX hA hK hO hC
      obtain ⟨n, hn⟩ : ∃ n, n = (l.drop (16 * k)).length := ⟨_, rfl⟩
      rw [← hn] at hc hB ⊢
      have hnl : n = l.length - 16 * k := by rw [hn, List.length_drop]
      have HN := Lib.hid hn
      have HNL := Lib.hid hnl
      clear hn hnl
      by_cases h0 : 0 < n
      · obtain ⟨g, o, rfl, hg, hcell⟩ := hB h0
        have HCELL := Lib.hid hcell
        clear hcell hB
        obtain ⟨pl, hpl⟩ : ∃ pl, pl = (l.drop (16 * k)).take 16 := ⟨_, rfl⟩
        have HPB := Lib.hid (show Byt pl by rw [hpl]; exact (HB.out.drop _).take _)
        obtain ⟨ac, hac⟩ : ∃ ac, ac = polyA r l k := ⟨_, rfl⟩
        have HAC := Lib.hid (show ac < 256 ^ 17 by rw [hac]; exact Nat.lt_trans (polyA_lt r l k) q_lt)
        rw [← hac] at HA
        have HNEXT := Lib.hid (show polyA r l (k + 1) = (ac + val (pieceL pl)) * r % q by rw [hac, hpl]; rfl)
        have huB := Tryd.underlying58
        clear hac
        have hkn : k < (l.length + 15) / 16 := by rw [HNL.out] at h0; omega
        by_cases h16 : n < 16
        · by_cases hcn : c = n
          · subst hcn
            have HPL := Lib.hid (show pl.length = c by rw [hpl, List.length_take, ← HN.out]; omega)
            have HRP := Lib.hid (show RdB wr (.slice (some ⟨g, o, none⟩) c c) pl by
              refine ⟨by rw [bl_len]; omega, some ⟨g, o, none⟩, c, by rw [HPL.out], by rw [HPL.out]; omega, fun _ => ⟨g, o, rfl, hg, fun j hj => ?_⟩⟩
              rw [bl_len, HPL.out] at hj
              rw [HCELL.out j (by rw [bl_len, ← HN.out]; omega), hpl, ← bl_take, List.getElem?_take_of_lt (by omega)])
            have HPE := Lib.hid hpl
            clear hpl
            have HIP := Lib.hid (show InfoArr 58 (bs (pieceL pl)).size by rw [bs_size, pieceL_len (by rw [HPL.out]; omega)]; exact info17)
            go_wp2_with (first | (go_at_call 31; refine (block_any _ pl _ HRP.out (by rw [HPL.out]; omega)).mono ?_; rintro e w2 ⟨rfl, hC2⟩; have C2 := Lib.hid hC2; have hw2 := hC2.size; clear hC2) | (refine wpList_store_row rfl 58 (Operand.tmp 9) (Operand.tmp 29) rfl w2.heap.size _ rfl rfl 58 (bs (List.replicate 17 0)) (alloc_new _ _) HIP.out (by rw [bs_size, bs_size, pieceL_len (by rw [HPL.out]; omega)]; rfl) (bs_one _) ?_))
            have hlX := lt_blk HX.out
            have hlA := lt_blk HA.out
            have hlK := lt_blk HKY.out
            have hlO := lt_blk HO.out
            have GX := Lib.hid (show ((w2.alloc (.cells (bs (List.replicate 17 0)) 58)).setRow w2.heap.size (bs (pieceL pl))).heap[w1.heap.size + 1]? = some (.cells (bs (trimL k1 ++ [0])) 58 (0, 0)) from row_other (alloc_old (C2.out.same HX.out)) (by omega))
            have GA := Lib.hid (show ((w2.alloc (.cells (bs (List.replicate 17 0)) 58)).setRow w2.heap.size (bs (pieceL pl))).heap[w1.heap.size + 1 + 1]? = some (.cells (bs (bytesOf 17 ac)) 58 (0, 0)) from row_other (alloc_old (C2.out.same HA.out)) (by omega))
            have GP := Lib.hid (show ((w2.alloc (.cells (bs (List.replicate 17 0)) 58)).setRow w2.heap.size (bs (pieceL pl))).heap[w2.heap.size]? = some (.cells (bs (pieceL pl)) 58 (0, 0)) from row_blk (alloc_new _ _))
            have GC := Lib.hid (show Chg Nowhere wr ((w2.alloc (.cells (bs (List.replicate 17 0)) 58)).setRow w2.heap.size (bs (pieceL pl))) from (C2.out.alloc _).putRow (.inr (by omega)))
            have hgsz : w2.heap.size < ((w2.alloc (.cells (bs (List.replicate 17 0)) 58)).setRow w2.heap.size (bs (pieceL pl))).heap.size := by simp
            have HGSZ := Lib.hid hgsz
            clear hgsz
            refine wp_region_calm0 5 [31, 32, 33, 34, 35] [] [⟨[31], fun v _ => v = [.agg (bs (bytesOf 17 ac))]⟩, ⟨[32], fun v _ => v = [.agg (bs (pieceL pl))]⟩, ⟨[33], fun v _ => v = [.agg (bs (bytesOf 17 ((ac + val (pieceL pl)) % q)))]⟩, ⟨[34], fun v _ => v = [.agg (bs (trimL k1 ++ [0]))]⟩, ⟨[35], fun v _ => v = [.agg (bs (bytesOf 17 ((ac + val (pieceL pl)) % q * r % q)))]⟩] (Chg Nowhere) (by kernel_rfl) (by kernel_rfl) (by kernel_rfl) (Chg.refl _) Chg.trans' Chg.size (by decide) (Chg.refl Nowhere _).drew ?_ ?_ ?_
            · exact ⟨fun _ _ _ _ h => h, fun _ _ _ _ h => h, fun _ _ _ _ h => h, fun _ _ _ _ h => h, fun _ _ _ _ h => h, trivial⟩
            · simp only [List.take_succ_cons, List.take_zero]
              refine Steps.cons ?_ (Steps.cons ?_ (Steps.cons ?_ (Steps.cons ?_ (Steps.cons ?_ Steps.nil))))
              · intro x w' hR hd K Q' hK
                exact wp_load_mid 58 (Operand.tmp 7) rfl (w1.heap.size + 1 + 1) 0 rfl (bl (bytesOf 17 ac)) _ (rangeAt_blk (hR.same GA.out)) huB rfl (by rw [bl_len, bytesOf_len]; exact info17) (hK _ _ (Chg.refl _ _) rfl (fun d h1 h2 => by simp at h2))
              · intro x w' hR hd K Q' hK
                exact wp_load_mid 58 (Operand.tmp 9) rfl w2.heap.size 0 rfl (bl (pieceL pl)) _ (rangeAt_blk (hR.same GP.out)) huB rfl (by rw [bl_len, pieceL_len (by rw [HPL.out]; omega)]; exact info17) (hK _ _ (Chg.refl _ _) rfl (fun d h1 h2 => by simp at h2))
              · intro x w' hR hd K Q' hK
                exact wp_call_fn rfl enters_add [.agg (bs (bytesOf 17 ac)), .agg (bs (pieceL pl))] (two_slots (hd 0 (by kernel_rfl)) (hd 1 (by kernel_rfl))) ((add_any (bytesOf 17 ac) (pieceL pl) (bytesOf_len _ _) (bytesOf_byt _ _) (pieceL_len (by rw [HPL.out]; omega)) (pieceL_byt (HPB.out)) _ (HG.out.chg ((HC.out.then_none GC.out).then_none hR))).mono fun e w3 ⟨he, hC3⟩ => ⟨_, he, hK _ _ hC3 (by rw [val_bytesOf_lt HAC.out]; rfl) (fun d h1 h2 => by simp at h2)⟩)
              · intro x w' hR hd K Q' hK
                exact wp_load_mid 58 (Operand.tmp 6) rfl (w1.heap.size + 1) 0 rfl (bl (trimL k1 ++ [0])) _ (rangeAt_blk (hR.same GX.out)) huB rfl (by rw [bl_len, List.length_append, trimL_len, HK1.out]; exact info17) (hK _ _ (Chg.refl _ _) rfl (fun d h1 h2 => by simp at h2))
              · intro x w' hR hd K Q' hK
                exact wp_call_fn rfl enters_mul [.agg (bs (bytesOf 17 ((ac + val (pieceL pl)) % q))), .agg (bs (trimL k1 ++ [0]))] (two_slots (hd 2 (by kernel_rfl)) (hd 3 (by kernel_rfl))) ((mul_any (bytesOf 17 ((ac + val (pieceL pl)) % q)) (trimL k1 ++ [0]) (bytesOf_len _ _) (bytesOf_byt _ _) (by rw [List.length_append, trimL_len, HK1.out]; rfl) ((trimL_byt HK1B.out).append (by intro b hb; simp at hb; omega)) _ (HG.out.chg ((HC.out.then_none GC.out).then_none hR))).mono fun e w3 ⟨he, hC3⟩ => ⟨_, he, hK _ _ hC3 (by rw [val_bytesOf_lt (mod_q_lt _), val_zero_end, ← HRR.out]; rfl) (fun d h1 h2 => by simp at h2)⟩)
            · intro x w' hR hV hap
              have e35 : x 35 = .agg (bs (bytesOf 17 ((ac + val (pieceL pl)) % q * r % q))) := List.head_eq_of_cons_eq (hV 4 (by decide))
              have FX := Lib.hid (hR.same GX.out)
              have FA := Lib.hid (hR.same GA.out)
              have FK := Lib.hid (hR.same (row_other (b := w2.heap.size) (cs := bs (pieceL pl)) (alloc_old (o := .cells (bs (List.replicate 17 0)) 58) (C2.out.same HKY.out)) (by omega)))
              have FO := Lib.hid (hR.same (row_other (b := w2.heap.size) (cs := bs (pieceL pl)) (alloc_old (o := .cells (bs (List.replicate 17 0)) 58) (C2.out.same HO.out)) (by omega)))
              have FC := Lib.hid (GC.out.then_none hR)
              clear hR hV hap
              set_option linter.unusedSimpArgs false in
              simp only [puts, putsL, List.contains_cons, List.contains_nil, Nat.reduceBEq, Bool.or_true, Bool.true_or, Bool.or_false, Bool.false_eq_true, if_true, if_false, Nat.reduceAdd, List.drop_succ_cons, List.drop_zero, e35]
              generalize x 31 = x31
              generalize x 32 = x32
              generalize x 33 = x33
              generalize x 34 = x34
              clear e35
              have HI7 := Lib.hid (show InfoArr 58 (bs (bytesOf 17 ((ac + val (pieceL pl)) % q * r % q))).size by rw [bs_size, bytesOf_len]; exact info17)
              go_wp2_with (refine wpList_store_row rfl 58 (Operand.tmp 7) (Operand.tmp 35) rfl (w1.heap.size + 1 + 1) _ rfl rfl 58 _ FA.out HI7.out (by rw [bs_size, bs_size, bytesOf_len, bytesOf_len]) (bs_one _) ?_)
              go_roundw
              case rel =>
                repeat apply Exists.intro
                refine ⟨?_, rfl⟩
                exact ⟨k + 1, rd_none _ _ _ _ (by rw [List.length_drop]; have := HNL.out; omega), Lib.hid (by omega), row_other FX.out (by omega), (row_blk FA.out).trans (by rw [HNEXT.out]), row_other FK.out (by omega), row_other FO.out (by omega), (HC.out.then_none FC.out).putRow (.inr (by omega))⟩
              case measure => first | (simp [slen]; done) | (simp [slen]; omega)
          · have hcn2 : ¬ ((c : Int) = (n : Int)) := by omega
            have HPL := Lib.hid (show pl.length = n by rw [hpl, List.length_take, ← HN.out]; omega)
            have HRP := Lib.hid (show RdB wr (.slice (some ⟨g, o, none⟩) n c) pl by
              refine ⟨by rw [bl_len]; omega, some ⟨g, o, none⟩, c, by rw [HPL.out], by rw [HPL.out]; omega, fun _ => ⟨g, o, rfl, hg, fun j hj => ?_⟩⟩
              rw [bl_len, HPL.out] at hj
              rw [HCELL.out j (by rw [bl_len, ← HN.out]; omega), hpl, ← bl_take, List.getElem?_take_of_lt (by omega)])
            have HPE := Lib.hid hpl
            clear hpl
            have HIP := Lib.hid (show InfoArr 58 (bs (pieceL pl)).size by rw [bs_size, pieceL_len (by rw [HPL.out]; omega)]; exact info17)
            go_wp2_with (first | (go_at_call 31; refine (block_any _ pl _ HRP.out (by rw [HPL.out]; omega)).mono ?_; rintro e w2 ⟨rfl, hC2⟩; have C2 := Lib.hid hC2; have hw2 := hC2.size; clear hC2) | (refine wpList_store_row rfl 58 (Operand.tmp 9) (Operand.tmp 29) rfl w2.heap.size _ rfl rfl 58 (bs (List.replicate 17 0)) (alloc_new _ _) HIP.out (by rw [bs_size, bs_size, pieceL_len (by rw [HPL.out]; omega)]; rfl) (bs_one _) ?_))
            have hlX := lt_blk HX.out
            have hlA := lt_blk HA.out
            have hlK := lt_blk HKY.out
            have hlO := lt_blk HO.out
            have GX := Lib.hid (show ((w2.alloc (.cells (bs (List.replicate 17 0)) 58)).setRow w2.heap.size (bs (pieceL pl))).heap[w1.heap.size + 1]? = some (.cells (bs (trimL k1 ++ [0])) 58 (0, 0)) from row_other (alloc_old (C2.out.same HX.out)) (by omega))
            have GA := Lib.hid (show ((w2.alloc (.cells (bs (List.replicate 17 0)) 58)).setRow w2.heap.size (bs (pieceL pl))).heap[w1.heap.size + 1 + 1]? = some (.cells (bs (bytesOf 17 ac)) 58 (0, 0)) from row_other (alloc_old (C2.out.same HA.out)) (by omega))
            have GP := Lib.hid (show ((w2.alloc (.cells (bs (List.replicate 17 0)) 58)).setRow w2.heap.size (bs (pieceL pl))).heap[w2.heap.size]? = some (.cells (bs (pieceL pl)) 58 (0, 0)) from row_blk (alloc_new _ _))
            have GC := Lib.hid (show Chg Nowhere wr ((w2.alloc (.cells (bs (List.replicate 17 0)) 58)).setRow w2.heap.size (bs (pieceL pl))) from (C2.out.alloc _).putRow (.inr (by omega)))
            have hgsz : w2.heap.size < ((w2.alloc (.cells (bs (List.replicate 17 0)) 58)).setRow w2.heap.size (bs (pieceL pl))).heap.size := by simp
            have HGSZ := Lib.hid hgsz
            clear hgsz
            refine wp_region_calm0 5 [31, 32, 33, 34, 35] [] [⟨[31], fun v _ => v = [.agg (bs (bytesOf 17 ac))]⟩, ⟨[32], fun v _ => v = [.agg (bs (pieceL pl))]⟩, ⟨[33], fun v _ => v = [.agg (bs (bytesOf 17 ((ac + val (pieceL pl)) % q)))]⟩, ⟨[34], fun v _ => v = [.agg (bs (trimL k1 ++ [0]))]⟩, ⟨[35], fun v _ => v = [.agg (bs (bytesOf 17 ((ac + val (pieceL pl)) % q * r % q)))]⟩] (Chg Nowhere) (by kernel_rfl) (by kernel_rfl) (by kernel_rfl) (Chg.refl _) Chg.trans' Chg.size (by decide) (Chg.refl Nowhere _).drew ?_ ?_ ?_
            · exact ⟨fun _ _ _ _ h => h, fun _ _ _ _ h => h, fun _ _ _ _ h => h, fun _ _ _ _ h => h, fun _ _ _ _ h => h, trivial⟩
            · simp only [List.take_succ_cons, List.take_zero]
              refine Steps.cons ?_ (Steps.cons ?_ (Steps.cons ?_ (Steps.cons ?_ (Steps.cons ?_ Steps.nil))))
              · intro x w' hR hd K Q' hK
                exact wp_load_mid 58 (Operand.tmp 7) rfl (w1.heap.size + 1 + 1) 0 rfl (bl (bytesOf 17 ac)) _ (rangeAt_blk (hR.same GA.out)) huB rfl (by rw [bl_len, bytesOf_len]; exact info17) (hK _ _ (Chg.refl _ _) rfl (fun d h1 h2 => by simp at h2))
              · intro x w' hR hd K Q' hK
                exact wp_load_mid 58 (Operand.tmp 9) rfl w2.heap.size 0 rfl (bl (pieceL pl)) _ (rangeAt_blk (hR.same GP.out)) huB rfl (by rw [bl_len, pieceL_len (by rw [HPL.out]; omega)]; exact info17) (hK _ _ (Chg.refl _ _) rfl (fun d h1 h2 => by simp at h2))
              · intro x w' hR hd K Q' hK
                exact wp_call_fn rfl enters_add [.agg (bs (bytesOf 17 ac)), .agg (bs (pieceL pl))] (two_slots (hd 0 (by kernel_rfl)) (hd 1 (by kernel_rfl))) ((add_any (bytesOf 17 ac) (pieceL pl) (bytesOf_len _ _) (bytesOf_byt _ _) (pieceL_len (by rw [HPL.out]; omega)) (pieceL_byt (HPB.out)) _ (HG.out.chg ((HC.out.then_none GC.out).then_none hR))).mono fun e w3 ⟨he, hC3⟩ => ⟨_, he, hK _ _ hC3 (by rw [val_bytesOf_lt HAC.out]; rfl) (fun d h1 h2 => by simp at h2)⟩)
              · intro x w' hR hd K Q' hK
                exact wp_load_mid 58 (Operand.tmp 6) rfl (w1.heap.size + 1) 0 rfl (bl (trimL k1 ++ [0])) _ (rangeAt_blk (hR.same GX.out)) huB rfl (by rw [bl_len, List.length_append, trimL_len, HK1.out]; exact info17) (hK _ _ (Chg.refl _ _) rfl (fun d h1 h2 => by simp at h2))
              · intro x w' hR hd K Q' hK
                exact wp_call_fn rfl enters_mul [.agg (bs (bytesOf 17 ((ac + val (pieceL pl)) % q))), .agg (bs (trimL k1 ++ [0]))] (two_slots (hd 2 (by kernel_rfl)) (hd 3 (by kernel_rfl))) ((mul_any (bytesOf 17 ((ac + val (pieceL pl)) % q)) (trimL k1 ++ [0]) (bytesOf_len _ _) (bytesOf_byt _ _) (by rw [List.length_append, trimL_len, HK1.out]; rfl) ((trimL_byt HK1B.out).append (by intro b hb; simp at hb; omega)) _ (HG.out.chg ((HC.out.then_none GC.out).then_none hR))).mono fun e w3 ⟨he, hC3⟩ => ⟨_, he, hK _ _ hC3 (by rw [val_bytesOf_lt (mod_q_lt _), val_zero_end, ← HRR.out]; rfl) (fun d h1 h2 => by simp at h2)⟩)
            · intro x w' hR hV hap
              have e35 : x 35 = .agg (bs (bytesOf 17 ((ac + val (pieceL pl)) % q * r % q))) := List.head_eq_of_cons_eq (hV 4 (by decide))
              have FX := Lib.hid (hR.same GX.out)
              have FA := Lib.hid (hR.same GA.out)
              have FK := Lib.hid (hR.same (row_other (b := w2.heap.size) (cs := bs (pieceL pl)) (alloc_old (o := .cells (bs (List.replicate 17 0)) 58) (C2.out.same HKY.out)) (by omega)))
              have FO := Lib.hid (hR.same (row_other (b := w2.heap.size) (cs := bs (pieceL pl)) (alloc_old (o := .cells (bs (List.replicate 17 0)) 58) (C2.out.same HO.out)) (by omega)))
              have FC := Lib.hid (GC.out.then_none hR)
              clear hR hV hap
              set_option linter.unusedSimpArgs false in
              simp only [puts, putsL, List.contains_cons, List.contains_nil, Nat.reduceBEq, Bool.or_true, Bool.true_or, Bool.or_false, Bool.false_eq_true, if_true, if_false, Nat.reduceAdd, List.drop_succ_cons, List.drop_zero, e35]
              generalize x 31 = x31
              generalize x 32 = x32
              generalize x 33 = x33
              generalize x 34 = x34
              clear e35
              have HI7 := Lib.hid (show InfoArr 58 (bs (bytesOf 17 ((ac + val (pieceL pl)) % q * r % q))).size by rw [bs_size, bytesOf_len]; exact info17)
              go_wp2_with (refine wpList_store_row rfl 58 (Operand.tmp 7) (Operand.tmp 35) rfl (w1.heap.size + 1 + 1) _ rfl rfl 58 _ FA.out HI7.out (by rw [bs_size, bs_size, bytesOf_len, bytesOf_len]) (bs_one _) ?_)
              go_roundw
              case rel =>
                repeat apply Exists.intro
                refine ⟨?_, rfl⟩
                exact ⟨k + 1, rd_none _ _ _ _ (by rw [List.length_drop]; have := HNL.out; omega), Lib.hid (by omega), row_other FX.out (by omega), (row_blk FA.out).trans (by rw [HNEXT.out]), row_other FK.out (by omega), row_other FO.out (by omega), (HC.out.then_none FC.out).putRow (.inr (by omega))⟩
              case measure => first | (simp [slen]; done) | (simp [slen]; omega)
        · by_cases hcn : c = 16
          · have hn16 : n = 16 := by omega
            subst hcn
            subst hn16
            have HPL := Lib.hid (show pl.length = 16 by rw [hpl, List.length_take, ← HN.out]; omega)
            have HRP := Lib.hid (show RdB wr (.slice (some ⟨g, o, none⟩) 16 16) pl by
              refine ⟨by rw [bl_len]; omega, some ⟨g, o, none⟩, 16, by rw [HPL.out], by rw [HPL.out]; omega, fun _ => ⟨g, o, rfl, hg, fun j hj => ?_⟩⟩
              rw [bl_len, HPL.out] at hj
              rw [HCELL.out j (by rw [bl_len, ← HN.out]; omega), hpl, ← bl_take, List.getElem?_take_of_lt (by omega)])
            have HPE := Lib.hid hpl
            clear hpl
            have HIP := Lib.hid (show InfoArr 58 (bs (pieceL pl)).size by rw [bs_size, pieceL_len (by rw [HPL.out]; omega)]; exact info17)
            go_wp2_with (first | (go_at_call 31; refine (block_any _ pl _ HRP.out (by rw [HPL.out]; omega)).mono ?_; rintro e w2 ⟨rfl, hC2⟩; have C2 := Lib.hid hC2; have hw2 := hC2.size; clear hC2) | (refine wpList_store_row rfl 58 (Operand.tmp 9) (Operand.tmp 29) rfl w2.heap.size _ rfl rfl 58 (bs (List.replicate 17 0)) (alloc_new _ _) HIP.out (by rw [bs_size, bs_size, pieceL_len (by rw [HPL.out]; omega)]; rfl) (bs_one _) ?_))
            have hlX := lt_blk HX.out
            have hlA := lt_blk HA.out
            have hlK := lt_blk HKY.out
            have hlO := lt_blk HO.out
            have GX := Lib.hid (show ((w2.alloc (.cells (bs (List.replicate 17 0)) 58)).setRow w2.heap.size (bs (pieceL pl))).heap[w1.heap.size + 1]? = some (.cells (bs (trimL k1 ++ [0])) 58 (0, 0)) from row_other (alloc_old (C2.out.same HX.out)) (by omega))
            have GA := Lib.hid (show ((w2.alloc (.cells (bs (List.replicate 17 0)) 58)).setRow w2.heap.size (bs (pieceL pl))).heap[w1.heap.size + 1 + 1]? = some (.cells (bs (bytesOf 17 ac)) 58 (0, 0)) from row_other (alloc_old (C2.out.same HA.out)) (by omega))
            have GP := Lib.hid (show ((w2.alloc (.cells (bs (List.replicate 17 0)) 58)).setRow w2.heap.size (bs (pieceL pl))).heap[w2.heap.size]? = some (.cells (bs (pieceL pl)) 58 (0, 0)) from row_blk (alloc_new _ _))
            have GC := Lib.hid (show Chg Nowhere wr ((w2.alloc (.cells (bs (List.replicate 17 0)) 58)).setRow w2.heap.size (bs (pieceL pl))) from (C2.out.alloc _).putRow (.inr (by omega)))
            have hgsz : w2.heap.size < ((w2.alloc (.cells (bs (List.replicate 17 0)) 58)).setRow w2.heap.size (bs (pieceL pl))).heap.size := by simp
            have HGSZ := Lib.hid hgsz
            clear hgsz
            refine wp_region_calm0 5 [31, 32, 33, 34, 35] [] [⟨[31], fun v _ => v = [.agg (bs (bytesOf 17 ac))]⟩, ⟨[32], fun v _ => v = [.agg (bs (pieceL pl))]⟩, ⟨[33], fun v _ => v = [.agg (bs (bytesOf 17 ((ac + val (pieceL pl)) % q)))]⟩, ⟨[34], fun v _ => v = [.agg (bs (trimL k1 ++ [0]))]⟩, ⟨[35], fun v _ => v = [.agg (bs (bytesOf 17 ((ac + val (pieceL pl)) % q * r % q)))]⟩] (Chg Nowhere) (by kernel_rfl) (by kernel_rfl) (by kernel_rfl) (Chg.refl _) Chg.trans' Chg.size (by decide) (Chg.refl Nowhere _).drew ?_ ?_ ?_
            · exact ⟨fun _ _ _ _ h => h, fun _ _ _ _ h => h, fun _ _ _ _ h => h, fun _ _ _ _ h => h, fun _ _ _ _ h => h, trivial⟩
            · simp only [List.take_succ_cons, List.take_zero]
              refine Steps.cons ?_ (Steps.cons ?_ (Steps.cons ?_ (Steps.cons ?_ (Steps.cons ?_ Steps.nil))))
              · intro x w' hR hd K Q' hK
                exact wp_load_mid 58 (Operand.tmp 7) rfl (w1.heap.size + 1 + 1) 0 rfl (bl (bytesOf 17 ac)) _ (rangeAt_blk (hR.same GA.out)) huB rfl (by rw [bl_len, bytesOf_len]; exact info17) (hK _ _ (Chg.refl _ _) rfl (fun d h1 h2 => by simp at h2))
              · intro x w' hR hd K Q' hK
                exact wp_load_mid 58 (Operand.tmp 9) rfl w2.heap.size 0 rfl (bl (pieceL pl)) _ (rangeAt_blk (hR.same GP.out)) huB rfl (by rw [bl_len, pieceL_len (by rw [HPL.out]; omega)]; exact info17) (hK _ _ (Chg.refl _ _) rfl (fun d h1 h2 => by simp at h2))
              · intro x w' hR hd K Q' hK
                exact wp_call_fn rfl enters_add [.agg (bs (bytesOf 17 ac)), .agg (bs (pieceL pl))] (two_slots (hd 0 (by kernel_rfl)) (hd 1 (by kernel_rfl))) ((add_any (bytesOf 17 ac) (pieceL pl) (bytesOf_len _ _) (bytesOf_byt _ _) (pieceL_len (by rw [HPL.out]; omega)) (pieceL_byt (HPB.out)) _ (HG.out.chg ((HC.out.then_none GC.out).then_none hR))).mono fun e w3 ⟨he, hC3⟩ => ⟨_, he, hK _ _ hC3 (by rw [val_bytesOf_lt HAC.out]; rfl) (fun d h1 h2 => by simp at h2)⟩)
              · intro x w' hR hd K Q' hK
                exact wp_load_mid 58 (Operand.tmp 6) rfl (w1.heap.size + 1) 0 rfl (bl (trimL k1 ++ [0])) _ (rangeAt_blk (hR.same GX.out)) huB rfl (by rw [bl_len, List.length_append, trimL_len, HK1.out]; exact info17) (hK _ _ (Chg.refl _ _) rfl (fun d h1 h2 => by simp at h2))
              · intro x w' hR hd K Q' hK
                exact wp_call_fn rfl enters_mul [.agg (bs (bytesOf 17 ((ac + val (pieceL pl)) % q))), .agg (bs (trimL k1 ++ [0]))] (two_slots (hd 2 (by kernel_rfl)) (hd 3 (by kernel_rfl))) ((mul_any (bytesOf 17 ((ac + val (pieceL pl)) % q)) (trimL k1 ++ [0]) (bytesOf_len _ _) (bytesOf_byt _ _) (by rw [List.length_append, trimL_len, HK1.out]; rfl) ((trimL_byt HK1B.out).append (by intro b hb; simp at hb; omega)) _ (HG.out.chg ((HC.out.then_none GC.out).then_none hR))).mono fun e w3 ⟨he, hC3⟩ => ⟨_, he, hK _ _ hC3 (by rw [val_bytesOf_lt (mod_q_lt _), val_zero_end, ← HRR.out]; rfl) (fun d h1 h2 => by simp at h2)⟩)
            · intro x w' hR hV hap
              have e35 : x 35 = .agg (bs (bytesOf 17 ((ac + val (pieceL pl)) % q * r % q))) := List.head_eq_of_cons_eq (hV 4 (by decide))
              have FX := Lib.hid (hR.same GX.out)
              have FA := Lib.hid (hR.same GA.out)
              have FK := Lib.hid (hR.same (row_other (b := w2.heap.size) (cs := bs (pieceL pl)) (alloc_old (o := .cells (bs (List.replicate 17 0)) 58) (C2.out.same HKY.out)) (by omega)))
              have FO := Lib.hid (hR.same (row_other (b := w2.heap.size) (cs := bs (pieceL pl)) (alloc_old (o := .cells (bs (List.replicate 17 0)) 58) (C2.out.same HO.out)) (by omega)))
              have FC := Lib.hid (GC.out.then_none hR)
              clear hR hV hap
              set_option linter.unusedSimpArgs false in
              simp only [puts, putsL, List.contains_cons, List.contains_nil, Nat.reduceBEq, Bool.or_true, Bool.true_or, Bool.or_false, Bool.false_eq_true, if_true, if_false, Nat.reduceAdd, List.drop_succ_cons, List.drop_zero, e35]
              generalize x 31 = x31
              generalize x 32 = x32
              generalize x 33 = x33
              generalize x 34 = x34
              clear e35
              have HI7 := Lib.hid (show InfoArr 58 (bs (bytesOf 17 ((ac + val (pieceL pl)) % q * r % q))).size by rw [bs_size, bytesOf_len]; exact info17)
              go_wp2_with (refine wpList_store_row rfl 58 (Operand.tmp 7) (Operand.tmp 35) rfl (w1.heap.size + 1 + 1) _ rfl rfl 58 _ FA.out HI7.out (by rw [bs_size, bs_size, bytesOf_len, bytesOf_len]) (bs_one _) ?_)
              go_roundw
              case rel =>
                repeat apply Exists.intro
                refine ⟨?_, rfl⟩
                exact ⟨k + 1, rd_none _ _ _ _ (by rw [List.length_drop]; have := HNL.out; omega), Lib.hid (by omega), row_other FX.out (by omega), (row_blk FA.out).trans (by rw [HNEXT.out]), row_other FK.out (by omega), row_other FO.out (by omega), (HC.out.then_none FC.out).putRow (.inr (by omega))⟩
              case measure => first | (simp [slen]; done) | (simp [slen]; omega)
          · -- more than a piece is left, or room behind it
            have HPL := Lib.hid (show pl.length = 16 by rw [hpl, List.length_take, ← HN.out]; omega)
            have HRP := Lib.hid (show RdB wr (.slice (some ⟨g, o, none⟩) 16 c) pl by
              refine ⟨by rw [bl_len]; omega, some ⟨g, o, none⟩, c, by rw [HPL.out], by rw [HPL.out]; omega, fun _ => ⟨g, o, rfl, hg, fun j hj => ?_⟩⟩
              rw [bl_len, HPL.out] at hj
              rw [HCELL.out j (by rw [bl_len, ← HN.out]; omega), hpl, ← bl_take, List.getElem?_take_of_lt (by omega)])
            have HPE := Lib.hid hpl
            clear hpl
            have HIP := Lib.hid (show InfoArr 58 (bs (pieceL pl)).size by rw [bs_size, pieceL_len (by rw [HPL.out]; omega)]; exact info17)
            go_wp2_with (first | (go_at_call 31; refine (block_any _ pl _ HRP.out (by rw [HPL.out]; omega)).mono ?_; rintro e w2 ⟨rfl, hC2⟩; have C2 := Lib.hid hC2; have hw2 := hC2.size; clear hC2) | (refine wpList_store_row rfl 58 (Operand.tmp 9) (Operand.tmp 29) rfl w2.heap.size _ rfl rfl 58 (bs (List.replicate 17 0)) (alloc_new _ _) HIP.out (by rw [bs_size, bs_size, pieceL_len (by rw [HPL.out]; omega)]; rfl) (bs_one _) ?_))
            have hlX := lt_blk HX.out
            have hlA := lt_blk HA.out
            have hlK := lt_blk HKY.out
            have hlO := lt_blk HO.out
            have GX := Lib.hid (show ((w2.alloc (.cells (bs (List.replicate 17 0)) 58)).setRow w2.heap.size (bs (pieceL pl))).heap[w1.heap.size + 1]? = some (.cells (bs (trimL k1 ++ [0])) 58 (0, 0)) from row_other (alloc_old (C2.out.same HX.out)) (by omega))
            have GA := Lib.hid (show ((w2.alloc (.cells (bs (List.replicate 17 0)) 58)).setRow w2.heap.size (bs (pieceL pl))).heap[w1.heap.size + 1 + 1]? = some (.cells (bs (bytesOf 17 ac)) 58 (0, 0)) from row_other (alloc_old (C2.out.same HA.out)) (by omega))
            have GP := Lib.hid (show ((w2.alloc (.cells (bs (List.replicate 17 0)) 58)).setRow w2.heap.size (bs (pieceL pl))).heap[w2.heap.size]? = some (.cells (bs (pieceL pl)) 58 (0, 0)) from row_blk (alloc_new _ _))
            have GC := Lib.hid (show Chg Nowhere wr ((w2.alloc (.cells (bs (List.replicate 17 0)) 58)).setRow w2.heap.size (bs (pieceL pl))) from (C2.out.alloc _).putRow (.inr (by omega)))
            have hgsz : w2.heap.size < ((w2.alloc (.cells (bs (List.replicate 17 0)) 58)).setRow w2.heap.size (bs (pieceL pl))).heap.size := by simp
            have HGSZ := Lib.hid hgsz
            clear hgsz
            refine wp_region_calm0 5 [31, 32, 33, 34, 35] [] [⟨[31], fun v _ => v = [.agg (bs (bytesOf 17 ac))]⟩, ⟨[32], fun v _ => v = [.agg (bs (pieceL pl))]⟩, ⟨[33], fun v _ => v = [.agg (bs (bytesOf 17 ((ac + val (pieceL pl)) % q)))]⟩, ⟨[34], fun v _ => v = [.agg (bs (trimL k1 ++ [0]))]⟩, ⟨[35], fun v _ => v = [.agg (bs (bytesOf 17 ((ac + val (pieceL pl)) % q * r % q)))]⟩] (Chg Nowhere) (by kernel_rfl) (by kernel_rfl) (by kernel_rfl) (Chg.refl _) Chg.trans' Chg.size (by decide) (Chg.refl Nowhere _).drew ?_ ?_ ?_
            · exact ⟨fun _ _ _ _ h => h, fun _ _ _ _ h => h, fun _ _ _ _ h => h, fun _ _ _ _ h => h, fun _ _ _ _ h => h, trivial⟩
            · simp only [List.take_succ_cons, List.take_zero]
              refine Steps.cons ?_ (Steps.cons ?_ (Steps.cons ?_ (Steps.cons ?_ (Steps.cons ?_ Steps.nil))))
              · intro x w' hR hd K Q' hK
                exact wp_load_mid 58 (Operand.tmp 7) rfl (w1.heap.size + 1 + 1) 0 rfl (bl (bytesOf 17 ac)) _ (rangeAt_blk (hR.same GA.out)) huB rfl (by rw [bl_len, bytesOf_len]; exact info17) (hK _ _ (Chg.refl _ _) rfl (fun d h1 h2 => by simp at h2))
              · intro x w' hR hd K Q' hK
                exact wp_load_mid 58 (Operand.tmp 9) rfl w2.heap.size 0 rfl (bl (pieceL pl)) _ (rangeAt_blk (hR.same GP.out)) huB rfl (by rw [bl_len, pieceL_len (by rw [HPL.out]; omega)]; exact info17) (hK _ _ (Chg.refl _ _) rfl (fun d h1 h2 => by simp at h2))
              · intro x w' hR hd K Q' hK
                exact wp_call_fn rfl enters_add [.agg (bs (bytesOf 17 ac)), .agg (bs (pieceL pl))] (two_slots (hd 0 (by kernel_rfl)) (hd 1 (by kernel_rfl))) ((add_any (bytesOf 17 ac) (pieceL pl) (bytesOf_len _ _) (bytesOf_byt _ _) (pieceL_len (by rw [HPL.out]; omega)) (pieceL_byt (HPB.out)) _ (HG.out.chg ((HC.out.then_none GC.out).then_none hR))).mono fun e w3 ⟨he, hC3⟩ => ⟨_, he, hK _ _ hC3 (by rw [val_bytesOf_lt HAC.out]; rfl) (fun d h1 h2 => by simp at h2)⟩)
              · intro x w' hR hd K Q' hK
                exact wp_load_mid 58 (Operand.tmp 6) rfl (w1.heap.size + 1) 0 rfl (bl (trimL k1 ++ [0])) _ (rangeAt_blk (hR.same GX.out)) huB rfl (by rw [bl_len, List.length_append, trimL_len, HK1.out]; exact info17) (hK _ _ (Chg.refl _ _) rfl (fun d h1 h2 => by simp at h2))
              · intro x w' hR hd K Q' hK
                exact wp_call_fn rfl enters_mul [.agg (bs (bytesOf 17 ((ac + val (pieceL pl)) % q))), .agg (bs (trimL k1 ++ [0]))] (two_slots (hd 2 (by kernel_rfl)) (hd 3 (by kernel_rfl))) ((mul_any (bytesOf 17 ((ac + val (pieceL pl)) % q)) (trimL k1 ++ [0]) (bytesOf_len _ _) (bytesOf_byt _ _) (by rw [List.length_append, trimL_len, HK1.out]; rfl) ((trimL_byt HK1B.out).append (by intro b hb; simp at hb; omega)) _ (HG.out.chg ((HC.out.then_none GC.out).then_none hR))).mono fun e w3 ⟨he, hC3⟩ => ⟨_, he, hK _ _ hC3 (by rw [val_bytesOf_lt (mod_q_lt _), val_zero_end, ← HRR.out]; rfl) (fun d h1 h2 => by simp at h2)⟩)
            · intro x w' hR hV hap
              have e35 : x 35 = .agg (bs (bytesOf 17 ((ac + val (pieceL pl)) % q * r % q))) := List.head_eq_of_cons_eq (hV 4 (by decide))
              have FX := Lib.hid (hR.same GX.out)
              have FA := Lib.hid (hR.same GA.out)
              have FK := Lib.hid (hR.same (row_other (b := w2.heap.size) (cs := bs (pieceL pl)) (alloc_old (o := .cells (bs (List.replicate 17 0)) 58) (C2.out.same HKY.out)) (by omega)))
              have FO := Lib.hid (hR.same (row_other (b := w2.heap.size) (cs := bs (pieceL pl)) (alloc_old (o := .cells (bs (List.replicate 17 0)) 58) (C2.out.same HO.out)) (by omega)))
              have FC := Lib.hid (GC.out.then_none hR)
              clear hR hV hap
              set_option linter.unusedSimpArgs false in
              simp only [puts, putsL, List.contains_cons, List.contains_nil, Nat.reduceBEq, Bool.or_true, Bool.true_or, Bool.or_false, Bool.false_eq_true, if_true, if_false, Nat.reduceAdd, List.drop_succ_cons, List.drop_zero, e35]
              generalize x 31 = x31
              generalize x 32 = x32
              generalize x 33 = x33
              generalize x 34 = x34
              clear e35
              have HI7 := Lib.hid (show InfoArr 58 (bs (bytesOf 17 ((ac + val (pieceL pl)) % q * r % q))).size by rw [bs_size, bytesOf_len]; exact info17)
              go_wp2_with (refine wpList_store_row rfl 58 (Operand.tmp 7) (Operand.tmp 35) rfl (w1.heap.size + 1 + 1) _ rfl rfl 58 _ FA.out HI7.out (by rw [bs_size, bs_size, bytesOf_len, bytesOf_len]) (bs_one _) ?_)
              go_roundw
              case rel =>
                repeat apply Exists.intro
                refine ⟨?_, rfl⟩
                exact ⟨k + 1, (show RdB w (.slice (some ⟨g, o, none⟩) n c) (l.drop (16 * k)) by rw [HN.out]; exact HS.out).next (by omega) (by rw [List.drop_drop, Nat.mul_succ]), Lib.hid (by omega), row_other FX.out (by omega), (row_blk FA.out).trans (by rw [HNEXT.out]), row_other FK.out (by omega), row_other FO.out (by omega), (HC.out.then_none FC.out).putRow (.inr (by omega))⟩
              case measure => first | (simp [slen]; done) | (simp [slen]; omega)
      · have hk3 : k = (l.length + 15) / 16 := by have := HKL.out; rw [HNL.out] at h0; omega
        obtain ⟨ac, hac⟩ : ∃ ac, ac = polyN r l := ⟨_, rfl⟩
        have HAC := Lib.hid (show ac < q by rw [hac]; exact polyA_lt r l _)
        rw [show polyA r l k = ac by rw [hac, hk3]; rfl] at HA
        have HPN := Lib.hid hac
        have huB := Tryd.underlying58
        obtain ⟨k2, hk2⟩ : ∃ k2, k2 = key.drop 16 := ⟨_, rfl⟩
        have HK2 := Lib.hid (show k2.length = 16 by rw [hk2, List.length_drop, HK.out])
        have HK2B := Lib.hid (show Byt k2 by rw [hk2]; exact HKB.out.drop 16)
        have HSUM := Lib.hid (show sumL key l = bytesOf 16 (ac + val k2) by unfold sumL; rw [← HKE.out, ← HRR.out, ← hac, ← hk2, Nat.mod_eq_of_lt HAC.out])
        have HRK := Lib.hid (show wr.rangeAt w.heap.size 16 (bl k2) by
          have := rangeAt_part (o := 16) (rangeAt_blk HKY.out) 16
          rwa [← hk2, List.take_of_length_le (by rw [HK2.out]; omega)] at this)
        have hi2 : (Tryd.prog.info? 36).map (·.size) = some (bl k2).length := by rw [bl_len, HK2.out]; exact info16
        have HIO := Lib.hid (show InfoArr 36 (bs (bytesOf 16 (ac + val k2))).size by rw [bs_size, bytesOf_len]; exact info16)
        clear hac hk2 hk3
        go_wp2_with fail
        refine wp_region_calm0 5 [39, 40, 41, 42, 43] [] [⟨[39], fun v _ => v = [.agg (bs (bytesOf 17 ac))]⟩, ⟨[40], fun v _ => v = [.slice (some ⟨w.heap.size, 16, none⟩) 16 16]⟩, ⟨[41], fun v _ => v = [.pointer (some ⟨w.heap.size, 16, none⟩)]⟩, ⟨[42], fun v _ => v = [.agg (bs k2)]⟩, ⟨[43], fun v _ => v = [.agg (bs (bytesOf 16 (ac + val k2)))]⟩] (Chg Nowhere) (by kernel_rfl) (by kernel_rfl) (by kernel_rfl) (Chg.refl _) Chg.trans' Chg.size (by decide) (Chg.refl Nowhere _).drew ?_ ?_ ?_
        · exact ⟨fun _ _ _ _ h => h, fun _ _ _ _ h => h, fun _ _ _ _ h => h, fun _ _ _ _ h => h, fun _ _ _ _ h => h, trivial⟩
        · simp only [List.take_succ_cons, List.take_zero]
          refine Steps.cons ?_ (Steps.cons ?_ (Steps.cons ?_ (Steps.cons ?_ (Steps.cons ?_ Steps.nil))))
          · intro x w' hR hd K Q' hK
            exact wp_load_mid 58 (Operand.tmp 7) rfl (w1.heap.size + 1 + 1) 0 rfl (bl (bytesOf 17 ac)) _ (rangeAt_blk (hR.same HA.out)) huB rfl (by rw [bl_len, bytesOf_len]; exact info17) (hK _ _ (Chg.refl _ _) rfl (fun d h1 h2 => by simp at h2))
          · intro x w' hR hd K Q' hK
            exact wp_slice_at rfl (sl_key16 _ _) (hK _ _ (Chg.refl _ _) rfl (fun d h1 h2 => by simp at h2))
          · intro x w' hR hd K Q' hK
            exact wp_array_at rfl (List.head_eq_of_cons_eq (hd 1 (by kernel_rfl))) (at_tag _ _ _) (hK _ _ (Chg.refl _ _) rfl (fun d h1 h2 => by simp at h2))
          · intro x w' hR hd K Q' hK
            exact wp_load_mid 36 (Operand.tmp 41) rfl w.heap.size 16 (List.head_eq_of_cons_eq (hd 2 (by kernel_rfl))) (bl k2) _ (rangeAt_chg HRK.out hR) hu rfl hi2 (hK _ _ (Chg.refl _ _) rfl (fun d h1 h2 => by simp at h2))
          · intro x w' hR hd K Q' hK
            exact wp_call_fn rfl enters_low [.agg (bs (bytesOf 17 ac)), .agg (bs k2)] (two_slots (hd 0 (by kernel_rfl)) (hd 3 (by kernel_rfl))) ((low_any (bytesOf 17 ac) k2 (bytesOf_len _ _) (bytesOf_byt _ _) HK2.out HK2B.out _ (HG.out.chg (HC.out.then_none hR))).mono fun e w3 ⟨he, hC3⟩ => ⟨_, he, hK _ _ hC3 (by rw [val_bytesOf_lt (Nat.lt_trans HAC.out q_lt), Nat.mod_eq_of_lt HAC.out]; rfl) (fun d h1 h2 => by simp at h2)⟩)
        · intro x w' hR hV hap
          have e43 : x 43 = .agg (bs (bytesOf 16 (ac + val k2))) := List.head_eq_of_cons_eq (hV 4 (by decide))
          have FO := Lib.hid (hR.same HO.out)
          have FC := Lib.hid (HC.out.then_none hR)
          clear hR hV hap
          set_option linter.unusedSimpArgs false in
          simp only [puts, putsL, List.contains_cons, List.contains_nil, Nat.reduceBEq, Bool.or_true, Bool.true_or, Bool.or_false, Bool.false_eq_true, if_true, if_false, Nat.reduceAdd, List.drop_succ_cons, List.drop_zero, e43]
          clear e43
          go_wp2_with (refine wpList_store_row rfl 36 (Operand.tmp 4) (Operand.tmp 43) rfl (w.heap.size + 1) _ rfl rfl 36 _ FO.out HIO.out (by rw [bs_size, bs_size, bytesOf_len]; rfl) (bs_one _) ?_)
          refine bodyPost_ret (results_cell_row rfl _ _ (w.heap.size + 1) _ _ (0, 0) _ rfl (row_blk FO.out) Tryd.underlying36 rfl HIO.out) rfl ⟨by rw [HSUM.out], FC.out.putRow (.inr (by omega))⟩
end Go.Proofs.YtebmbapaedlmiaaDoor
