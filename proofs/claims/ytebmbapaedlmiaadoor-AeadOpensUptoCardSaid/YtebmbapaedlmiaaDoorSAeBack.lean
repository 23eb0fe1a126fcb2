/-
  AeadBack: the law's walk.
-/
import Derived.Test.YtebmbapaedlmiaaDoorSAeExB
namespace Go.Proofs.YtebmbapaedlmiaaDoor
open Go.RowKit Ae
set_option linter.unusedVariables false

theorem xors_back (key : List Nat) (ctr : Nat) (nonce l : List Nat) : xors key ctr nonce (xors key ctr nonce l) = l := by
  apply List.ext_getElem?
  intro i
  by_cases h : i < l.length
  · have h2 : i < (xors key ctr nonce l).length := by rw [xors_len]; exact h
    have e := xors_get key ctr nonce l h
    rw [xors_get _ _ _ _ h2, List.getD_eq_getElem?_getD, e, Option.getD_some, List.getD_eq_getElem?_getD, List.getElem?_eq_getElem h, Option.getD_some, Nat.xor_assoc, Nat.xor_self, Nat.xor_zero]
  · rw [List.getElem?_eq_none (by rw [xors_len, xors_len]; omega), List.getElem?_eq_none (by omega)]
theorem sealL_len (key nonce l m : List Nat) : (sealL key nonce l m).length = m.length + 16 := by unfold sealL; rw [List.length_append, xors_len, tagL_len]
theorem sealL_byt {key nonce l m : List Nat} (h : Byt m) : Byt (sealL key nonce l m) := (xors_byt h).append (tagL_byt _ _ _ _)
theorem sealL_take (key nonce l m : List Nat) : (sealL key nonce l m).take m.length = xors key 1 nonce m := by
  unfold sealL
  have h := xors_len key 1 nonce m
  rw [← h]
  exact List.take_left
theorem sealL_drop (key nonce l m : List Nat) : (sealL key nonce l m).drop m.length = tagL key nonce l (xors key 1 nonce m) := by
  unfold sealL
  have h := xors_len key 1 nonce m
  conv => lhs; rw [← h]
  exact List.drop_left
/-- A key, a nonce, and what stands beside, as cells. -/
def boxV (key nonce : List Nat) (vb : Value) : Array Value := (bl key ++ bl nonce ++ [vb]).toArray
theorem box_key {w : World} {g t : Nat} {key nonce : List Nat} {vb : Value} (h : w.heap[g]? = some (.cells (boxV key nonce vb) t (0, 0))) : w.rangeAt g 0 (bl key) := fun j v hj => by
  rw [Nat.zero_add, cell_of_row w g j _ _ _ h]
  have := (List.getElem?_eq_some_iff.1 hj).1
  simp only [boxV, List.getElem?_toArray]
  rw [List.getElem?_append_left (by rw [List.length_append]; omega), List.getElem?_append_left this]
  exact hj
theorem box_nonce {w : World} {g t : Nat} {key nonce : List Nat} {vb : Value} (h : w.heap[g]? = some (.cells (boxV key nonce vb) t (0, 0))) (hk : key.length = 32) : w.rangeAt g 32 (bl nonce) := fun j v hj => by
  rw [cell_of_row w g _ _ _ _ h]
  have := (List.getElem?_eq_some_iff.1 hj).1
  simp only [boxV, List.getElem?_toArray]
  rw [List.getElem?_append_left (by rw [List.length_append, bl_len, hk]; omega), List.getElem?_append_right (by rw [bl_len, hk]; omega), bl_len, hk, Nat.add_sub_cancel_left]
  exact hj
theorem box_beside {w : World} {g t : Nat} {key nonce : List Nat} {vb : Value} (h : w.heap[g]? = some (.cells (boxV key nonce vb) t (0, 0))) (hk : key.length = 32) (hn : nonce.length = 12) : w.cell? ⟨g, 44, none⟩ = some vb := by
  rw [cell_of_row w g _ _ _ _ h]
  simp only [boxV, List.getElem?_toArray]
  rw [List.getElem?_append_right (by rw [List.length_append, bl_len, bl_len, hk, hn]; exact Nat.le_refl _), List.length_append, bl_len, bl_len, hk, hn]
  rfl
set_option maxHeartbeats 2000000 in
set_option maxRecDepth 100000 in
theorem back_walk (key nonce : List Nat) (hk : key.length = 32) (hkb : Byt key) (hn : nonce.length = 12) (hnb : Byt nonce) (vb x : Value) (l m : List Nat) (w : World) (h : RdB w vb l) (hx : RdB w x m) (hb : Byt l) (hmb : Byt m) (hl : l.length ≤ 30000000) (hm : m.length ≤ 30000000) (hg : Glob w) :
    Calls Tryd.prog 5 #[.agg (boxV key nonce vb), x] w (Gives w (.bool true)) := by
  obtain ⟨S, hS⟩ : ∃ S, S = sealL key nonce l m := ⟨_, rfl⟩
  obtain ⟨n, hnn⟩ : ∃ n, n = m.length := ⟨_, rfl⟩
  have HSL := Lib.hid (show S.length = n + 16 by rw [hS, sealL_len, hnn])
  have HSeal := Lib.hid (show ∀ w1, Chg Nowhere w w1 → Calls Tryd.prog 9 #[.agg (bs key), .agg (bs nonce), vb, x] w1 (fun e w2 => ∃ g, e = .returned (.slice (some ⟨g, 0, none⟩) (n + 16) (n + 16)) ∧ w2.heap[g]? = some (.cells (bs S) 5 (0, 0)) ∧ Chg Nowhere w1 w2) from fun w1 hc => by
    refine (seal_any key nonce hk hkb hn hnb vb x l m w1 (h.same hc) (hx.same hc) hb hmb (by omega) (by omega) (hg.chg hc)).mono ?_
    rw [← hS]
    rintro e w2 ⟨_, rfl, ⟨g, -, rfl, hh⟩, hC⟩
    exact ⟨g, by rw [HSL.out], hh, hC⟩)
  have HOpen := Lib.hid (show ∀ w1 s, Chg Nowhere w w1 → RdB w1 s S → Calls Tryd.prog 11 #[.agg (bs key), .agg (bs nonce), vb, s] w1 (GivesT w1 m 0) from fun w1 s hc hs => by
    have := open_any key nonce hk hkb hn hnb vb s l S m.length w1 (h.same hc) hs hb (by rw [hS]; exact sealL_byt hmb) (by omega) (by rw [hS, sealL_len]) (by omega) (hg.chg hc)
    rw [hS, sealL_take, sealL_drop, if_pos rfl, if_pos rfl, xors_back] at this
    exact this)
  have HSh := Lib.hid (show ∀ w1, Chg Nowhere w w1 → Calls Tryd.prog 8 #[] w1 (Gives w1 (.bool true)) from fun w1 hc => shown07_any w1 (hg.chg hc))
  have hu1 := Tryd.underlying23
  have hu2 := Tryd.underlying25
  have hi1 : (Tryd.prog.info? 23).map (·.size) = some (bl key).length := by rw [bl_len, hk]; exact info32
  have hi2 : (Tryd.prog.info? 25).map (·.size) = some (bl nonce).length := by rw [bl_len, hn]; exact info12
  have HX := Lib.hid hx
  obtain ⟨-, A2, c2, rfl, hnc2, -⟩ := hx
  obtain ⟨-, A1, c1, rfl, hnc1, -⟩ := h
  rw [← hnn] at HSeal HX hnc2
  rw [← hnn]
  obtain ⟨a, ha⟩ : ∃ a, a = l.length := ⟨_, rfl⟩
  rw [← ha] at HSeal HOpen hnc1
  rw [← ha]
  have HK := Lib.hid hk
  have HN := Lib.hid hn
  have hnl : n ≤ 30000000 := by omega
  clear hS hnn hkb hnb hb hmb hl hm hg hk hn ha
  obtain ⟨vb, hvb⟩ : ∃ v, v = Value.slice A1 a c1 := ⟨_, rfl⟩
  rw [← hvb] at HSeal HOpen ⊢
  clear hvb
  have HB0 := Lib.hid (alloc_new w (.cells (boxV key nonce vb) 28))
  have HC0 := Lib.hid ((Chg.refl Nowhere w).alloc (.cells (boxV key nonce vb) 28))
  go_enter Tryd.func5, Tryd.ntmps5
  go_wp2_with (first
    | (go_at_call 8; refine (HSh.out _ HC0.out).mono ?_; rintro e w1 ⟨rfl, hC1⟩; have HB1 := Lib.hid (hC1.same HB0.out); have HC1 := Lib.hid (HC0.out.then_none hC1); have cb1 := box_beside HB1.out HK.out HN.out; clear hC1)
    | (refine wpList_load_mid rfl 23 (Operand.tmp 10) rfl w.heap.size 0 rfl (bl key) _ (box_key HB1.out) hu1 rfl hi1 ?_)
    | (refine wpList_load_mid rfl 25 (Operand.tmp 12) rfl w.heap.size 32 rfl (bl nonce) _ (box_nonce HB1.out HK.out) hu2 rfl hi2 ?_)
    | (go_at_call 9; refine (HSeal.out _ HC1.out).mono ?_; rintro e w2 ⟨g2, rfl, hh2, hC2⟩; have HB2 := Lib.hid (hC2.same HB1.out); have HC2 := Lib.hid (HC1.out.then_none hC2); have HS2 := Lib.hid (rd_blk hh2 HSL.out); have cb2 := box_beside HB2.out HK.out HN.out; clear hC2 hh2)
    | (refine wpList_load_mid rfl 23 (Operand.tmp 19) rfl w.heap.size 0 rfl (bl key) _ (box_key HB2.out) hu1 rfl hi1 ?_)
    | (refine wpList_load_mid rfl 25 (Operand.tmp 21) rfl w.heap.size 32 rfl (bl nonce) _ (box_nonce HB2.out HK.out) hu2 rfl hi2 ?_)
    | (go_at_call 11; refine (HOpen.out _ _ HC2.out HS2.out).mono ?_; rintro e w3 ⟨v3, rfl, hr3, hC3⟩; have HC3 := Lib.hid (HC2.out.then_none hC3); have cv1 := conv_rd hr3; have cv2 := conv_rd (HX.out.same HC3.out); clear hr3 hC3))
  go_ret
  exact ⟨rfl, HC3.out⟩
end Go.Proofs.YtebmbapaedlmiaaDoor
