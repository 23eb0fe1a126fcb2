/-
  AeadTurned: the law's walk.
-/
import Derived.Test.YtebmbapaedlmiaaDoorAeOpen
import Derived.Deep.DeepCutAuto
namespace Go.Proofs.YtebmbapaedlmiaaDoor
open Go.RowKit Ae
set_option linter.unusedVariables false

/-- The bits of a tag turned. -/
def turnL (T G : List Nat) : List Nat := (List.range 16).map fun i => T.getD i 0 ^^^ G.getD i 0
theorem turnL_len (T G : List Nat) : (turnL T G).length = 16 := by simp [turnL]
theorem turnL_get (T G : List Nat) {k : Nat} (hk : k < 16) : (turnL T G)[k]? = some (T.getD k 0 ^^^ G.getD k 0) := by simp [turnL, hk]
theorem turnL_byt {T G : List Nat} (hT : Byt T) (hG : Byt G) : Byt (turnL T G) := fun b hb => by
  obtain ⟨i, _, rfl⟩ := List.mem_map.1 hb
  exact Nat.xor_lt_two_pow (n := 8) (hT.at _) (hG.at _)
theorem turnL_ne {T G : List Nat} (hT : T.length = 16) (hG : G.length = 16) (h : G ≠ List.replicate 16 0) : T ≠ turnL T G := fun e => h (by
  apply List.ext_getElem?
  intro i
  by_cases hi : i < 16
  · have e1 := congrArg (·[i]?) e
    simp only [turnL_get T G hi, List.getElem?_eq_getElem (show i < T.length by omega), Option.some.injEq, List.getD_eq_getElem?_getD, Option.getD_some, List.getElem?_eq_getElem (show i < G.length by omega)] at e1
    rw [List.getElem?_eq_getElem (by omega), List.getElem?_replicate, if_pos hi]
    have e2 : T[i] ^^^ T[i] = T[i] ^^^ (T[i] ^^^ G[i]) := by rw [← e1]
    rw [Nat.xor_self, ← Nat.xor_assoc, Nat.xor_self, Nat.zero_xor] at e2
    rw [← e2]
  · rw [List.getElem?_eq_none (by omega), List.getElem?_eq_none (by simp; omega)])
theorem equal_tag (w : World) (l m : List Nat) (hl : l.length = 16) (hm : m.length = 16) : (Op.equalIn 10000 36 (.agg (bs l)) (.agg (bs m))).run Tryd.prog w = .ok (decide (l = m)) w := by
  obtain ⟨i, hi, _⟩ := infoB_parts
  have h := run_equalIn_ints (P := Tryd.prog) w 9998 Tryd.underlying36 undU8 hi (by kernel_rfl) (l.map fun (n : Nat) => (n : Int)) (m.map fun (n : Nat) => (n : Int)) (by rw [List.length_map, hl]) (by rw [List.length_map, hm])
  rw [List.map_map, List.map_map] at h
  have e : ((l.map fun (n : Nat) => (n : Int)) = (m.map fun (n : Nat) => (n : Int))) ↔ l = m := ⟨fun q => by
    have := congrArg (List.map Int.toNat) q
    simpa [List.map_map, Function.comp_def] using this, fun q => by rw [q]⟩
  rw [show decide (l = m) = decide ((l.map fun (n : Nat) => (n : Int)) = (m.map fun (n : Nat) => (n : Int))) from by simp only [e]]
  exact h
set_option maxHeartbeats 4000000 in
set_option maxRecDepth 100000 in
theorem turned_walk (key nonce : List Nat) (hk : key.length = 32) (hkb : Byt key) (hn : nonce.length = 12) (hnb : Byt nonce) (vb x : Value) (l m G : List Nat) (hGl : G.length = 16) (hGb : Byt G) (w : World) (h : RdB w vb l) (hx : RdB w x m) (hb : Byt l) (hmb : Byt m) (hl : l.length ≤ 30000000) (hm : m.length ≤ 30000000) (hg : Glob w) :
    Calls Tryd.prog 6 #[.agg (boxV key nonce vb), x, .agg (bs G)] w (Gives w (.bool true)) := by
  obtain ⟨O, hO⟩ : ∃ O, O = xors key 1 nonce m := ⟨_, rfl⟩
  obtain ⟨T, hT⟩ : ∃ T, T = tagL key nonce l O := ⟨_, rfl⟩
  obtain ⟨X, hXX⟩ : ∃ X, X = turnL T G := ⟨_, rfl⟩
  obtain ⟨n, hnn⟩ : ∃ n, n = m.length := ⟨_, rfl⟩
  have hOl : O.length = n := by rw [hO, xors_len, hnn]
  have hTl : T.length = 16 := by rw [hT]; exact tagL_len _ _ _ _
  have hTb : Byt T := by rw [hT]; exact tagL_byt _ _ _ _
  have hXl : X.length = 16 := by rw [hXX]; exact turnL_len _ _
  have HTB := Lib.hid hTb
  have HGB := Lib.hid hGb
  have HTL := Lib.hid hTl
  have HGL := Lib.hid hGl
  have HOL := Lib.hid hOl
  have HXL := Lib.hid hXl
  have HXG := Lib.hid (show ∀ k, k < 16 → X[k]? = some (T.getD k 0 ^^^ G.getD k 0) from fun k hk => by rw [hXX]; exact turnL_get T G hk)
  have HSeal := Lib.hid (show ∀ w1, Chg Nowhere w w1 → Calls Tryd.prog 9 #[.agg (bs key), .agg (bs nonce), vb, x] w1 (fun e w2 => ∃ g, w1.heap.size ≤ g ∧ e = .returned (.slice (some ⟨g, 0, none⟩) (n + 16) (n + 16)) ∧ w2.heap[g]? = some (.cells (bs (O ++ T)) 5 (0, 0)) ∧ Chg Nowhere w1 w2) from fun w1 hc => by
    refine (seal_any key nonce hk hkb hn hnb vb x l m w1 (h.same hc) (hx.same hc) hb hmb (by omega) (by omega) (hg.chg hc)).mono ?_
    rw [show sealL key nonce l m = O ++ T by rw [hT, hO]; rfl]
    rintro e w2 ⟨_, rfl, ⟨g, hg1, rfl, hh⟩, hC⟩
    exact ⟨g, hg1, by rw [List.length_append, hOl, hTl], hh, hC⟩)
  have HOpen := Lib.hid (show G ≠ List.replicate 16 0 → ∀ w1 s, Chg Nowhere w w1 → RdB w1 s (O ++ X) → Calls Tryd.prog 11 #[.agg (bs key), .agg (bs nonce), vb, s] w1 (fun e w2 => ∃ A c, e = .returned (.tuple #[.slice A 0 c, .int .i64 70]) ∧ Chg Nowhere w1 w2) from fun hG0 w1 s hc hs => by
    have := open_any key nonce hk hkb hn hnb vb s l (O ++ X) n w1 (h.same hc) hs hb ((by rw [hO]; exact xors_byt hmb : Byt O).append (by rw [hXX]; exact turnL_byt hTb hGb)) (by omega) (by rw [List.length_append, hOl, hXl]) (by omega) (hg.chg hc)
    have e1 : (O ++ X).take n = O := by rw [← hOl]; exact List.take_left
    have e2 : (O ++ X).drop n = X := by rw [← hOl]; exact List.drop_left
    rw [e1, e2, ← hT, if_neg (by rw [hXX]; exact turnL_ne hTl hGl hG0), if_neg (by rw [hXX]; exact turnL_ne hTl hGl hG0)] at this
    refine this.mono ?_
    rintro e w2 ⟨v, rfl, ⟨-, A, c, rfl, -, -⟩, hC⟩
    exact ⟨A, c, rfl, hC⟩)
  have HSh := Lib.hid (show ∀ w1, Chg Nowhere w w1 → Calls Tryd.prog 8 #[] w1 (Gives w1 (.bool true)) from fun w1 hc => shown07_any w1 (hg.chg hc))
  have hu1 := Tryd.underlying23
  have hu2 := Tryd.underlying25
  have hi1 : (Tryd.prog.info? 23).map (·.size) = some (bl key).length := by rw [bl_len, hk]; exact info32
  have hi2 : (Tryd.prog.info? 25).map (·.size) = some (bl nonce).length := by rw [bl_len, hn]; exact info12
  have HIG := Lib.hid (show InfoArr 36 (bs G).size by rw [bs_size, hGl]; exact info16)
  obtain ⟨z, hz⟩ : ∃ z, z = decide (G = List.replicate 16 0) := ⟨_, rfl⟩
  have HZ := Lib.hid (show z = false → G ≠ List.replicate 16 0 from fun e => by rw [hz, decide_eq_false_iff_not] at e; exact e)
  have hq : ∀ w, (Op.equalIn 10000 36 (.agg (bs G)) (.agg #[.int .u8 0, .int .u8 0, .int .u8 0, .int .u8 0, .int .u8 0, .int .u8 0, .int .u8 0, .int .u8 0, .int .u8 0, .int .u8 0, .int .u8 0, .int .u8 0, .int .u8 0, .int .u8 0, .int .u8 0, .int .u8 0])).run Tryd.prog w = .ok z w := fun w => by rw [hz]; exact equal_tag w G (List.replicate 16 0) hGl (by simp)
  obtain ⟨-, A2, c2, rfl, hnc2, -⟩ := hx
  obtain ⟨-, A1, c1, rfl, hnc1, -⟩ := h
  rw [← hnn] at HSeal hnc2
  rw [← hnn]
  obtain ⟨a, ha⟩ : ∃ a, a = l.length := ⟨_, rfl⟩
  rw [← ha] at HSeal HOpen hnc1
  rw [← ha]
  have HK := Lib.hid hk
  have HN := Lib.hid hn
  have hnl : n ≤ 30000000 := by omega
  clear hO hT hXX hnn hkb hnb hb hmb hl hm hg hk hn ha hGl hGb hOl hTl hTb hXl hz
  obtain ⟨vb, hvb⟩ : ∃ v, v = Value.slice A1 a c1 := ⟨_, rfl⟩
  rw [← hvb] at HSeal HOpen ⊢
  clear hvb
  have HB0 := Lib.hid (alloc_old (o := .cells (bs G) 36) (alloc_new w (.cells (boxV key nonce vb) 28)))
  have HG0 := Lib.hid (new_1 w (.cells (boxV key nonce vb) 28) (.cells (bs G) 36))
  have HC0 := Lib.hid (((Chg.refl Nowhere w).alloc (.cells (boxV key nonce vb) 28)).alloc (.cells (bs G) 36))
  cases z with
  | true =>
    go_enter Tryd.func6, Tryd.ntmps6
    go_wp2_with (first
      | (go_at_call 8; refine (HSh.out _ HC0.out).mono ?_; rintro e w1 ⟨rfl, hC1⟩; have HB1 := Lib.hid (hC1.same HB0.out); have HG1 := Lib.hid (hC1.same HG0.out); have HC1 := Lib.hid (HC0.out.then_none hC1); have cb1 := box_beside HB1.out HK.out HN.out; clear hC1)
      | (refine wpList_load_row rfl 36 (Operand.tmp 5) rfl (w.heap.size + 1) rfl 36 _ (0, 0) _ HG1.out Tryd.underlying36 rfl HIG.out ?_))
    go_ret
    exact ⟨rfl, HC1.out⟩
  | false =>
    have HOp := Lib.hid (HOpen.out (HZ.out rfl))
    clear HOpen HZ
    go_enter Tryd.func6, Tryd.ntmps6
    go_upto_region 4 with (first
      | (go_at_call 8; refine (HSh.out _ HC0.out).mono ?_; rintro e w1 ⟨rfl, hC1⟩; have HB1 := Lib.hid (hC1.same HB0.out); have HG1 := Lib.hid (hC1.same HG0.out); have HC1 := Lib.hid (HC0.out.then_none hC1); have cb1 := box_beside HB1.out HK.out HN.out; clear hC1)
      | (refine wpList_load_row rfl 36 (Operand.tmp 5) rfl (w.heap.size + 1) rfl 36 _ (0, 0) _ HG1.out Tryd.underlying36 rfl HIG.out ?_))
    go_wp2_with (first
      | (refine wpList_load_mid rfl 23 (Operand.tmp 17) rfl w.heap.size 0 rfl (bl key) _ (box_key HB1.out) hu1 rfl hi1 ?_)
      | (refine wpList_load_mid rfl 25 (Operand.tmp 19) rfl w.heap.size 32 rfl (bl nonce) _ (box_nonce HB1.out HK.out) hu2 rfl hi2 ?_)
      | (go_at_call 9; refine (HSeal.out _ HC1.out).mono ?_; rintro e w2 ⟨g2, hg2, rfl, hh2, hC2⟩; have HB2 := Lib.hid (hC2.same HB1.out); have HG2 := Lib.hid (hC2.same HG1.out); have HC2 := Lib.hid (HC1.out.then_none hC2); have HS2 := Lib.hid hh2; have HGE := Lib.hid (show w.heap.size ≤ g2 ∧ w.heap.size ≠ g2 ∧ w.heap.size + 1 ≠ g2 from (by have a1 := lt_blk HB1.out; have a2 := lt_blk HG1.out; omega)); clear hC2 hh2 hg2))
    have HR0 := Lib.hid (show w2.heap[g2]? = some (.cells (bs (O ++ (X.take 0 ++ T.drop 0))) 5 (0, 0)) from HS2.out)
    go_loopw [9] (fun i wr => ∃ k : Nat, k ≤ 16 ∧ i = .int .i64 k ∧ wr.heap[g2]? = some (.cells (bs (O ++ (X.take k ++ T.drop k))) 5 (0, 0)) ∧ wr.heap[w.heap.size]? = some (.cells (boxV key nonce vb) 28 (0, 0)) ∧ wr.heap[w.heap.size + 1]? = some (.cells (bs G) 36 (0, 0)) ∧ Chg Nowhere w wr) (fun i _ => 16 - (intOf i).toNat)
    case atStart => exact ⟨0, by omega, rfl, HR0.out, HB2.out, HG2.out, HC2.out⟩
    case round =>
      obtain ⟨k, hk, rfl, hR, hB, hG, hC⟩ := hrel
      have HR := Lib.hid hR
      have HB := Lib.hid hB
      have HG := Lib.hid hG
      have HC := Lib.hid hC
      clear hR hB hG hC HR0 HB2 HG2 HC2 HS2 HB1 HG1 HC1 HB0 HG0 HC0
      by_cases hk2 : k < 16
      · obtain ⟨p, hp⟩ : ∃ p, p = n + k := ⟨_, rfl⟩
        have hp2 : (n : Int) + (k : Int) = (p : Int) := by omega
        have hp3 : p < n + 16 := by omega
        obtain ⟨y, hy⟩ : ∃ y, y = T.getD k 0 := ⟨_, rfl⟩
        obtain ⟨b, hb⟩ : ∃ b, b = G.getD k 0 := ⟨_, rfl⟩
        have hy8 : y < 256 := by rw [hy]; exact HTB.out.at _
        have hb8 : b < 256 := by rw [hb]; exact HGB.out.at _
        have HX := Lib.hid (HXG.out k hk2)
        rw [← hy, ← hb] at HX
        have hrow : (O ++ (X.take k ++ T.drop k))[p]? = some y := by
          rw [hp, List.getElem?_append_right (by rw [HOL.out]; omega), HOL.out, Nat.add_sub_cancel_left, List.getElem?_append_right (by rw [List.length_take, HXL.out]; omega), List.length_take, HXL.out, Nat.min_eq_left (by omega), Nat.sub_self, List.getElem?_drop, Nat.add_zero, hy]
          exact some_getD (by rw [HTL.out]; exact hk2)
        have cs : wr.cell? ⟨g2, p, none⟩ = some (.int .u8 (y : Int)) := (cell_blk HR.out (o := p)).trans (bs_get hrow)
        have cb : wr.cell? ⟨w.heap.size + 1, k, none⟩ = some (.int .u8 (b : Int)) := (cell_blk HG.out (o := k)).trans (bs_get (by rw [hb]; exact some_getD (by rw [HGL.out]; exact hk2)))
        have fo : wr.frozen? ⟨g2, p, none⟩ = false := frozen_blk HR.out
        have E1 := u8_xor_nat y b hy8 hb8
        obtain ⟨z, hz⟩ : ∃ z, z = y ^^^ b := ⟨_, rfl⟩
        rw [← hz] at E1 HX
        have HN := Lib.hid (show (O ++ (X.take k ++ T.drop k)).set p z = O ++ (X.take (k + 1) ++ T.drop (k + 1)) by
          rw [hp, List.set_append, if_neg (by rw [HOL.out]; omega), HOL.out, Nat.add_sub_cancel_left, two_set X T (by rw [HXL.out]; exact hk2) (by rw [HTL.out]; exact hk2) HX.out])
        clear hrow hy hb hz hp
        go_wp2_with fail
        go_region
        go_wp2_with fail
        go_roundw
        case rel => exact ⟨k + 1, by omega, by go_num, (set_blk _ HR.out).trans (by rw [bs_set, HN.out]), (set_other _ HGE.out.2.1).trans HB.out, (set_other _ HGE.out.2.2).trans HG.out, (HC.out.put (.inr HGE.out.1)).drew⟩
        case measure => simp [intOf]; omega
      · have HF := Lib.hid (show O ++ (X.take k ++ T.drop k) = O ++ X by rw [List.take_of_length_le (by rw [HXL.out]; omega), List.drop_of_length_le (by rw [HTL.out]; omega), List.append_nil])
        have HS := Lib.hid (show RdB wr (.slice (some ⟨g2, 0, none⟩) (n + 16) (n + 16)) (O ++ X) by rw [← HF.out]; exact rd_blk HR.out (by rw [HF.out, List.length_append, HOL.out, HXL.out]))
        have cb1 := box_beside HB.out HK.out HN.out
        go_wp2_with (first
          | (refine wpList_load_mid rfl 23 (Operand.tmp 53) rfl w.heap.size 0 rfl (bl key) _ (box_key HB.out) hu1 rfl hi1 ?_)
          | (refine wpList_load_mid rfl 25 (Operand.tmp 55) rfl w.heap.size 32 rfl (bl nonce) _ (box_nonce HB.out HK.out) hu2 rfl hi2 ?_)
          | (go_at_call 11; refine (HOp.out _ _ HC.out HS.out).mono ?_; rintro e w3 ⟨A3, c3, rfl, hC3⟩; have HC3 := Lib.hid (HC.out.then_none hC3); clear hC3))
        go_ret
        exact ⟨rfl, HC3.out⟩
/-- An array of bytes that came in. -/
theorem open_arrb {H : Type} {enc : TypeId × Value → H} {w : World} {base : Nat} {spare : Nat → Bool} {held : Bool} {r : Reach} {b0 t n : Nat} {v : Value} {d : DataW H} {p : List MemPlace} (ht : Tryd.prog.underlying t = some (.array n 5)) (hC : Tryd.prog.cellsOf t = n) (hv : Value.okWide Tryd.prog w r b0 t v) (h : DataW.Trod enc Tryd.prog w base spare held t v d p) :
    ∃ l, v = .agg (bs l) ∧ l.length = n ∧ Byt l := by
  obtain ⟨cs, rfl, _⟩ := okWide_arr ht hv
  obtain ⟨fuel, hf⟩ := h
  simp only [Value.cells] at hf
  obtain ⟨l, h1, h2, h3⟩ := cells_bytes ht hC hf
  exact ⟨l, by unfold bs; rw [← h1], h2, h3⟩
end Go.Proofs.YtebmbapaedlmiaaDoor
