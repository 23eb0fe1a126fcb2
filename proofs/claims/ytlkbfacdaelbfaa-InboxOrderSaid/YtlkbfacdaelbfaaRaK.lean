/-
  Package ranges: Add (the walk).
-/
import Derived.Test.YtlkbfacdaelbfaaRaJ
namespace Go.Proofs.Ytlkbfacdaelbfaa
open Go.RowKit
set_option linter.unusedVariables false

/-- What Add leaves, in plain terms. -/
structure AddIs (L : List Ra.Row) (f t : Int) (i j : Nat) (f' t' : Int) : Prop where
  good : Ra.Good (L.take i ++ [(f', t')] ++ L.drop j)
  mem : ∀ n, Ra.mem (L.take i ++ [(f', t')] ++ L.drop j) n ↔ Ra.mem L n ∨ (f ≤ n ∧ n < t)
  tot : Ra.total (L.take i ++ [(f', t')] ++ L.drop j) - Ra.total L = t' - f' - Ra.total ((L.drop i).take (j - i))
  len : (L.take i ++ [(f', t')] ++ L.drop j).length ≤ L.length + 1
  bnd : 0 ≤ f' ∧ f' < t' ∧ t' ≤ Ra.M
theorem Ra.Touch.mid {L : List Ra.Row} {f t : Int} {i j : Nat} (h : Ra.Touch L f t i j) (hij : i < j) : ((L.drop i).take (j - i)).head? = some (L.getD i (0, 0)) ∧ ((L.drop i).take (j - i)).getLast? = some (L.getD (j - 1) (0, 0)) := by
  have hj := h.jn
  have hl : ((L.drop i).take (j - i)).length = j - i := by rw [List.length_take, List.length_drop]; omega
  constructor
  · rw [List.head?_eq_getElem?, List.getElem?_take, if_pos (by omega), List.getElem?_drop, Nat.add_zero]
    exact some_getD (by omega)
  · rw [List.getLast?_eq_getElem?, hl, List.getElem?_take, if_pos (by omega), List.getElem?_drop, show i + (j - i - 1) = j - 1 by omega]
    exact some_getD (by omega)
theorem Ra.Touch.add {L : List Ra.Row} {f t : Int} {i j : Nat} (h : Ra.Touch L f t i j) (hG : Ra.Good L) (hf : 0 ≤ f) (hft : f < t) (ht : t ≤ Ra.M) {f' t' : Int} (h1 : i = j → f' = f ∧ t' = t) (h2 : i < j → f' = min f (L.getD i (0, 0)).1 ∧ t' = max t (L.getD (j - 1) (0, 0)).2) : AddIs L f t i j f' t' := by
  obtain ⟨pa, pb, pc⟩ := h.parts
  have hij := h.ij
  have hj := h.jn
  have hl : ((L.drop i).take (j - i)).length = j - i := by rw [List.length_take, List.length_drop]; omega
  have hc := Ra.cut3 L hij
  have hG2 := hG
  rw [hc] at hG2
  have nil : (L.drop i).take (j - i) = [] → i = j := fun e => by rw [e] at hl; simp only [List.length_nil] at hl; omega
  have some' : ∀ b, ((L.drop i).take (j - i)).head? = some b ∨ ((L.drop i).take (j - i)).getLast? = some b → i < j := fun b hb => by
    rcases (by omega : i = j ∨ i < j) with rfl | h
    · simp at hb
    · exact h
  obtain ⟨g1, g2, g3⟩ := Ra.add_parts hG2 (f' := f') (t' := t') hf hft ht pa pb pc ⟨fun e => (h1 (nil e)).1, fun b hb => by
    have := some' b (.inl hb)
    rw [(h.mid this).1, Option.some.injEq] at hb
    rw [(h2 this).1, hb]⟩ ⟨fun e => (h1 (nil e)).2, fun b hb => by
    have := some' b (.inr hb)
    rw [(h.mid this).2, Option.some.injEq] at hb
    rw [(h2 this).2, hb]⟩
  rw [← hc] at g2 g3
  refine ⟨g1, g2, g3, by simp only [List.length_append, List.length_take, List.length_drop, List.length_singleton]; omega, ?_⟩
  exact g1.row (f', t') (by simp)
theorem ownR_shape3 {w : World} {v : Value} {n : Nat} {xs : List Value} (h : w.ownsRow 0 33 2 v n xs) : ∃ N A c, v = .slice A N c := by
  obtain ⟨A, c, e⟩ := ownR_shape h
  exact ⟨n, A, c, e⟩
theorem RaAt.cell0 {w : World} {o : Nat} {v : Value} {L : List Ra.Row} (h : RaAt w o v L) : w.cell? ⟨o, 0, none⟩ = some v := by rw [cell_blk h.blk]; rfl
set_option maxHeartbeats 4000000 in
set_option maxRecDepth 100000 in
theorem add_any (o : Nat) (v : Value) (L : List Ra.Row) (f t : Int) (w : World) (h : RaAt w o v L) (hG : Ra.Good L) (hn : L.length ≤ 1000000) :
    Calls Try.prog 16 #[.pointer (some ⟨o, 0, none⟩), .int .i64 f, .int .i64 t] w (GivesAdd w o v L f t) := by
  obtain ⟨f0, hf0⟩ : ∃ x, x = max f 0 := ⟨_, rfl⟩
  obtain ⟨t0, ht0⟩ : ∃ x, x = min t Ra.M := ⟨_, rfl⟩
  have HI := Lib.hid (show ∀ w4, Calls Try.prog 72 #[.int .i64 f, .int .i64 t] w4 (Gives w4 (.tuple #[.int .i64 f0, .int .i64 t0])) from fun w4 => by rw [hf0, ht0]; exact inside_any f t w4)
  unfold GivesAdd
  rw [← hf0, ← ht0]
  have F0 := Lib.hid (show 0 ≤ f0 ∧ t0 ≤ Ra.M by omega)
  clear hf0 ht0
  by_cases hft : f0 < t0
  · obtain ⟨n, hnn⟩ : ∃ n, n = L.length := ⟨_, rfl⟩
    have HT := Lib.hid (fun w4 (h4 : RaAt w4 o v L) => touched_any o v L f0 t0 w4 h4 hG (by omega))
    have H := Lib.hid h
    have HG := Lib.hid hG
    have HN := Lib.hid hnn
    have HNB := Lib.hid hn
    have hd : decide (t0 ≤ f0) = false := decide_eq_false (by omega)
    have hd2 : ¬ (t0 ≤ f0) := by omega
    clear h hG hnn hn
    go_enter Try.func16, Try.ntmps16
    go_upto_region 2 with (go_at_call 72; refine (HI.out _).mono ?_; rintro e w4 ⟨rfl, hC4⟩; have HC4 := Lib.hid hC4; clear hC4)
    go_upto_region 5 with (go_at_call 73; refine (HT.out _ (H.out.idle HC4.out)).mono ?_; rintro e w5 ⟨i, j, rfl, hT, hC5⟩; have HTO := Lib.hid hT; have HC5 := Lib.hid (HC4.out.then_none hC5); clear hC5 hT HC4)
    obtain ⟨B, hB⟩ : ∃ B, B = (L.drop i).take (j - i) := ⟨_, rfl⟩
    have HB := Lib.hid hB
    obtain ⟨T, hT⟩ : ∃ T, T = Ra.total B := ⟨_, rfl⟩
    have HTT := Lib.hid hT
    have HTB := Lib.hid (show 0 ≤ T ∧ T ≤ 4611686018427387904 from by rw [hT, hB]; exact Ra.total_in ((HG.out.drop i).take _))
    have HM := Lib.hid (show ∀ w6 u, Rd w6 u 2 (j - i) (flat B) → Calls Try.prog 74 #[u] w6 (Gives w6 (.int .i64 T)) from fun w6 u hu => by
      have hl : B.length = j - i := by rw [hB, List.length_take, List.length_drop]; have := HTO.out.jn; have := HTO.out.ij; omega
      rw [hT]; rw [← hl] at hu; exact many_any u B w6 hu (by rw [hB]; exact (HG.out.drop i).take _) (by have := HNB.out; have := HTO.out.jn; omega))
    have H5 := Lib.hid (H.out.idle HC5.out)
    have HREP := Lib.hid (show ∀ w6 f' t', Chg Nowhere w w6 → Calls Try.prog 75 #[v, .int .i64 (i : Int), .int .i64 (j : Int), .slice (some ⟨w6.heap.size, 0, none⟩) 1 1] (w6.alloc (.cells #[.int .i64 f', .int .i64 t'] 33)) (GivesRow (w6.alloc (.cells #[.int .i64 f', .int .i64 t'] 33)) v (L.take i ++ [(f', t')] ++ L.drop j)) from fun w6 f' t' h6 =>
      replace_any v L [(f', t')] i j _ _ ((H.out.idle h6).idle ((Chg.refl Nowhere w6).alloc _)).row HTO.out.ij HTO.out.jn (new_one w6 f' t') (by have := HNB.out; simp only [List.length_singleton]; omega) (fun b hb e => by
        obtain ⟨cur, hh⟩ := own_blk (H.out.idle h6).row hb
        simp only [Value.ownBlock, Option.some.injEq] at e
        have := lt_blk hh
        omega))
    have HEND := Lib.hid (show ∀ f' t' w6 v' w8, AddIs L f0 t0 i j f' t' → Chg Nowhere w w6 → w8.ownsRow 0 33 2 v' (L.take i ++ [(f', t')] ++ L.drop j).length (flat (L.take i ++ [(f', t')] ++ L.drop j)) → Chg (fun b => v.ownBlock = some b) (w6.alloc (.cells #[.int .i64 f', .int .i64 t'] 33)) w8 → (∀ b, v'.ownBlock = some b → v.ownBlock = some b ∨ (w6.alloc (.cells #[.int .i64 f', .int .i64 t'] 33)).heap.size ≤ b) →
        (w8.cell? ⟨o, 0, none⟩ = some v ∧ w8.frozen? ⟨o, 0, none⟩ = false) ∧ (∃ L', Ending.returned (.int .i64 (t' - f' - T)) = .returned (.int .i64 (Ra.total L' - Ra.total L)) ∧ Ra.Good L' ∧ (∀ n, Ra.mem L' n ↔ Ra.mem L n ∨ (f0 ≤ n ∧ n < t0)) ∧ L'.length ≤ L.length + 1 ∧ Moved w o v L' (w8.setCell ⟨o, 0, none⟩ v')) from fun f' t' w6 v' w8 ha h6 hv hc hn => by
      have h7 : Chg Nowhere w (w6.alloc (.cells #[.int .i64 f', .int .i64 t'] 33)) := h6.alloc _
      have hc2 : Chg (fun b => v.ownBlock = some b) w w8 := h7.none_then hc
      have hob : ¬ (v.ownBlock = some o) := fun e => by
        obtain ⟨cur, hh⟩ := own_blk H.out.row e
        rw [H.out.blk] at hh
        simp only [Option.some.injEq, Obj.cells.injEq] at hh
        exact absurd hh.2.1 (by decide)
      have hb := hc2.keep H.out.blk hob
      refine ⟨⟨by rw [cell_blk hb]; rfl, frozen_blk hb⟩, _, ?_, ha.good, ha.mem, ha.len, H.out.store hv hc2 fun b hb => ?_⟩
      · have e := ha.tot
        rw [← HB.out, ← HTT.out] at e
        rw [e]
      · rcases hn b hb with h | h
        · exact .inl h
        · exact .inr (Nat.le_trans h7.size h))
    have HAD := Lib.hid (show ∀ f' t', (i = j → f' = f0 ∧ t' = t0) → (i < j → f' = min f0 (L.getD i (0, 0)).1 ∧ t' = max t0 (L.getD (j - 1) (0, 0)).2) → AddIs L f0 t0 i j f' t' from fun f' t' p1 p2 => HTO.out.add HG.out F0.out.1 hft F0.out.2 p1 p2)
    clear hB hT
    have y5 : w5.cell? ⟨o, 0, none⟩ = some v := by rw [cell_blk H5.out.blk]; rfl
    rcases H.out.row.2 with ⟨hv, h0⟩ | ⟨g, c, cur, hv, -, -, hnc, -⟩
    · have hi0 : i = 0 := by have := HTO.out.ij; have := HTO.out.jn; omega
      have hj0 : j = 0 := by have := HTO.out.jn; omega
      subst hi0 hj0 hv
      have hB0 : B = [] := by rw [HB.out]; simp
      have HMM := Lib.hid (HM.out w5 (.slice none 0 0) (by rw [hB0]; exact Rd.nil w5 2))
      have HA := Lib.hid (HAD.out f0 t0 (fun _ => ⟨rfl, rfl⟩) (fun h => by omega))
      have hbn := HA.out.bnd
      have tb := HTB.out
      have HBN := Lib.hid hbn
      have w1 : IntKind.i64.wrap (t0 - f0) = t0 - f0 := by rw [IntKind.wrap_i64]; have := HA.out.bnd; unfold Ra.M at this; omega
      have w2 : IntKind.i64.wrap (t0 - f0 - T) = t0 - f0 - T := by rw [IntKind.wrap_i64]; have := HA.out.bnd; unfold Ra.M at this; omega
      clear hbn tb
      go_upto_region 8 with (go_at_call 74; refine HMM.out.mono ?_; rintro e w6 ⟨rfl, hC6⟩; have HC6 := Lib.hid (HC5.out.then_none hC6); clear hC6)
      have y6 := (H.out.idle HC6.out).cell0
      clear y5
      go_wp2_with (go_at_call 75; refine (HREP.out _ _ _ HC6.out).mono ?_; rintro e w8 ⟨v', rfl, q1, q2, q3⟩; obtain ⟨N9, A9, c9, rfl⟩ := ownR_shape3 q1; have HE := HEND.out _ _ _ _ w8 HA.out HC6.out q1 q2 q3; obtain ⟨⟨z1, z2⟩, HE⟩ := HE; have HE := Lib.hid HE; clear q1 q2 q3)
      go_ret
      exact HE.out
    · rw [← HN.out] at hv hnc
      subst hv
      have hij := HTO.out.ij
      have hjn : j ≤ n := by rw [HN.out]; exact HTO.out.jn
      have hic : i ≤ c := by omega
      have hjc : j ≤ c := by omega
      have HPA := Lib.hid (H5.out.part hij HTO.out.jn)
      rcases (by omega : c = i ∨ ¬ (c = i)) with hci | hci
      · have hji : j = i := by omega
        have hni : n = i := by omega
        subst hji hni hci
        have hB0 : B = [] := by rw [HB.out]; simp
        have HMM := Lib.hid (HM.out w5 (.slice (some ⟨g, 0, none⟩) 0 0) (by rw [hB0, Nat.sub_self]; exact ⟨rfl, _, _, rfl, Nat.le_refl _, fun h => by omega⟩))
        have HA := Lib.hid (HAD.out f0 t0 (fun _ => ⟨rfl, rfl⟩) (fun h => by omega))
        have hbn := HA.out.bnd
        have tb := HTB.out
        have HBN := Lib.hid hbn
        have w1 : IntKind.i64.wrap (t0 - f0) = t0 - f0 := by rw [IntKind.wrap_i64]; have := HA.out.bnd; unfold Ra.M at this; omega
        have w2 : IntKind.i64.wrap (t0 - f0 - T) = t0 - f0 - T := by rw [IntKind.wrap_i64]; have := HA.out.bnd; unfold Ra.M at this; omega
        clear hbn tb
        go_upto_region 8 with (go_at_call 74; refine HMM.out.mono ?_; rintro e w6 ⟨rfl, hC6⟩; have HC6 := Lib.hid (HC5.out.then_none hC6); clear hC6)
        have y6 := (H.out.idle HC6.out).cell0
        clear y5
        go_wp2_with (go_at_call 75; refine (HREP.out _ _ _ HC6.out).mono ?_; rintro e w8 ⟨v', rfl, q1, q2, q3⟩; obtain ⟨N9, A9, c9, rfl⟩ := ownR_shape3 q1; have HE := HEND.out _ _ _ _ w8 HA.out HC6.out q1 q2 q3; obtain ⟨⟨z1, z2⟩, HE⟩ := HE; have HE := Lib.hid HE; clear q1 q2 q3)
        go_ret
        exact HE.out
      · rcases (by omega : j = i ∨ i < j) with hji | hlt
        · subst hji
          have HMM := Lib.hid (HM.out w5 (.slice (some ⟨g, j * 2, none⟩) 0 (c - j)) (by rw [HB.out]; have := HPA.out; rw [Nat.sub_self] at this ⊢; exact this))
          have HA := Lib.hid (HAD.out f0 t0 (fun _ => ⟨rfl, rfl⟩) (fun h => by omega))
          have hbn := HA.out.bnd
          have tb := HTB.out
          have HBN := Lib.hid hbn
          have w1 : IntKind.i64.wrap (t0 - f0) = t0 - f0 := by rw [IntKind.wrap_i64]; have := HA.out.bnd; unfold Ra.M at this; omega
          have w2 : IntKind.i64.wrap (t0 - f0 - T) = t0 - f0 - T := by rw [IntKind.wrap_i64]; have := HA.out.bnd; unfold Ra.M at this; omega
          clear hbn tb
          go_upto_region 8 with (go_at_call 74; refine HMM.out.mono ?_; rintro e w6 ⟨rfl, hC6⟩; have HC6 := Lib.hid (HC5.out.then_none hC6); clear hC6)
          have y6 := (H.out.idle HC6.out).cell0
          clear y5
          go_wp2_with (go_at_call 75; refine (HREP.out _ _ _ HC6.out).mono ?_; rintro e w8 ⟨v', rfl, q1, q2, q3⟩; obtain ⟨N9, A9, c9, rfl⟩ := ownR_shape3 q1; have HE := HEND.out _ _ _ _ w8 HA.out HC6.out q1 q2 q3; obtain ⟨⟨z1, z2⟩, HE⟩ := HE; have HE := Lib.hid HE; clear q1 q2 q3)
          go_ret
          exact HE.out
        · skip
          have HMM := Lib.hid (HM.out w5 _ (by rw [HB.out]; exact HPA.out))
          obtain ⟨a, ha⟩ : ∃ a, a = (L.getD i (0, 0)).1 := ⟨_, rfl⟩
          obtain ⟨b, hb⟩ : ∃ a, a = (L.getD (j - 1) (0, 0)).2 := ⟨_, rfl⟩
          obtain ⟨k, hk⟩ : ∃ k, k = j - 1 := ⟨_, rfl⟩
          obtain ⟨f', hf'⟩ : ∃ x, x = min f0 a := ⟨_, rfl⟩
          obtain ⟨t', ht'⟩ : ∃ x, x = max t0 b := ⟨_, rfl⟩
          have HCE := Lib.hid (show ∀ w6, Chg Nowhere w w6 → w6.cell? ⟨g, i * 2, none⟩ = some (.int .i64 a) ∧ w6.cell? ⟨g, k * 2 + 1, none⟩ = some (.int .i64 b) from fun w6 h6 => by
            obtain ⟨g1, c1, e1, -, d0, -⟩ := (H.out.idle h6).cells (k := i) (by rw [← HN.out]; omega)
            obtain ⟨g2, c2, e2, -, -, d1⟩ := (H.out.idle h6).cells (k := k) (by rw [← HN.out]; omega)
            simp only [Value.slice.injEq, Option.some.injEq, Addr.mk.injEq] at e1 e2
            rw [← e1.1.1] at d0
            rw [← e2.1.1, hk] at d1
            exact ⟨by rw [ha]; exact d0, by rw [hb, hk]; exact d1⟩)
          have hk1 : (j : Int) - 1 = (k : Int) := by omega
          have hkn : k < n := by omega
          have hkw : IntKind.i64.wrap (k : Int) = (k : Int) := by rw [IntKind.wrap_i64]; have := HNB.out; have := HN.out; omega
          have hkb : (k : Int) ≤ 4000000 := by have := HNB.out; have := HN.out; omega
          have hjb : (j : Int) ≤ 4000000 := by have := HNB.out; have := HN.out; omega
          have hkn2 : (k : Int) < (n : Int) := by omega
          have hin2 : (i : Int) < (n : Int) := by omega
          have hkz : ¬ (j = 0) := by omega
          have hin : i < n := by omega
          have E1 := Lib.hid (show (if a < f0 then a else f0) = f' by rw [hf']; split <;> omega)
          have E2 := Lib.hid (show (if t0 < b then b else t0) = t' by rw [ht']; split <;> omega)
          have HAB := Lib.hid (show f' = min f0 (L.getD i (0, 0)).1 ∧ t' = max t0 (L.getD (j - 1) (0, 0)).2 by rw [hf', ht', ha, hb]; exact ⟨rfl, rfl⟩)
          have hkji : k - i < j - i := by omega
          clear ha hb hk hf' ht'
          have HA := Lib.hid (HAD.out f' t' (fun h => by omega) (fun _ => HAB.out))
          have hbn := HA.out.bnd
          have tb := HTB.out
          have HBN := Lib.hid hbn
          have w1 : IntKind.i64.wrap (t' - f') = t' - f' := by rw [IntKind.wrap_i64]; have := HA.out.bnd; unfold Ra.M at this; omega
          have w2 : IntKind.i64.wrap (t' - f' - T) = t' - f' - T := by rw [IntKind.wrap_i64]; have := HA.out.bnd; unfold Ra.M at this; omega
          clear hbn tb
          go_upto_region 7 with (go_at_call 74; refine HMM.out.mono ?_; rintro e w6 ⟨rfl, hC6⟩; have HC6 := Lib.hid (HC5.out.then_none hC6); clear hC6)
          have y6 := (H.out.idle HC6.out).cell0
          clear y5
          obtain ⟨x1, x2⟩ := HCE.out w6 HC6.out
          go_upto_region 7 with fail
          go_quiet (fail)
          simp only [E1.out, E2.out]
          have HC7 := Lib.hid (HC6.out.then_none ((Chg.refl Nowhere w6).drewN nq))
          have y7 := (H.out.idle HC7.out).cell0
          generalize w6.drewN nq = w7 at HC7 y7 ⊢
          clear y6 x1 x2 hk1 hkw E1 E2 HC6
          go_wp2_with (go_at_call 75; refine (HREP.out _ _ _ HC7.out).mono ?_; rintro e w8 ⟨v', rfl, q1, q2, q3⟩; obtain ⟨N9, A9, c9, rfl⟩ := ownR_shape3 q1; have HE := HEND.out _ _ _ _ w8 HA.out HC7.out q1 q2 q3; obtain ⟨⟨z1, z2⟩, HE⟩ := HE; have HE := Lib.hid HE; clear q1 q2 q3)
          go_ret
          exact HE.out
  · have hd : decide (t0 ≤ f0) = true := decide_eq_true (by omega)
    have hd2 : t0 ≤ f0 := by omega
    have HE := Lib.hid (show ∀ w4, Chg Nowhere w w4 → ∃ L', Ending.returned (.int .i64 0) = .returned (.int .i64 (Ra.total L' - Ra.total L)) ∧ Ra.Good L' ∧ (∀ n, Ra.mem L' n ↔ Ra.mem L n ∨ (f0 ≤ n ∧ n < t0)) ∧ L'.length ≤ L.length + 1 ∧ Moved w o v L' w4 from fun w4 h4 =>
      ⟨L, by rw [Int.sub_self], hG, fun n => ⟨.inl, fun h => h.elim id (fun h => by omega)⟩, by omega, ⟨v, h.idle h4, fun i hi => .inl hi⟩, h4.mono fun _ _ h => h.elim⟩)
    clear h hG
    go_enter Try.func16, Try.ntmps16
    go_upto_region 2 with (go_at_call 72; refine (HI.out _).mono ?_; rintro e w4 ⟨rfl, hC4⟩; have HC4 := Lib.hid hC4; clear hC4)
    go_wp2_with fail
    go_ret
    exact HE.out _ HC4.out
end Go.Proofs.Ytlkbfacdaelbfaa
