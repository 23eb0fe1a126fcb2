/-
  A region that draws its order and has guards, all of which hold: each operation of its front once.
  The document's package for a sealed text: Seal, Open (the walks).
-/
import Derived.Test.YtebmbapaedlmiaaDoorSAdE
import Derived.Test.YtebmbapaedlmiaaDoorSAdQ
import Derived.Test.YtebmbapaedlmiaaDoorSAeZ2

namespace Go.Proofs.YtebmbapaedlmiaaDoor
open Go.RowKit Ae
set_option linter.unusedVariables false

/-- One operation after the other, each wanted, each from what it waits for. -/
def StepsG (P : Program) (l : List Oper) (ds : List Nat) (A : List Nat) (F : List Fact) (R : World → World → Prop) (a : Act) (w : World) : Nat → List Oper → Prop
  | _, [] => True
  | i, o :: rest => (∀ x w', R w w' → (∀ j, waits2 l i j = true → (F.getD j nothing).at x w') →
      Region.wanted o (yielded l.toArray (puts a ds x).tmps) = true ∧
      ∀ (K : Act → World → Prop) (Q' : Exit → Act → World → Prop), (∀ v w2, R w' w2 → (F.getD i nothing).at (upd x o.dst v) w2 → (∀ d, o.dst = some d → d ∈ A → Born w' w2 v) → K ((puts a ds x).put o.dst v) w2) → o.wp P (puts a ds x) w' K Q') ∧
      StepsG P l ds A F R a w (i + 1) rest
theorem StepsG.nil {P : Program} {l : List Oper} {ds : List Nat} {A : List Nat} {F : List Fact} {R : World → World → Prop} {a : Act} {w : World} {i : Nat} : StepsG P l ds A F R a w i [] := trivial
theorem StepsG.cons {P : Program} {l : List Oper} {ds : List Nat} {A : List Nat} {F : List Fact} {R : World → World → Prop} {a : Act} {w : World} {i : Nat} {o : Oper} {rest : List Oper}
    (g : ∀ x w', R w w' → (∀ j, waits2 l i j = true → (F.getD j nothing).at x w') → Region.wanted o (yielded l.toArray (puts a ds x).tmps) = true)
    (h : ∀ x w', R w w' → (∀ j, waits2 l i j = true → (F.getD j nothing).at x w') →
      ∀ (K : Act → World → Prop) (Q' : Exit → Act → World → Prop), (∀ v w2, R w' w2 → (F.getD i nothing).at (upd x o.dst v) w2 → (∀ d, o.dst = some d → d ∈ A → Born w' w2 v) → K ((puts a ds x).put o.dst v) w2) → o.wp P (puts a ds x) w' K Q')
    (k : StepsG P l ds A F R a w (i + 1) rest) : StepsG P l ds A F R a w i (o :: rest) := ⟨fun x w' hR hd => ⟨g x w' hR hd, h x w' hR hd⟩, k⟩
theorem StepsG.get {P : Program} {l : List Oper} {ds : List Nat} {A : List Nat} {F : List Fact} {R : World → World → Prop} {a : Act} {w : World} : ∀ {k : Nat} {L : List Oper}, StepsG P l ds A F R a w k L → ∀ j o, L[j]? = some o →
    ∀ x w', R w w' → (∀ i, waits2 l (k + j) i = true → (F.getD i nothing).at x w') →
      Region.wanted o (yielded l.toArray (puts a ds x).tmps) = true ∧
      ∀ (K : Act → World → Prop) (Q' : Exit → Act → World → Prop), (∀ v w2, R w' w2 → (F.getD (k + j) nothing).at (upd x o.dst v) w2 → (∀ d, o.dst = some d → d ∈ A → Born w' w2 v) → K ((puts a ds x).put o.dst v) w2) → o.wp P (puts a ds x) w' K Q'
  | k, [], _, j, o, ho => by simp at ho
  | k, o' :: L, h, 0, o, ho => by simp at ho; subst ho; exact h.1
  | k, o' :: L, h, j + 1, o, ho => by
    have := h.2.get j o (by simpa using ho)
    rw [show k + 1 + j = k + (j + 1) by omega] at this
    exact this
theorem wp_region_calmG {P : Program} {l : List Oper} {Q : Exit → Act → World → Prop} {id : Nat} {a : Act} {w : World} (n : Nat) (ds : List Nat) (A : List Nat) (F : List Fact) (R : World → World → Prop) (hm : P.follows .mixedOrders = true) (hB : calmB l n ds (F.map (·.slots)) = true)
    (refl : ∀ w, R w w) (trans : ∀ {a b c}, R a b → R b c → R a c) (grows : ∀ {a b}, R a b → a.heap.size ≤ b.heap.size) (hA : ∀ d, d ∈ A → d ∈ ds) (drew : R w { w with drawn := w.drawn + 1 })
    (stable : Lasting R F) (step : StepsG P l ds A F R a w 0 (l.take n))
    (tail : ∀ x w', R w w' → (∀ i, i < n → (F.getD i nothing).at x w') → (∀ d e, d ∈ A → e ∈ A → d ≠ e → blk (x d) ≠ blk (x e)) → wpList P l.toArray Q (l.drop n) (puts a ds x) w') : (Code.region id l.toArray true).wp P Q a w := by
  refine wp_region_calm n ds A F R hm hB refl trans grows hA drew (fun i _ x w1 w2 hR h => stable.get i _ _ _ hR h) (fun i o ho hi x w' hR hd => ?_) tail
  have ho2 : (l.take n)[i]? = some o := by rw [List.getElem?_take_of_lt hi]; exact ho
  have := step.get i o ho2 x w' hR (by rw [Nat.zero_add]; exact hd)
  rw [Nat.zero_add] at this
  rw [if_pos this.1]
  exact this.2 _ _ fun v w2 h1 h2 h3 => ⟨v, rfl, h1, h2, h3⟩
theorem want_none {o : Oper} {f : Nat → Option Bool} (h : o.guard = none) : Region.wanted o f = true := by simp [Region.wanted, h]
theorem want_some {o : Oper} {l : List Oper} {a : Act} {ds : List Nat} {x : Nat → Value} {j d : Nat} {b : Bool} (hg : o.guard = some (j, b)) (hd : (l[j]?).bind (·.dst) = some d) (hin : ds.contains d = true) (hs : (a.tmps[d]?).isSome = true) (hx : x d = .bool b) :
    Region.wanted o (yielded l.toArray (puts a ds x).tmps) = true := by
  obtain ⟨u, hu⟩ := Option.isSome_iff_exists.1 hs
  have e : yielded l.toArray (puts a ds x).tmps j = some b := by
    unfold yielded
    rw [List.getElem?_toArray, hd]
    simp only [Option.bind_some]
    rw [puts_get, hu, Option.map_some, if_pos hin, hx]
  simp [Region.wanted, hg, e]
theorem wp_conv {P : Program} {o : Oper} {a : Act} {w : World} {s t : TypeId} {x : Operand} {vx v : Value} {K : Act → World → Prop} {Q : Exit → Act → World → Prop} (ho : o.op = .convert s t x) (hx : a.eval x = vx)
    (hrun : (convert s t vx).run P w = .ok v w) (h : K (a.put o.dst v) w) : o.wp P a w K Q := by
  refine wp_run ?_ h
  unfold execOp
  simp only [ho, hx]
  simp [hrun]
theorem wp_field_at {P : Program} {o : Oper} {a : Act} {w : World} {t : TypeId} {x : Operand} {i : Nat} {vx v : Value} {K : Act → World → Prop} {Q : Exit → Act → World → Prop} (ho : o.op = .fieldAddr t x i) (hx : a.eval x = vx)
    (hrun : (Instr.fieldAt t vx i).run P w = .ok v w) (h : K (a.put o.dst v) w) : o.wp P a w K Q := by
  refine wp_run ?_ h
  unfold execOp
  simp only [ho, hx]
  simp [hrun]
theorem wp_pick {P : Program} {o : Oper} {a : Act} {w : World} {c x y : Operand} {b : Bool} {v : Value} {K : Act → World → Prop} {Q : Exit → Act → World → Prop} (ho : o.op = .pick c x y) (hc : a.eval c = .bool b) (hx : (if b then a.eval x else a.eval y) = v)
    (h : K (a.put o.dst v) w) : o.wp P a w K Q := by
  refine wp_run ?_ h
  subst hx
  unfold execOp
  simp only [ho, hc]
  cases b <;> simp [asBool]
theorem fa_key (g : Nat) (w : World) : (Instr.fieldAt 28 (.pointer (some ⟨g, 0, none⟩)) 0).run Tryd.prog w = .ok (.pointer (some ⟨g, 0, none⟩)) w := by go_simp
theorem fa_nonce (g : Nat) (w : World) : (Instr.fieldAt 28 (.pointer (some ⟨g, 0, none⟩)) 1).run Tryd.prog w = .ok (.pointer (some ⟨g, 32, none⟩)) w := by go_simp
theorem fa_beside (g : Nat) (w : World) : (Instr.fieldAt 28 (.pointer (some ⟨g, 0, none⟩)) 2).run Tryd.prog w = .ok (.pointer (some ⟨g, 44, none⟩)) w := by go_simp
theorem eq_str (s : ByteArray) (w : World) : (binOp .eql 9 (.string s) (.string s)).run Tryd.prog w = .ok (.bool true) w := by go_simp
theorem eqg_str (x y : Operand) (s t : ByteArray) (w : World) : (eqGuard .eql 9 x y (.string s) (.string t)).run Tryd.prog w = .ok () w := by simp [eqGuard]
end Go.Proofs.YtebmbapaedlmiaaDoor

namespace Go.Proofs.YtebmbapaedlmiaaDoor
open Go.RowKit Ae
set_option linter.unusedVariables false

theorem enters_rtag : Enters Tryd.prog 16 := enters_of Tryd.func16 (by kernel_rfl) rfl
theorem enters_rxor4 : Enters Tryd.prog 13 := enters_of Tryd.func13 (by kernel_rfl) rfl
theorem neq_sb (l m : List Nat) (hl : Byt l) (hm : Byt m) (w : World) : (binOp .neq 9 (.string (sb l)) (.string (sb m))).run Tryd.prog w = .ok (.bool (!decide (l = m))) w := by
  have hd : decide (sb l = sb m) = decide (l = m) := decide_eq_decide.2 (sb_iff hl hm)
  rw [← hd]
  by_cases h : sb l = sb m
  · rw [h]
    go_simp
  · have hs : ¬ (sb l).toList = (sb m).toList := fun e => h (by
      rw [ByteArray.toList_eq, ByteArray.toList_eq] at e
      exact ByteArray.ext (Array.toList_inj.1 e))
    simp [h]
    go_simp
theorem eqg_neq (x y : Operand) (s t : ByteArray) (w : World) : (eqGuard .neq 9 x y (.string s) (.string t)).run Tryd.prog w = .ok () w := by simp [eqGuard]
set_option maxHeartbeats 4000000 in
set_option maxRecDepth 100000 in
theorem rseal_any (key nonce : List Nat) (hk : key.length = 32) (hkb : Byt key) (hn : nonce.length = 12) (hnb : Byt nonce) (v x : Value) (l m : List Nat) (w : World) (h : RdB w v l) (hx : RdB w x m) (hb : Byt l) (hmb : Byt m) (hl : l.length ≤ 40000000) (hm : m.length ≤ 40000000) :
    Calls Tryd.prog 10 #[.agg (bs key), .agg (bs nonce), v, x] w (GivesO w (sealL key nonce l m)) := by
  obtain ⟨O, hO⟩ : ∃ O, O = xors key 1 nonce m := ⟨_, rfl⟩
  obtain ⟨T, hT⟩ : ∃ T, T = tagL key nonce l O := ⟨_, rfl⟩
  have hOl : O.length = m.length := by rw [hO, xors_len]
  have hOb : Byt O := by rw [hO]; exact xors_byt hmb
  have HOL := Lib.hid (show O.length ≤ 40000000 by omega)
  have HTL := Lib.hid (show T.length = 16 by rw [hT]; exact tagL_len _ _ _ _)
  have HS := Lib.hid (show sealL key nonce l m = O ++ T by rw [hT, hO]; rfl)
  have HCX := Lib.hid (show ∀ w1, Chg Nowhere w w1 → Calls Tryd.prog 13 #[.agg (bs key), .int .u32 1, .agg (bs nonce), x] w1 (GivesO w1 O) from fun w1 hc => by rw [hO]; exact rxor_any key nonce 1 hk hkb hn hnb x m w1 (hx.same hc) hmb (by omega) (by omega))
  have HCT := Lib.hid (show ∀ w1 s, Chg Nowhere w w1 → RdB w1 s O → Calls Tryd.prog 16 #[.agg (bs key), .agg (bs nonce), v, s] w1 (Gives w1 (.agg (bs T))) from fun w1 s hc hs => by rw [hT]; exact rtag_any key nonce hk hkb hn hnb v s l O w1 (h.same hc) hs hb hOb hl (by omega))
  have HIK := Lib.hid (show InfoArr 23 (bs key).size by rw [bs_size, hk]; exact info32)
  have HIN := Lib.hid (show InfoArr 25 (bs nonce).size by rw [bs_size, hn]; exact info12)
  have HIT := Lib.hid (show InfoArr 36 (bs T).size by rw [bs_size, HTL.out]; exact info16)
  obtain ⟨-, A, c, rfl, hnc, -⟩ := h
  obtain ⟨-, A2, c2, rfl, hnc2, -⟩ := hx
  clear hO hT hk hkb hn hnb hb hmb hm hOl hOb
  have HC0 := Lib.hid (((Chg.refl Nowhere w).alloc (.cells (bs key) 23)).alloc (.cells (bs nonce) 25))
  go_enter Tryd.func10, Tryd.ntmps10
  go_upto_region 2 with (first
    | (refine wpList_load_row rfl 23 (Operand.tmp 4) rfl w.heap.size rfl 23 _ (0, 0) _ (alloc_old (alloc_new w (.cells (bs key) 23))) Tryd.underlying23 rfl HIK.out ?_)
    | (refine wpList_load_row rfl 25 (Operand.tmp 5) rfl (w.heap.size + 1) rfl 25 _ (0, 0) _ (new_1 w (.cells (bs key) 23) (.cells (bs nonce) 25)) Tryd.underlying25 rfl HIN.out ?_)
    | (go_at_call 13; refine (HCX.out _ HC0.out).mono ?_; rintro e w1 ⟨v1, rfl, ⟨ho1, hg1⟩, hC1⟩; have HW1 := Lib.hid (show RxW w w1 key nonce v1 O from ⟨hC1.same (alloc_old (alloc_new w (.cells (bs key) 23))), hC1.same (new_1 w (.cells (bs key) 23) (.cells (bs nonce) 25)), ho1, fun i hi => Nat.le_trans HC0.out.size (hg1 i hi), HC0.out.then_none hC1⟩); clear ho1 hg1 hC1))
  go_upto_region 3 with (first
    | (refine wpList_load_row rfl 23 (Operand.tmp 4) rfl w.heap.size rfl 23 _ (0, 0) _ HW1.out.k Tryd.underlying23 rfl HIK.out ?_)
    | (refine wpList_load_row rfl 25 (Operand.tmp 5) rfl (w.heap.size + 1) rfl 25 _ (0, 0) _ HW1.out.n Tryd.underlying25 rfl HIN.out ?_)
    | (go_at_call 16; refine (HCT.out _ _ HW1.out.c (rd_own HW1.out.own)).mono ?_; rintro e w3 ⟨rfl, hC3⟩; have HW3 := Lib.hid (HW1.out.chg hC3); clear hC3)
    | (refine wpList_store_row rfl 36 (Operand.tmp 10) (Operand.tmp 19) rfl w3.heap.size (bs T) rfl rfl 36 (bs (List.replicate 16 0)) (alloc_new _ _) HIT.out (by rw [bs_size, bs_size, HTL.out]; rfl) (bs_one _) ?_))
  try simp only [Act.put]
  show Code.wp _ _ _ _ ((w3.alloc (.cells (bs (List.replicate 16 0)) 36)).setRow w3.heap.size (bs T))
  have HW4 := Lib.hid (show RxW w ((w3.alloc (.cells (bs (List.replicate 16 0)) 36)).setRow w3.heap.size (bs T)) key nonce v1 O from HW3.out.chg (((Chg.refl Nowhere _).alloc _).putRow (.inr (Nat.le_refl _))))
  have HT4 := Lib.hid (show ((w3.alloc (.cells (bs (List.replicate 16 0)) 36)).setRow w3.heap.size (bs T)).heap[w3.heap.size]? = some (.cells (bs T) 36 (0, 0)) from row_blk (alloc_new _ _))
  generalize (w3.alloc (.cells (bs (List.replicate 16 0)) 36)).setRow w3.heap.size (bs T) = w4 at HW4 HT4 ⊢
  generalize w3.heap.size = g10 at HT4 ⊢
  clear HW3 HW1 HC0 HCX HCT
  obtain ⟨v5, w5, hr5, hW5, -⟩ := HW4.out.app (rd_blk HT4.out HTL.out) (by rw [HTL.out]; have := HOL.out; omega)
  have HR5 := Lib.hid hr5
  have HW5 := Lib.hid hW5
  clear hr5 hW5
  go_wp2_with (at_builtin; refine Lib.wpList_append_run _ rfl _ _ 26 26 rfl v1 (.slice (some ⟨g10, 0, none⟩) 16 16) rfl rfl v5 w5 HR5.out ?_)
  go_ret
  exact ⟨_, rfl, ⟨by rw [HS.out]; exact HW5.out.own, HW5.out.ge⟩, HW5.out.c⟩
set_option maxHeartbeats 4000000 in
set_option maxRecDepth 100000 in
theorem ropen_short (k nn v x : Value) (m : List Nat) (w : World) (hx : RdB w x m) (hm : m.length < 16) (cs1 cs2 : Array Value) (hk : k = .agg cs1) (hn : nn = .agg cs2) :
    Calls Tryd.prog 12 #[k, nn, v, x] w (GivesT w [] 3) := by
  subst hk hn
  obtain ⟨n, hnn⟩ : ∃ n, n = m.length := ⟨_, rfl⟩
  obtain ⟨-, A2, c2, rfl, hnc2, -⟩ := hx
  rw [← hnn] at hnc2 hm ⊢
  clear hnn
  go_enter Tryd.func12, Tryd.ntmps12
  have hd : decide ((n : Int) - 16 < 0) = true := decide_eq_true (by omega)
  go_wp2_with fail
  refine bodyPost_ret (v := .tuple #[.slice .none 0 0, .int .i64 3]) (by simp [results, Tryd.results12, go_sem]) rfl ?_
  exact ⟨_, rfl, rd_none _ _ _ _ rfl, ((Chg.refl Nowhere w).alloc _).alloc _⟩
set_option maxHeartbeats 4000000 in
set_option maxRecDepth 100000 in
theorem ropen_any (key nonce : List Nat) (hk : key.length = 32) (hkb : Byt key) (hn : nonce.length = 12) (hnb : Byt nonce) (v x : Value) (l m : List Nat) (n : Nat) (w : World) (h : RdB w v l) (hx : RdB w x m) (hb : Byt l) (hmb : Byt m) (hl : l.length ≤ 40000000) (hm : m.length = n + 16) (hnl : n ≤ 40000000) :
    Calls Tryd.prog 12 #[.agg (bs key), .agg (bs nonce), v, x] w (GivesT w (if tagL key nonce l (m.take n) = m.drop n then xors key 1 nonce (m.take n) else []) (if tagL key nonce l (m.take n) = m.drop n then 0 else 70)) := by
  obtain ⟨M, hM⟩ : ∃ M, M = m.take n := ⟨_, rfl⟩
  obtain ⟨D, hD⟩ : ∃ D, D = m.drop n := ⟨_, rfl⟩
  rw [← hM, ← hD]
  obtain ⟨T, hT⟩ : ∃ T, T = tagL key nonce l M := ⟨_, rfl⟩
  obtain ⟨O, hO⟩ : ∃ O, O = xors key 1 nonce M := ⟨_, rfl⟩
  rw [← hT, ← hO]
  have hMl : M.length = n := by rw [hM, List.length_take, hm]; omega
  have hMb : Byt M := by rw [hM]; exact hmb.take n
  have hDl : D.length = 16 := by rw [hD, List.length_drop, hm]; omega
  have hDb : Byt D := by rw [hD]; exact hmb.drop n
  have hTl : T.length = 16 := by rw [hT]; exact tagL_len _ _ _ _
  have hTb : Byt T := by rw [hT]; exact tagL_byt _ _ _ _
  have HTL := Lib.hid hTl
  have HCX := Lib.hid (show ∀ w1 s, Chg Nowhere w w1 → RdB w1 s M → Calls Tryd.prog 13 #[.agg (bs key), .int .u32 1, .agg (bs nonce), s] w1 (GivesO w1 O) from fun w1 s hc hs => by rw [hO]; exact rxor_any key nonce 1 hk hkb hn hnb s M w1 hs hMb (by omega) (by omega))
  have HCT := Lib.hid (show ∀ w1 s, Chg Nowhere w w1 → RdB w1 s M → Calls Tryd.prog 16 #[.agg (bs key), .agg (bs nonce), v, s] w1 (Gives w1 (.agg (bs T))) from fun w1 s hc hs => by rw [hT]; exact rtag_any key nonce hk hkb hn hnb v s l M w1 (h.same hc) hs hb hMb hl (by omega))
  obtain ⟨nb, hnb2⟩ : ∃ b, b = !decide (T = D) := ⟨_, rfl⟩
  obtain ⟨R, hRR⟩ : ∃ R, R = if T = D then O else [] := ⟨_, rfl⟩
  obtain ⟨E, hEE⟩ : ∃ R, R = if T = D then 0 else 70 := ⟨_, rfl⟩
  rw [← hRR, ← hEE]
  have HRE := Lib.hid (show (nb = false → R = O ∧ E = 0) ∧ (nb = true → R = [] ∧ E = 70) from ⟨fun h => by
    have e : T = D := by rw [hnb2] at h; simpa using h
    rw [hRR, hEE, if_pos e, if_pos e]; exact ⟨rfl, rfl⟩, fun h => by
    have e : ¬ T = D := by rw [hnb2] at h; simpa using h
    rw [hRR, hEE, if_neg e, if_neg e]; exact ⟨rfl, rfl⟩⟩)
  obtain ⟨ST, hST⟩ : ∃ s, s = sb T := ⟨_, rfl⟩
  obtain ⟨SD, hSD⟩ : ∃ s, s = sb D := ⟨_, rfl⟩
  have HNE := Lib.hid (show ∀ w1, (binOp .neq 9 (.string ST) (.string SD)).run Tryd.prog w1 = .ok (.bool nb) w1 from fun w1 => by rw [hST, hSD, hnb2]; exact neq_sb T D hTb hDb w1)
  have HIK := Lib.hid (show InfoArr 23 (bs key).size by rw [bs_size, hk]; exact info32)
  have HIN := Lib.hid (show InfoArr 25 (bs nonce).size by rw [bs_size, hn]; exact info12)
  have HIT := Lib.hid (show InfoArr 36 (bs T).size by rw [bs_size, hTl]; exact info16)
  have hu1 := Tryd.underlying23
  have hu2 := Tryd.underlying25
  have hi1 : (Tryd.prog.info? 23).map (·.size) = some (bl key).length := by have := HIK.out; rwa [InfoArr, bs_size, ← bl_len] at this
  have hi2 : (Tryd.prog.info? 25).map (·.size) = some (bl nonce).length := by have := HIN.out; rwa [InfoArr, bs_size, ← bl_len] at this
  have HX := Lib.hid hx
  obtain ⟨-, A, c, rfl, hnc, -⟩ := h
  obtain ⟨-, A2, c2, rfl, hnc2, hA2⟩ := hx
  obtain ⟨g, o, rfl, hgl, hcell⟩ := hA2 (by omega)
  have HMX := Lib.hid (show ∀ w1 cc, n ≤ cc → cc ≤ c2 → Chg Nowhere w w1 → RdB w1 (cutB (some ⟨g, o, none⟩) 0 n cc) M from fun w1 cc h1 h2 hc => by
    have := (HX.out.same hc).cut (lo := 0) (hi := n) (m := cc) (Nat.zero_le _) (by omega) h1 h2
    rw [List.drop_zero, Nat.sub_zero, ← hM] at this
    exact this)
  have hcut : cutB (some ⟨g, o, none⟩) n (n + 16) c2 = .slice (some ⟨g, o + n, none⟩) 16 (c2 - n) := by
    unfold cutB
    rw [if_neg (by omega), show n + 16 - n = 16 by omega]
    simp [Addr.add]
  have HDX := Lib.hid (show ∀ w1, Chg Nowhere w w1 → RdB w1 (.slice (some ⟨g, o + n, none⟩) 16 (c2 - n)) D from fun w1 hc => by
    have := (HX.out.same hc).cut (lo := n) (hi := n + 16) (m := c2) (by omega) (by omega) (by omega) (Nat.le_refl _)
    rw [hcut, show n + 16 - n = 16 by omega, ← hD, List.take_of_length_le (by omega)] at this
    exact this)
  have HCUT := Lib.hid hcut
  have HST := Lib.hid hST
  have HSD := Lib.hid hSD
  rw [hm]
  rw [hm] at hnc2
  clear hnb2 hST hSD hRR hEE hO hT hM hD hk hkb hn hnb hb hmb hMl hMb hDl hDb hTl hTb hA2 hcell hcut hgl HX hm
  have HC0 := Lib.hid (((Chg.refl Nowhere w).alloc (.cells (bs key) 23)).alloc (.cells (bs nonce) 25))
  have HRK := Lib.hid (show ((w.alloc (.cells (bs key) 23)).alloc (.cells (bs nonce) 25)).rangeAt w.heap.size 0 (bl key) from rangeAt_blk (alloc_old (alloc_new _ _)))
  have HRN := Lib.hid (show ((w.alloc (.cells (bs key) 23)).alloc (.cells (bs nonce) 25)).rangeAt (w.heap.size + 1) 0 (bl nonce) from rangeAt_blk (new_1 _ _ _))
  have hd0 : decide ((n : Int) < 0) = false := decide_eq_false (by omega)
  have hsub : ((n : Int) + 16) - 16 = (n : Int) := by omega
  go_enter Tryd.func12, Tryd.ntmps12
  go_wp2_with fail
  refine wp_region_calm0 8 [17, 18, 19, 20, 21, 22, 23, 11] [11] [⟨[17], fun v _ => v = [.agg (bs key)]⟩, ⟨[18], fun v _ => v = [.agg (bs nonce)]⟩, ⟨[19], fun v _ => v = [.slice A l.length c]⟩, ⟨[20], fun v _ => v = [.slice (some ⟨g, o, none⟩) (n + 16) c2]⟩, ⟨[21], fun v _ => v = [.int .i64 (n : Int)]⟩, ⟨[22], fun v _ => v = [cutB (some ⟨g, o, none⟩) 0 n c2]⟩, ⟨[23], fun v _ => v = [.agg (bs T)]⟩, ⟨[11], IsNew w.heap.size 36 (bs (List.replicate 16 0))⟩] (Chg Nowhere) (by kernel_rfl) (by kernel_rfl) (by kernel_rfl) (Chg.refl _) Chg.trans' Chg.size (by decide) (Chg.refl Nowhere _).drew ?_ ?_ ?_
  · exact ⟨fun _ _ _ _ h => h, fun _ _ _ _ h => h, fun _ _ _ _ h => h, fun _ _ _ _ h => h, fun _ _ _ _ h => h, fun _ _ _ _ h => h, fun _ _ _ _ h => h, fun _ _ _ hR h => IsNew.chg h hR, trivial⟩
  · simp only [List.take_succ_cons, List.take_zero]
    refine Steps.cons ?_ (Steps.cons ?_ (Steps.cons ?_ (Steps.cons ?_ (Steps.cons ?_ (Steps.cons ?_ (Steps.cons ?_ (Steps.cons ?_ Steps.nil)))))))
    · intro x w' hR hd K Q' hK
      exact wp_load_mid 23 (Operand.tmp 4) rfl w.heap.size 0 rfl (bl key) _ (rangeAt_chg HRK.out hR) hu1 rfl hi1 (hK _ _ (Chg.refl _ _) rfl (fun d h1 h2 => by cases h1; simp at h2))
    · intro x w' hR hd K Q' hK
      exact wp_load_mid 25 (Operand.tmp 5) rfl (w.heap.size + 1) 0 rfl (bl nonce) _ (rangeAt_chg HRN.out hR) hu2 rfl hi2 (hK _ _ (Chg.refl _ _) rfl (fun d h1 h2 => by cases h1; simp at h2))
    · intro x w' hR hd K Q' hK
      exact wp_move rfl rfl (hK _ _ (Chg.refl _ _) rfl (fun d h1 h2 => by cases h1; simp at h2))
    · intro x w' hR hd K Q' hK
      exact wp_move rfl rfl (hK _ _ (Chg.refl _ _) rfl (fun d h1 h2 => by cases h1; simp at h2))
    · intro x w' hR hd K Q' hK
      exact wp_move rfl rfl (hK _ _ (Chg.refl _ _) rfl (fun d h1 h2 => by cases h1; simp at h2))
    · intro x w' hR hd K Q' hK
      exact wp_slice_of rfl (List.head_eq_of_cons_eq (hd 3 (by kernel_rfl))) rfl (congrArg some (List.head_eq_of_cons_eq (hd 4 (by kernel_rfl)))) rfl (cut_h w' (some ⟨g, o, none⟩) (n + 16) c2 n (by omega)) (hK _ _ (Chg.refl _ _) rfl (fun d h1 h2 => by cases h1; simp at h2))
    · intro x w' hR hd K Q' hK
      exact wp_call_fn rfl enters_rtag [.agg (bs key), .agg (bs nonce), .slice A l.length c, cutB (some ⟨g, o, none⟩) 0 n c2] (four_slots (hd 0 (by kernel_rfl)) (hd 1 (by kernel_rfl)) (hd 2 (by kernel_rfl)) (hd 5 (by kernel_rfl))) ((HCT.out w' _ (HC0.out.then_none hR) (HMX.out _ _ (by omega) (Nat.le_refl _) (HC0.out.then_none hR))).mono fun e w1 ⟨he, hC1⟩ => ⟨_, he, hK _ _ hC1 rfl (fun d h1 h2 => by cases h1; simp at h2)⟩)
    · intro x w' hR hd K Q' hK
      exact wp_alloc_op rfl Tryd.zeroValue36 (hK _ _ ((Chg.refl _ _).alloc _) ⟨_, rfl, Nat.le_trans HC0.out.size hR.size, alloc_new _ _⟩ (fun _ _ _ => ⟨_, rfl, Nat.le_refl _, by simp⟩))
  · intro x w' hR hV hap
    have e23 : x 23 = .agg (bs T) := List.head_eq_of_cons_eq (hV 6 (by decide))
    obtain ⟨b11, h11, B11, C11⟩ := hV 7 (by decide)
    have e11 : x 11 = .pointer (some ⟨b11, 0, none⟩) := List.head_eq_of_cons_eq h11
    have HC11 := Lib.hid C11
    have HB11 := Lib.hid B11
    have HCW := Lib.hid (HC0.out.then_none hR)
    have HBK := Lib.hid (show w'.heap[w.heap.size]? = some (.cells (bs key) 23 (0, 0)) from hR.same (alloc_old (alloc_new w (.cells (bs key) 23))))
    have HBN := Lib.hid (show w'.heap[w.heap.size + 1]? = some (.cells (bs nonce) 25 (0, 0)) from hR.same (new_1 w (.cells (bs key) 23) (.cells (bs nonce) 25)))
    have HNE1 := Lib.hid (show b11 ≠ w.heap.size ∧ b11 ≠ w.heap.size + 1 from ⟨fun e => by rw [e] at C11; exact absurd (HBK.out.symm.trans C11) (by simp), fun e => by rw [e] at C11; exact absurd (HBN.out.symm.trans C11) (by simp)⟩)
    clear hR hV hap h11 C11 B11 HRK HRN
    set_option linter.unusedSimpArgs false in
    simp only [puts, putsL, List.contains_cons, List.contains_nil, Nat.reduceBEq, Bool.or_true, Bool.true_or, Bool.or_false, Bool.false_eq_true, if_true, if_false, Nat.reduceAdd, List.drop_succ_cons, List.drop_zero, e11, e23]
    clear e11 e23
    go_wp2_with (refine wpList_store_row rfl 36 (Operand.tmp 11) (Operand.tmp 23) rfl b11 (bs T) rfl rfl 36 (bs (List.replicate 16 0)) HC11.out HIT.out (by rw [bs_size, bs_size, HTL.out]; rfl) (bs_one _) ?_)
    try simp only [Act.put]
    have HT4 := Lib.hid (show (w'.setRow b11 (bs T)).heap[b11]? = some (.cells (bs T) 36 (0, 0)) from row_blk HC11.out)
    have HC4 := Lib.hid (show Chg Nowhere w (w'.setRow b11 (bs T)) from HCW.out.putRow (.inr HB11.out))
    have HK4 := Lib.hid (show (w'.setRow b11 (bs T)).heap[w.heap.size]? = some (.cells (bs key) 23 (0, 0)) from row_other HBK.out (Ne.symm HNE1.out.1))
    have HN4 := Lib.hid (show (w'.setRow b11 (bs T)).heap[w.heap.size + 1]? = some (.cells (bs nonce) 25 (0, 0)) from row_other HBN.out (Ne.symm HNE1.out.2))
    generalize w'.setRow b11 (bs T) = w4 at HT4 HC4 HK4 HN4 ⊢
    clear HC11 HCW HBK HBN
    refine wp_region_calm0 7 [24, 25, 26, 27, 28, 29, 30] [] [⟨[24], fun v _ => v = [.slice (some ⟨b11, 0, none⟩) 16 16]⟩, ⟨[25], fun v _ => v = [.string ST]⟩, ⟨[26], fun v _ => v = [.slice (some ⟨g, o, none⟩) (n + 16) c2]⟩, ⟨[27], fun v _ => v = [.int .i64 (n : Int)]⟩, ⟨[28], fun v _ => v = [.slice (some ⟨g, o + n, none⟩) 16 (c2 - n)]⟩, ⟨[29], fun v _ => v = [.string SD]⟩, ⟨[30], fun v _ => v = [.bool nb]⟩] (Chg Nowhere) (by kernel_rfl) (by kernel_rfl) (by kernel_rfl) (Chg.refl _) Chg.trans' Chg.size (by decide) (Chg.refl Nowhere _).drew ?_ ?_ ?_
    · exact ⟨fun _ _ _ _ h => h, fun _ _ _ _ h => h, fun _ _ _ _ h => h, fun _ _ _ _ h => h, fun _ _ _ _ h => h, fun _ _ _ _ h => h, fun _ _ _ _ h => h, trivial⟩
    · simp only [List.take_succ_cons, List.take_zero]
      refine Steps.cons ?_ (Steps.cons ?_ (Steps.cons ?_ (Steps.cons ?_ (Steps.cons ?_ (Steps.cons ?_ (Steps.cons ?_ Steps.nil))))))
      · intro x w' hR hd K Q' hK
        exact wp_slice_at rfl (sl_tag ⟨b11, 0, none⟩ w') (hK _ _ (Chg.refl _ _) rfl (fun d h1 h2 => by simp at h2))
      · intro x w' hR hd K Q' hK
        exact wp_conv rfl (List.head_eq_of_cons_eq (hd 0 (by kernel_rfl))) (by rw [HST.out]; exact conv_rd (rd_blk (hR.same HT4.out) HTL.out)) (hK _ _ (Chg.refl _ _) rfl (fun d h1 h2 => by simp at h2))
      · intro x w' hR hd K Q' hK
        exact wp_move rfl rfl (hK _ _ (Chg.refl _ _) rfl (fun d h1 h2 => by simp at h2))
      · intro x w' hR hd K Q' hK
        exact wp_move rfl rfl (hK _ _ (Chg.refl _ _) rfl (fun d h1 h2 => by simp at h2))
      · intro x w' hR hd K Q' hK
        exact wp_slice_of rfl (List.head_eq_of_cons_eq (hd 2 (by kernel_rfl))) (congrArg some (List.head_eq_of_cons_eq (hd 3 (by kernel_rfl)))) rfl rfl (cut_l w' (some ⟨g, o, none⟩) (n + 16) c2 n (by omega)) (hK _ _ (Chg.refl _ _) (congrArg (fun z => [z]) HCUT.out) (fun d h1 h2 => by simp at h2))
      · intro x w' hR hd K Q' hK
        exact wp_conv rfl (List.head_eq_of_cons_eq (hd 4 (by kernel_rfl))) (by rw [HSD.out]; exact conv_rd (HDX.out _ (HC4.out.then_none hR))) (hK _ _ (Chg.refl _ _) rfl (fun d h1 h2 => by simp at h2))
      · intro x w' hR hd K Q' hK
        exact wp_bin rfl (List.head_eq_of_cons_eq (hd 1 (by kernel_rfl))) (List.head_eq_of_cons_eq (hd 5 (by kernel_rfl))) (eqg_neq _ _ _ _ _) (HNE.out _) (hK _ _ (Chg.refl _ _) rfl (fun d h1 h2 => by simp at h2))
    · intro x w' hR hV hap
      have e30 : x 30 = .bool nb := List.head_eq_of_cons_eq (hV 6 (by decide))
      have HC5 := Lib.hid (HC4.out.then_none hR)
      have HK5 := Lib.hid (rangeAt_blk (hR.same HK4.out))
      have HN5 := Lib.hid (rangeAt_blk (hR.same HN4.out))
      clear hR hV hap HT4 HC4 HK4 HN4
      set_option linter.unusedSimpArgs false in
      simp only [puts, putsL, List.contains_cons, List.contains_nil, Nat.reduceBEq, Bool.or_true, Bool.true_or, Bool.or_false, Bool.false_eq_true, if_true, if_false, Nat.reduceAdd, List.drop_succ_cons, List.drop_zero, e30]
      clear e30
      cases nb with
      | true =>
        obtain ⟨h1, h2⟩ := HRE.out.2 rfl
        subst h1 h2
        go_wp2_with fail
        refine bodyPost_ret (v := .tuple #[.slice .none 0 0, .int .i64 70]) (by simp [results, Tryd.results12, go_sem]) rfl ?_
        exact ⟨_, rfl, rd_none _ _ _ _ rfl, HC5.out⟩
      | false =>
        obtain ⟨h1, h2⟩ := HRE.out.1 rfl
        subst h1 h2
        clear HRE HCT HNE HDX HCUT HST HSD
        go_wp2_with fail
        refine wp_region_calm0 8 [31, 32, 33, 34, 35, 36, 8, 9] [] [⟨[31], fun v _ => v = [.agg (bs key)]⟩, ⟨[32], fun v _ => v = [.agg (bs nonce)]⟩, ⟨[33], fun v _ => v = [.slice (some ⟨g, o, none⟩) (n + 16) c2]⟩, ⟨[34], fun v _ => v = [.int .i64 (n : Int)]⟩, ⟨[35], fun v _ => v = [cutB (some ⟨g, o, none⟩) 0 n c2]⟩, ⟨[36], fun v w2 => ∃ u, v = [u] ∧ RdB w2 u R⟩, ⟨[8], fun v w2 => ∃ u, v = [u] ∧ RdB w2 u R⟩, ⟨[9], fun v _ => v = [.int .i64 0]⟩] (Chg Nowhere) (by kernel_rfl) (by kernel_rfl) (by kernel_rfl) (Chg.refl _) Chg.trans' Chg.size (by decide) (Chg.refl Nowhere _).drew ?_ ?_ ?_
        · exact ⟨fun _ _ _ _ h => h, fun _ _ _ _ h => h, fun _ _ _ _ h => h, fun _ _ _ _ h => h, fun _ _ _ _ h => h, fun _ _ _ hR ⟨u, h1, h2⟩ => ⟨u, h1, h2.same hR⟩, fun _ _ _ hR ⟨u, h1, h2⟩ => ⟨u, h1, h2.same hR⟩, fun _ _ _ _ h => h, trivial⟩
        · simp only [List.take_succ_cons, List.take_zero]
          refine Steps.cons ?_ (Steps.cons ?_ (Steps.cons ?_ (Steps.cons ?_ (Steps.cons ?_ (Steps.cons ?_ (Steps.cons ?_ (Steps.cons ?_ Steps.nil)))))))
          · intro x w' hR hd K Q' hK
            exact wp_load_mid 23 (Operand.tmp 4) rfl w.heap.size 0 rfl (bl key) _ (rangeAt_chg HK5.out hR) hu1 rfl hi1 (hK _ _ (Chg.refl _ _) rfl (fun d h1 h2 => by simp at h2))
          · intro x w' hR hd K Q' hK
            exact wp_load_mid 25 (Operand.tmp 5) rfl (w.heap.size + 1) 0 rfl (bl nonce) _ (rangeAt_chg HN5.out hR) hu2 rfl hi2 (hK _ _ (Chg.refl _ _) rfl (fun d h1 h2 => by simp at h2))
          · intro x w' hR hd K Q' hK
            exact wp_move rfl rfl (hK _ _ (Chg.refl _ _) rfl (fun d h1 h2 => by simp at h2))
          · intro x w' hR hd K Q' hK
            exact wp_move rfl rfl (hK _ _ (Chg.refl _ _) rfl (fun d h1 h2 => by simp at h2))
          · intro x w' hR hd K Q' hK
            exact wp_slice_of rfl (List.head_eq_of_cons_eq (hd 2 (by kernel_rfl))) rfl (congrArg some (List.head_eq_of_cons_eq (hd 3 (by kernel_rfl)))) rfl (cut_h w' (some ⟨g, o, none⟩) (n + 16) c2 n (by omega)) (hK _ _ (Chg.refl _ _) rfl (fun d h1 h2 => by simp at h2))
          · intro x w' hR hd K Q' hK
            exact wp_call_fn rfl enters_rxor4 [.agg (bs key), .int .u32 1, .agg (bs nonce), cutB (some ⟨g, o, none⟩) 0 n c2] (one_const (hd 0 (by kernel_rfl)) (hd 1 (by kernel_rfl)) (hd 4 (by kernel_rfl))) ((HCX.out w' _ (HC5.out.then_none hR) (HMX.out _ _ (by omega) (Nat.le_refl _) (HC5.out.then_none hR))).mono fun e w1 ⟨v1, he, ⟨ho, _⟩, hC1⟩ => ⟨_, he, hK _ _ hC1 ⟨v1, rfl, rd_own ho⟩ (fun d h1 h2 => by simp at h2)⟩)
          · intro x w' hR hd K Q' hK
            obtain ⟨u, hu, hr⟩ := hd 5 (by kernel_rfl)
            exact wp_assign rfl (List.head_eq_of_cons_eq hu) (hK _ _ (Chg.refl _ _) ⟨u, rfl, hr⟩ (fun d h1 h2 => by simp at h2))
          · intro x w' hR hd K Q' hK
            exact wp_assign rfl rfl (hK _ _ (Chg.refl _ _) rfl (fun d h1 h2 => by simp at h2))
        · intro x w' hR hV hap
          obtain ⟨u, h8, hr8⟩ := hV 6 (by decide)
          have e8 : x 8 = u := List.head_eq_of_cons_eq h8
          have e9 : x 9 = .int .i64 0 := List.head_eq_of_cons_eq (hV 7 (by decide))
          have HR8 := Lib.hid hr8
          have HC8 := Lib.hid (HC5.out.then_none hR)
          clear hR hV hap h8 hr8
          set_option linter.unusedSimpArgs false in
          simp only [puts, putsL, List.contains_cons, List.contains_nil, Nat.reduceBEq, Bool.or_true, Bool.true_or, Bool.or_false, Bool.false_eq_true, if_true, if_false, Nat.reduceAdd, List.drop_succ_cons, List.drop_zero, e8, e9]
          clear e8 e9
          go_wp2_with fail
          refine bodyPost_ret (v := .tuple #[u, .int .i64 0]) (by simp [results, Tryd.results12, go_sem]) rfl ?_
          exact ⟨_, rfl, HR8.out, HC8.out⟩
end Go.Proofs.YtebmbapaedlmiaaDoor
