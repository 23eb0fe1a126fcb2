/-
  More steps for a region that draws its order: a move, len, cuts of slices of bytes.
  Package aead: Seal (the walk).
-/
import Derived.Test.YtebmbapaedlmiaaDoorSAeY

namespace Go.Proofs.YtebmbapaedlmiaaDoor
open Go.RowKit Ae
set_option linter.unusedVariables false

theorem wp_move {P : Program} {o : Oper} {a : Act} {w : World} {x : Operand} {v : Value} {K : Act → World → Prop} {Q : Exit → Act → World → Prop} (ho : o.op = .move x) (hx : a.eval x = v) (h : K (a.put o.dst v) w) : o.wp P a w K Q := by
  refine wp_run ?_ h
  unfold execOp
  simp only [ho, hx]
  simp
theorem wp_len_bytes {o : Oper} {a : Act} {w : World} {x : Operand} {A : Option Addr} {n c : Nat} {K : Act → World → Prop} {Q : Exit → Act → World → Prop}
    (ho : o.op = .call { callee := .builtin .len, args := #[x], argTypes := #[26] }) (hx : a.eval x = .slice A n c) (h : K (a.put o.dst (.int .i64 (n : Int))) w) : o.wp Tryd.prog a w K Q := by
  refine wp_run ?_ h
  unfold execOp
  simp only [ho]
  have ht := Tryd.underlying26
  simp [resolve, invoke, builtin, hx, run_underlying ht, Builtin.len_, goInt]
theorem wp_slice_of {P : Program} {o : Oper} {a : Act} {w : World} {t : TypeId} {x : Operand} {lo hi mx : Option Operand} {vx v : Value} {vlo vhi vmx : Option Value} {K : Act → World → Prop} {Q : Exit → Act → World → Prop} (ho : o.op = .slice t x lo hi mx)
    (hx : a.eval x = vx) (hlo : lo.map a.eval = vlo) (hhi : hi.map a.eval = vhi) (hmx : mx.map a.eval = vmx)
    (hrun : (Instr.sliceAt t vx vlo vhi vmx).run P w = .ok v w) (h : K (a.put o.dst v) w) : o.wp P a w K Q := by
  subst hx hlo hhi hmx
  exact wp_slice_at ho hrun h
theorem elemB : Tryd.prog.elem 26 = 5 := by kernel_rfl
theorem undB : Tryd.prog.underlying 26 = some (.slice (Tryd.prog.elem 26)) := by kernel_rfl
theorem sizeB (w : World) : (sizeOf (Tryd.prog.elem 26)).run Tryd.prog w = .ok 1 w := by
  obtain ⟨i, hi, hz, hsize, hby⟩ := infoB_parts
  rw [elemB]
  simp [sizeOf, typeInfo, hi, hsize]
/-- A cut of a slice of bytes. -/
def cutB (A : Option Addr) (l h m : Nat) : Value := .slice (if m = l then A else A.map (·.add l)) (h - l) (m - l)
theorem cut_eq (A : Option Addr) (l h m : Nat) : sliced A l h m 1 = cutB A l h m := by unfold sliced cutB; rw [Nat.mul_one]
theorem cut_hm (w : World) (A : Option Addr) (n c h m : Nat) (h1 : h ≤ m) (h2 : m ≤ c) : (Instr.sliceAt 26 (.slice A n c) none (some (.int .i64 (h : Int))) (some (.int .i64 (m : Int)))).run Tryd.prog w = .ok (cutB A 0 h m) w := by
  rw [run_sliceAt_slice w _ _ _ _ _ undB, run_slice_hm w _ _ _ _ undB .i64 .i64 (h : Int) (m : Int) (by omega) (by omega) (by omega), sizeB]
  simp only [Result.andThen, Int.toNat_natCast, cut_eq]
theorem cut_h (w : World) (A : Option Addr) (n c h : Nat) (h1 : h ≤ c) : (Instr.sliceAt 26 (.slice A n c) none (some (.int .i64 (h : Int))) none).run Tryd.prog w = .ok (cutB A 0 h c) w := by
  rw [run_sliceAt_slice w _ _ _ _ _ undB, run_slice_h w _ _ _ _ undB .i64 (h : Int) (by omega) (by omega), sizeB]
  simp only [Result.andThen, Int.toNat_natCast, cut_eq]
theorem cut_l (w : World) (A : Option Addr) (n c l : Nat) (h1 : l ≤ n) : (Instr.sliceAt 26 (.slice A n c) (some (.int .i64 (l : Int))) none none).run Tryd.prog w = .ok (cutB A l n c) w := by
  rw [run_sliceAt_slice w _ _ _ _ _ undB, run_slice_l w _ _ _ _ undB .i64 (l : Int) (by omega) (by omega), sizeB]
  simp only [Result.andThen, Int.toNat_natCast, cut_eq]
/-- A cut of what is read is read. -/
theorem RdB.cut {w : World} {A : Option Addr} {n c : Nat} {l : List Nat} (h : RdB w (.slice A n c) l) {lo hi m : Nat} (h1 : lo ≤ hi) (h2 : hi ≤ n) (h3 : hi ≤ m) (h4 : m ≤ c) : RdB w (cutB A lo hi m) ((l.drop lo).take (hi - lo)) := by
  obtain ⟨hl, A', c', hv, hc, hA⟩ := h
  cases hv
  have hlen : ((l.drop lo).take (hi - lo)).length = hi - lo := by rw [List.length_take, List.length_drop]; omega
  refine ⟨by rw [bl_len]; omega, _, m - lo, by rw [hlen]; rfl, by rw [hlen]; omega, fun h0 => ?_⟩
  rw [hlen] at h0
  obtain ⟨g, o, rfl, hg, hcell⟩ := hA (by omega)
  refine ⟨g, o + lo, ?_, hg, fun j hj => ?_⟩
  · rw [if_neg (by omega)]
    simp [Addr.add]
  · rw [bl_len, hlen] at hj
    rw [Nat.add_assoc, hcell (lo + j) (by rw [bl_len]; omega), ← bl_take, ← bl_drop, List.getElem?_take_of_lt (by omega), List.getElem?_drop]
/-- A row that lies whole in its block is read. -/
theorem rd_blk {w : World} {g n : Nat} {l : List Nat} {t : TypeId} (h : w.heap[g]? = some (.cells (bs l) t (0, 0))) (hn : l.length = n) : RdB w (.slice (some ⟨g, 0, none⟩) n n) l := by
  subst hn
  refine ⟨by rw [bl_len]; omega, _, _, rfl, Nat.le_refl _, fun _ => ⟨g, 0, rfl, lt_blk h, fun j hj => ?_⟩⟩
  rw [Nat.zero_add, cell_blk h]
  simp [bs]
end Go.Proofs.YtebmbapaedlmiaaDoor

namespace Go.Proofs.YtebmbapaedlmiaaDoor
open Go.RowKit Ae
set_option linter.unusedVariables false

/-- What Seal gives. -/
def Ae.sealL (key nonce beside text : List Nat) : List Nat := xors key 1 nonce text ++ tagL key nonce beside (xors key 1 nonce text)
theorem tagL_len (key nonce beside m : List Nat) : (tagL key nonce beside m).length = 16 := bytesOf_len _ _
theorem tagL_byt (key nonce beside m : List Nat) : Byt (tagL key nonce beside m) := bytesOf_byt _ _
theorem enters_tag : Enters Tryd.prog 15 := enters_of Tryd.func15 (by kernel_rfl) rfl
theorem splice_all (l m t : List Nat) (n : Nat) (hn : l.length = n) (ht : t.length = m.length) : splice (bl (l ++ m)) n (bl t) = bl (l ++ t) := by
  subst hn
  unfold splice
  rw [bl_take, bl_len, bl_drop, ← bl_append, ← bl_append, List.take_left, ht, ← List.drop_drop, List.drop_left, List.drop_length, List.append_nil]
theorem splice_head (m t : List Nat) (n k : Nat) (ht : t.length = n) (hm : m.length = n + k) : splice (bl m) 0 (bl t) = bl (t ++ m.drop n) := by
  subst ht
  unfold splice
  rw [List.take_zero, List.nil_append, bl_len, Nat.zero_add, bl_drop, ← bl_append]
theorem four_slots {x : Nat → Value} {d e f g : Nat} {u v s t : Value} (h1 : [x d] = [u]) (h2 : [x e] = [v]) (h3 : [x f] = [s]) (h4 : [x g] = [t]) : [x d, x e, x f, x g] = [u, v, s, t] := by rw [List.head_eq_of_cons_eq h1, List.head_eq_of_cons_eq h2, List.head_eq_of_cons_eq h3, List.head_eq_of_cons_eq h4]
theorem xors_byt {key nonce l : List Nat} {ctr : Nat} (h : Byt l) : Byt (xors key ctr nonce l) := fun b hb => by
  obtain ⟨k, hk, rfl⟩ := List.mem_iff_getElem.1 hb
  have hl := xors_len key ctr nonce l
  have := xors_get key ctr nonce l (k := k) (by omega)
  rw [List.getElem?_eq_getElem hk] at this
  rw [Option.some.inj this]
  exact Nat.xor_lt_two_pow (n := 8) (h.at _) ((block_byt _ _ _).at _)
set_option maxHeartbeats 2000000 in
set_option maxRecDepth 100000 in
theorem seal_any (key nonce : List Nat) (hk : key.length = 32) (hkb : Byt key) (hn : nonce.length = 12) (hnb : Byt nonce) (v x : Value) (l m : List Nat) (w : World) (h : RdB w v l) (hx : RdB w x m) (hb : Byt l) (hmb : Byt m) (hl : l.length ≤ 40000000) (hm : m.length ≤ 40000000) (hg : Glob w) :
    Calls Tryd.prog 9 #[.agg (bs key), .agg (bs nonce), v, x] w (GivesB w (sealL key nonce l m)) := by
  obtain ⟨O, hO⟩ : ∃ O, O = xors key 1 nonce m := ⟨_, rfl⟩
  obtain ⟨T, hT⟩ : ∃ T, T = tagL key nonce l O := ⟨_, rfl⟩
  obtain ⟨n, hnn⟩ : ∃ n, n = m.length := ⟨_, rfl⟩
  have hOl : O.length = n := by rw [hO, xors_len, hnn]
  have hOb : Byt O := by rw [hO]; exact xors_byt hmb
  have HOL := Lib.hid hOl
  have HTL := Lib.hid (show T.length = 16 by rw [hT]; exact tagL_len _ _ _ _)
  have HS := Lib.hid (show sealL key nonce l m = O ++ T by rw [hT, hO]; rfl)
  have HCX := Lib.hid (show ∀ w1, Chg Nowhere w w1 → Calls Tryd.prog 14 #[.agg (bs key), .int .u32 1, .agg (bs nonce), x] w1 (GivesB w1 O) from fun w1 hc => by rw [hO]; exact xor_any key nonce 1 hk hkb hn hnb x m w1 (hx.same hc) hmb (by omega) (hg.chg hc) (by omega))
  have HCT := Lib.hid (show ∀ w1 s, Chg Nowhere w w1 → RdB w1 s O → Calls Tryd.prog 15 #[.agg (bs key), .agg (bs nonce), v, s] w1 (Gives w1 (.agg (bs T))) from fun w1 s hc hs => by rw [hT]; exact tag_any key nonce hk hkb hn hnb v s l O w1 (h.same hc) hs hb hOb hl (by omega) (hg.chg hc))
  have HIK := Lib.hid (show InfoArr 23 (bs key).size by rw [bs_size, hk]; exact info32)
  have HIN := Lib.hid (show InfoArr 25 (bs nonce).size by rw [bs_size, hn]; exact info12)
  obtain ⟨-, A, c, rfl, hnc, -⟩ := h
  obtain ⟨-, A2, c2, rfl, hnc2, -⟩ := hx
  rw [← hnn] at HCX hnc2
  rw [← hnn]
  have hnl : n ≤ 40000000 := by omega
  clear hO hT hk hkb hn hnb hb hmb hg hm hOl hOb hnn
  have hmk : ∀ w1, (Instr.makeSlice 26 (.int .i64 ((n : Int) + 16)) (.int .i64 ((n : Int) + 16))).run Tryd.prog w1 = .ok (.slice (some ⟨w1.heap.size, 0, none⟩) (n + 16) (n + 16)) (w1.alloc (.cells (bs (List.replicate (n + 16) 0)) 5)) := fun w1 => make_b (n + 16) (by omega) w1
  have HC0 := Lib.hid ((((Chg.refl Nowhere w).alloc (.cells (bs key) 23)).alloc (.cells (bs nonce) 25)).alloc (.cells (bs (List.replicate (n + 16) 0)) 5))
  go_enter Tryd.func9, Tryd.ntmps9
  go_wp2_with (first
    | (refine wpList_load_row rfl 23 (Operand.tmp 4) rfl w.heap.size rfl 23 _ (0, 0) _ (alloc_old (alloc_old (alloc_new w (.cells (bs key) 23)))) Tryd.underlying23 rfl HIK.out ?_)
    | (refine wpList_load_row rfl 25 (Operand.tmp 5) rfl (w.heap.size + 1) rfl 25 _ (0, 0) _ (alloc_old (new_1 w (.cells (bs key) 23) (.cells (bs nonce) 25))) Tryd.underlying25 rfl HIN.out ?_)
    | (go_at_call 14; refine (HCX.out _ HC0.out).mono ?_; rintro e w1 ⟨v1, rfl, ⟨g1, hg1, rfl, hb1⟩, hC1⟩; have HX1 := Lib.hid hb1; have HK1 := Lib.hid (hC1.same (alloc_old (alloc_old (alloc_new w (.cells (bs key) 23))))); have HN1 := Lib.hid (hC1.same (alloc_old (new_1 w (.cells (bs key) 23) (.cells (bs nonce) 25)))); have HO1 := Lib.hid (hC1.same (new_2 w (.cells (bs key) 23) (.cells (bs nonce) 25) (.cells (bs (List.replicate (n + 16) 0)) 5))); have HC1 := Lib.hid (Chg.none_then HC0.out hC1); clear hC1 hg1 hb1)
    | (refine wpList_copy_splice rfl (Operand.tmp 15) (Operand.tmp 19) 26 26 rfl 5 Tryd.underlying26 size8 (some ⟨w.heap.size + 1 + 1, 0, none⟩) (some ⟨g1, 0, none⟩) (n + 16) (n + 16) O.length O.length rfl rfl (w.heap.size + 1 + 1) 0 (bl (List.replicate (n + 16) 0)) 5 HO1.out (bl O) (by rw [bl_len, HOL.out]; exact (Nat.min_eq_left (by omega)).symm) (fun _ => ⟨rfl, _, rfl, fun j u hj => (by rw [Addr.add_mid, cell_blk HX1.out]; simpa [bs] using hj)⟩) (by rw [bl_len, bl_len, List.length_replicate, HOL.out]; omega) (bl_one _) (w.heap.size + 1 + 1) _ (Below.refl _ _) (Nat.le_refl _) ?_; intro w3 hB3 hb3; rw [splice_head (List.replicate (n + 16) 0) O n 16 HOL.out (by rw [List.length_replicate])] at hB3; have HO3 := hB3; have HK3 := Lib.hid ((hb3.block _ (by omega)).trans HK1.out); have HN3 := Lib.hid ((hb3.block _ (by omega)).trans HN1.out); have HC3 := Lib.hid (chg_below HC1.out hb3 (by omega)); clear hB3 hb3))
  simp only [Act.put, goInt, List.setIfInBounds_toArray, List.set_cons_zero, List.set_cons_succ]
  clear HX1 HK1 HN1 HO1 HC1
  have HIT := Lib.hid (show InfoArr 36 (bs T).size by rw [bs_size, HTL.out]; exact info16)
  have hu1 := Tryd.underlying23
  have hu2 := Tryd.underlying25
  have hi1 : (Tryd.prog.info? 23).map (·.size) = some (bl key).length := by have := HIK.out; rwa [InfoArr, bs_size, ← bl_len] at this
  have hi2 : (Tryd.prog.info? 25).map (·.size) = some (bl nonce).length := by have := HIN.out; rwa [InfoArr, bs_size, ← bl_len] at this
  have HRK := Lib.hid (show w3.rangeAt w.heap.size 0 (bl key) from rangeAt_blk HK3.out)
  have HRN := Lib.hid (show w3.rangeAt (w.heap.size + 1) 0 (bl nonce) from rangeAt_blk HN3.out)
  obtain ⟨O3, hO3⟩ : ∃ O3, O3 = O ++ (List.replicate (n + 16) 0).drop n := ⟨_, rfl⟩
  have HO4 := Lib.hid (show w3.heap[w.heap.size + 1 + 1]? = some (.cells (bs O3) 5 (0, 0)) by rw [hO3]; exact HO3.out)
  have HO3L := Lib.hid (show O3.length = n + 16 by rw [hO3, List.length_append, HOL.out, List.length_drop, List.length_replicate]; omega)
  have HO3T := Lib.hid (show O3.take n = O by rw [hO3, ← HOL.out]; exact List.take_left)
  have HZL := Lib.hid (show O3 = O ++ List.replicate 16 0 by rw [hO3, List.drop_replicate, show n + 16 - n = 16 by omega])
  clear hO3 HO3 HK3 HN3
  refine wp_region_calm0 11 [21, 22, 23, 24, 25, 26, 27, 28, 29, 30, 10] [10] [⟨[21], fun v _ => v = [.agg (bs key)]⟩, ⟨[22], fun v _ => v = [.agg (bs nonce)]⟩, ⟨[23], fun v _ => v = [.slice A l.length c]⟩, ⟨[24], fun v _ => v = [.slice (some ⟨w.heap.size + 1 + 1, 0, none⟩) (n + 16) (n + 16)]⟩, ⟨[25], fun v _ => v = [.slice A2 n c2]⟩, ⟨[26], fun v _ => v = [.int .i64 (n : Int)]⟩, ⟨[27], fun v _ => v = [.slice A2 n c2]⟩, ⟨[28], fun v _ => v = [.int .i64 (n : Int)]⟩, ⟨[29], fun v _ => v = [cutB (some ⟨w.heap.size + 1 + 1, 0, none⟩) 0 n n]⟩, ⟨[30], fun v _ => v = [.agg (bs T)]⟩, ⟨[10], IsNew w3.heap.size 36 (bs (List.replicate 16 0))⟩] (Chg Nowhere) (by kernel_rfl) (by kernel_rfl) (by kernel_rfl) (Chg.refl _) Chg.trans' Chg.size (by decide) (Chg.refl Nowhere _).drew ?_ ?_ ?_
  · exact ⟨fun _ _ _ _ h => h, fun _ _ _ _ h => h, fun _ _ _ _ h => h, fun _ _ _ _ h => h, fun _ _ _ _ h => h, fun _ _ _ _ h => h, fun _ _ _ _ h => h, fun _ _ _ _ h => h, fun _ _ _ _ h => h, fun _ _ _ _ h => h, fun _ _ _ hR h => IsNew.chg h hR, trivial⟩
  · simp only [List.take_succ_cons, List.take_zero]
    refine Steps.cons ?_ (Steps.cons ?_ (Steps.cons ?_ (Steps.cons ?_ (Steps.cons ?_ (Steps.cons ?_ (Steps.cons ?_ (Steps.cons ?_ (Steps.cons ?_ (Steps.cons ?_ (Steps.cons ?_ Steps.nil))))))))))
    · intro x w' hR hd K Q' hK
      exact wp_load_mid 23 (Operand.tmp 4) rfl w.heap.size 0 rfl (bl key) _ (rangeAt_chg HRK.out hR) hu1 rfl hi1 (hK _ _ (Chg.refl _ _) rfl (fun d h1 h2 => by cases h1; simp at h2))
    · intro x w' hR hd K Q' hK
      exact wp_load_mid 25 (Operand.tmp 5) rfl (w.heap.size + 1) 0 rfl (bl nonce) _ (rangeAt_chg HRN.out hR) hu2 rfl hi2 (hK _ _ (Chg.refl _ _) rfl (fun d h1 h2 => by cases h1; simp at h2))
    · intro x w' hR hd K Q' hK
      exact wp_move rfl rfl (hK _ _ (Chg.refl _ _) rfl (fun d h1 h2 => by cases h1; simp at h2))
    · intro x w' hR hd K Q' hK
      exact wp_move rfl rfl (hK _ _ (Chg.refl _ _) rfl (fun d h1 h2 => by cases h1; simp at h2))
    · intro x w' hR hd K Q' hK
      exact wp_move rfl rfl (hK _ _ (Chg.refl _ _) rfl (fun d h1 h2 => by cases h1; simp at h2))
    · intro x w' hR hd K Q' hK
      exact wp_len_bytes rfl (List.head_eq_of_cons_eq (hd 4 (by kernel_rfl))) (hK _ _ (Chg.refl _ _) rfl (fun d h1 h2 => by cases h1; simp at h2))
    · intro x w' hR hd K Q' hK
      exact wp_move rfl rfl (hK _ _ (Chg.refl _ _) rfl (fun d h1 h2 => by cases h1; simp at h2))
    · intro x w' hR hd K Q' hK
      exact wp_len_bytes rfl (List.head_eq_of_cons_eq (hd 6 (by kernel_rfl))) (hK _ _ (Chg.refl _ _) rfl (fun d h1 h2 => by cases h1; simp at h2))
    · intro x w' hR hd K Q' hK
      exact wp_slice_of rfl (List.head_eq_of_cons_eq (hd 3 (by kernel_rfl))) rfl (congrArg some (List.head_eq_of_cons_eq (hd 5 (by kernel_rfl)))) (congrArg some (List.head_eq_of_cons_eq (hd 7 (by kernel_rfl)))) (cut_hm w' (some ⟨w.heap.size + 1 + 1, 0, none⟩) (n + 16) (n + 16) n n (Nat.le_refl _) (by omega)) (hK _ _ (Chg.refl _ _) rfl (fun d h1 h2 => by cases h1; simp at h2))
    · intro x w' hR hd K Q' hK
      have hr : RdB w' (cutB (some ⟨w.heap.size + 1 + 1, 0, none⟩) 0 n n) O := by
        have := (rd_blk (hR.same HO4.out) HO3L.out).cut (lo := 0) (hi := n) (m := n) (Nat.zero_le _) (by omega) (Nat.le_refl _) (by omega)
        rwa [List.drop_zero, Nat.sub_zero, HO3T.out] at this
      exact wp_call_fn rfl enters_tag [.agg (bs key), .agg (bs nonce), .slice A l.length c, cutB (some ⟨w.heap.size + 1 + 1, 0, none⟩) 0 n n] (four_slots (hd 0 (by kernel_rfl)) (hd 1 (by kernel_rfl)) (hd 2 (by kernel_rfl)) (hd 8 (by kernel_rfl))) ((HCT.out w' _ (HC3.out.then_none hR) hr).mono fun e w1 ⟨he, hC1⟩ => ⟨_, he, hK _ _ hC1 rfl (fun d h1 h2 => by cases h1; simp at h2)⟩)
    · intro x w' hR hd K Q' hK
      exact wp_alloc_op rfl Tryd.zeroValue36 (hK _ _ ((Chg.refl _ _).alloc _) ⟨_, rfl, hR.size, alloc_new _ _⟩ (fun _ _ _ => ⟨_, rfl, Nat.le_refl _, by simp⟩))
  · intro x w' hR hV hap
    have e24 : x 24 = .slice (some ⟨w.heap.size + 1 + 1, 0, none⟩) (n + 16) (n + 16) := List.head_eq_of_cons_eq (hV 3 (by decide))
    have e30 : x 30 = .agg (bs T) := List.head_eq_of_cons_eq (hV 9 (by decide))
    obtain ⟨b10, h10, B10, C10⟩ := hV 10 (by decide)
    have e10 : x 10 = .pointer (some ⟨b10, 0, none⟩) := List.head_eq_of_cons_eq h10
    have HC10 := Lib.hid C10
    have HCW := Lib.hid (HC3.out.then_none hR)
    have HO5 := Lib.hid (hR.same HO4.out)
    have HB10 := Lib.hid (show b10 ≠ w.heap.size + 1 + 1 from fun e => by have := lt_blk HO4.out; omega)
    have HG10 := Lib.hid (show w.heap.size ≤ b10 from Nat.le_trans HC3.out.size B10)
    clear hR hV hap h10 C10 B10
    set_option linter.unusedSimpArgs false in
    simp only [puts, putsL, List.contains_cons, List.contains_nil, Nat.reduceBEq, Bool.or_true, Bool.true_or, Bool.or_false, Bool.false_eq_true, if_true, if_false, Nat.reduceAdd, List.drop_succ_cons, List.drop_zero, e10, e30]
    clear e10 e30 e24
    go_wp2_with (refine wpList_store_row rfl 36 (Operand.tmp 10) (Operand.tmp 30) rfl b10 _ rfl rfl 36 _ HC10.out HIT.out (by rw [bs_size, bs_size, HTL.out]; rfl) (bs_one _) ?_)
    obtain ⟨W4, hW4⟩ : ∃ W, W = w'.setRow b10 (bs T) := ⟨_, rfl⟩
    rw [← hW4]
    have HT4 := Lib.hid (show W4.heap[b10]? = some (.cells (bs T) 36 (0, 0)) by rw [hW4]; exact row_blk HC10.out)
    have HO6 := Lib.hid (show W4.heap[w.heap.size + 1 + 1]? = some (.cells (bs O3) 5 (0, 0)) by rw [hW4]; exact row_other HO5.out (Ne.symm HB10.out))
    have HC4 := Lib.hid (show Chg Nowhere w W4 by rw [hW4]; exact HCW.out.putRow (.inr HG10.out))
    clear hW4 HC10 HO5 HCW HRK HRN
    have hcut : cutB (some ⟨w.heap.size + 1 + 1, 0, none⟩) n (n + 16) (n + 16) = .slice (some ⟨w.heap.size + 1 + 1, n, none⟩) 16 16 := by
      unfold cutB
      rw [if_neg (by omega), show n + 16 - n = 16 by omega]
      simp [Addr.add]
      exact fun h => h.symm
    have HCUT := Lib.hid hcut
    clear hcut
    simp only [Act.put]
    refine wp_region_calm0 5 [31, 32, 33, 34, 35] [] [⟨[31], fun v _ => v = [.slice (some ⟨w.heap.size + 1 + 1, 0, none⟩) (n + 16) (n + 16)]⟩, ⟨[32], fun v _ => v = [.slice A2 n c2]⟩, ⟨[33], fun v _ => v = [.int .i64 (n : Int)]⟩, ⟨[34], fun v _ => v = [.slice (some ⟨w.heap.size + 1 + 1, n, none⟩) 16 16]⟩, ⟨[35], fun v _ => v = [.slice (some ⟨b10, 0, none⟩) 16 16]⟩] (Chg Nowhere) (by kernel_rfl) (by kernel_rfl) (by kernel_rfl) (Chg.refl _) Chg.trans' Chg.size (by decide) (Chg.refl Nowhere _).drew ?_ ?_ ?_
    · exact ⟨fun _ _ _ _ h => h, fun _ _ _ _ h => h, fun _ _ _ _ h => h, fun _ _ _ _ h => h, fun _ _ _ _ h => h, trivial⟩
    · simp only [List.take_succ_cons, List.take_zero]
      refine Steps.cons ?_ (Steps.cons ?_ (Steps.cons ?_ (Steps.cons ?_ (Steps.cons ?_ Steps.nil))))
      · intro x w' hR hd K Q' hK
        exact wp_move rfl rfl (hK _ _ (Chg.refl _ _) rfl (fun d h1 h2 => by simp at h2))
      · intro x w' hR hd K Q' hK
        exact wp_move rfl rfl (hK _ _ (Chg.refl _ _) rfl (fun d h1 h2 => by simp at h2))
      · intro x w' hR hd K Q' hK
        exact wp_len_bytes rfl (List.head_eq_of_cons_eq (hd 1 (by kernel_rfl))) (hK _ _ (Chg.refl _ _) rfl (fun d h1 h2 => by simp at h2))
      · intro x w' hR hd K Q' hK
        exact wp_slice_of rfl (List.head_eq_of_cons_eq (hd 0 (by kernel_rfl))) (congrArg some (List.head_eq_of_cons_eq (hd 2 (by kernel_rfl)))) rfl rfl (cut_l w' (some ⟨w.heap.size + 1 + 1, 0, none⟩) (n + 16) (n + 16) n (by omega)) (hK _ _ (Chg.refl _ _) (congrArg (fun z => [z]) HCUT.out) (fun d h1 h2 => by simp at h2))
      · intro x w' hR hd K Q' hK
        exact wp_slice_at rfl (sl_tag ⟨b10, 0, none⟩ w') (hK _ _ (Chg.refl _ _) rfl (fun d h1 h2 => by simp at h2))
    · intro x w' hR hV hap
      have e34 : x 34 = .slice (some ⟨w.heap.size + 1 + 1, n, none⟩) 16 16 := List.head_eq_of_cons_eq (hV 3 (by decide))
      have e35 : x 35 = .slice (some ⟨b10, 0, none⟩) 16 16 := List.head_eq_of_cons_eq (hV 4 (by decide))
      have HO7 := Lib.hid (hR.same HO6.out)
      have HT7 := Lib.hid (hR.same HT4.out)
      have HC7 := Lib.hid (HC4.out.then_none hR)
      clear hR hV hap
      set_option linter.unusedSimpArgs false in
      simp only [puts, putsL, List.contains_cons, List.contains_nil, Nat.reduceBEq, Bool.or_true, Bool.true_or, Bool.or_false, Bool.false_eq_true, if_true, if_false, Nat.reduceAdd, List.drop_succ_cons, List.drop_zero, e34, e35]
      clear e34 e35
      go_wp2_with (refine wpList_copy_splice rfl (Operand.tmp 34) (Operand.tmp 35) 26 26 rfl 5 Tryd.underlying26 size8 (some ⟨w.heap.size + 1 + 1, n, none⟩) (some ⟨b10, 0, none⟩) 16 16 16 16 rfl rfl (w.heap.size + 1 + 1) n (bl O3) 5 HO7.out (bl T) (by rw [bl_len, HTL.out]; rfl) (fun _ => ⟨rfl, _, rfl, fun j u hj => (by rw [Addr.add_mid, cell_blk HT7.out]; simpa [bs] using hj)⟩) (by rw [bl_len, bl_len, HTL.out, HO3L.out]; exact Nat.le_refl _) (bl_one _) (w.heap.size + 1 + 1) _ (Below.refl _ _) (Nat.le_refl _) ?_; intro w8 hB8 hb8; rw [HZL.out, splice_all O (List.replicate 16 0) T n HOL.out (by rw [HTL.out]; rfl)] at hB8; have HO8 := hB8; have HC8 := Lib.hid (chg_below HC7.out hb8 (by omega)); clear hB8 hb8)
      go_ret
      exact ⟨_, rfl, ⟨w.heap.size + 1 + 1, by omega, by rw [HS.out, List.length_append, HOL.out, HTL.out]; rfl, by rw [HS.out]; exact HO8.out⟩, HC8.out⟩
end Go.Proofs.YtebmbapaedlmiaaDoor
