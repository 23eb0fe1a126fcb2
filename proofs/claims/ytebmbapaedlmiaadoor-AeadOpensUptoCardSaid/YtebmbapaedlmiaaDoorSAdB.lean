/-
  The document's stream: Quarter (the walk).
-/
import Derived.Test.YtebmbapaedlmiaaDoorSAdA
namespace Go.Proofs.YtebmbapaedlmiaaDoor
open Go.RowKit Ae
set_option linter.unusedVariables false

theorem wp_bin {P : Program} {o : Oper} {a : Act} {w : World} {b : BinOp} {t u : TypeId} {x y : Operand} {vx vy v : Value} {K : Act → World → Prop} {Q : Exit → Act → World → Prop} (ho : o.op = .binOp b t x y u) (hx : a.eval x = vx) (hy : a.eval y = vy)
    (hq : (eqGuard b t x y vx vy).run P w = .ok () w) (hrun : (binOp b t vx vy).run P w = .ok v w) (h : K (a.put o.dst v) w) : o.wp P a w K Q := by
  refine wp_run ?_ h
  unfold execOp
  simp only [ho, hx, hy]
  simp [hq, hrun]
def turnsL : List Nat := [16, 12, 8, 7]
/-- One turn of a quarter. -/
def qst (i : Nat) (x : List Nat) : List Nat :=
  let a := i % 2 * 2
  let y := x.set a (m32 (x.getD a 0 + x.getD ((a + 1) % 4) 0))
  let d := (a + 3) % 4
  y.set d (rl (y.getD d 0 ^^^ y.getD a 0) (turnsL.getD i 0))
theorem qst_qr (a b c d : Nat) : itr qst 4 [a, b, c, d] = qr a b c d := rfl
theorem qst_len (i : Nat) (x : List Nat) : (qst i x).length = x.length := by simp [qst]
theorem qst_w32 (i : Nat) {x : List Nat} (h : W32 x) : W32 (qst i x) := by
  unfold qst
  exact (h.set _ (m32_lt _)).set _ (rl_lt (xor32_lt ((h.set _ (m32_lt _)).get _) ((h.set _ (m32_lt _)).get _)) _)
theorem qsts_len (x : List Nat) : ∀ k, (itr qst k x).length = x.length
  | 0 => rfl
  | k + 1 => (qst_len k _).trans (qsts_len x k)
theorem qsts_w32 {x : List Nat} (h : W32 x) : ∀ k, W32 (itr qst k x)
  | 0 => h
  | k + 1 => qst_w32 k (qsts_w32 h k)
theorem rol_any (x k : Nat) (hx : x < 4294967296) (hk : k < 4) (w : World) : Calls Tryd.prog 40 #[.int .u32 (x : Int), .int .i64 ((turnsL.getD k 0 : Nat) : Int)] w (Gives w (.int .u32 ((rl x (turnsL.getD k 0) : Nat) : Int))) := by
  rcases (by omega : k = 0 ∨ k = 1 ∨ k = 2 ∨ k = 3) with rfl | rfl | rfl | rfl
  · exact rol16 x hx w
  · exact rol12 x hx w
  · exact rol8 x hx w
  · exact rol7 x hx w
theorem enters_rol : Enters Tryd.prog 40 := enters_of Tryd.func40 (by kernel_rfl) rfl
theorem ia51 (b j : Nat) (hj : (j : Int) < 4) (w : World) : (Instr.indexAt 51 (.pointer (some ⟨b, 0, none⟩)) (.int .i64 (j : Int))).run Tryd.prog w = .ok (.pointer (some ⟨b, j, none⟩)) w := by go_simp
theorem ia46 (b j n c : Nat) (hj : (j : Int) < (n : Int)) (w : World) : (Instr.indexAt 46 (.slice (some ⟨b, 0, none⟩) n c) (.int .i64 (j : Int))).run Tryd.prog w = .ok (.pointer (some ⟨b, j, none⟩)) w := by go_simp
theorem xor39 (a b c : Nat) (h : bits .xor .u32 (a : Int) (b : Int) = (c : Int)) (w : World) : (binOp .xor 39 (.int .u32 (a : Int)) (.int .u32 (b : Int))).run Tryd.prog w = .ok (.int .u32 (c : Int)) w := by go_simp
def il (l : List Nat) : List Value := l.map fun (n : Nat) => Value.int .i64 (n : Int)
theorem il_get {l : List Nat} {i b : Nat} (h : l[i]? = some b) : (il l)[i]? = some (.int .i64 (b : Int)) := by simp [il, h]
set_option maxHeartbeats 4000000 in
set_option maxRecDepth 100000 in
theorem rquarter_any (x0 : List Nat) (hx4 : x0.length = 4) (hxw : W32 x0) (w : World) :
    Calls Tryd.prog 27 #[.agg (ws x0)] w (Gives w (.agg (ws (itr qst 4 x0)))) := by
  have HX4 := Lib.hid hx4
  have HXW := Lib.hid hxw
  clear hx4 hxw
  go_enter Tryd.func27, Tryd.ntmps27
  go_wp2_with fail
  have HX0 := Lib.hid (show (((w.alloc (.cells (ws x0) 51)).alloc (.cells (ws (List.replicate 4 0)) 51)).alloc (.cells (il turnsL).toArray 3)).heap[w.heap.size]? = some (.cells (ws (itr qst 0 x0)) 51 (0, 0)) from alloc_old (alloc_old (alloc_new _ _)))
  have HR0 := Lib.hid (show (((w.alloc (.cells (ws x0) 51)).alloc (.cells (ws (List.replicate 4 0)) 51)).alloc (.cells (il turnsL).toArray 3)).heap[w.heap.size + 1]? = some (.cells (ws (List.replicate 4 0)) 51 (0, 0)) from alloc_old (new_1 _ _ _))
  have HT0 := Lib.hid (show (((w.alloc (.cells (ws x0) 51)).alloc (.cells (ws (List.replicate 4 0)) 51)).alloc (.cells (il turnsL).toArray 3)).heap[w.heap.size + 1 + 1]? = some (.cells (il turnsL).toArray 3 (0, 0)) from new_2 _ _ _ _)
  have HC0 := Lib.hid ((((Chg.refl Nowhere w).alloc (.cells (ws x0) 51)).alloc (.cells (ws (List.replicate 4 0)) 51)).alloc (.cells (il turnsL).toArray 3))
  go_loopw [4] (fun i wr => ∃ k : Nat, k ≤ 4 ∧ i = .int .i64 k ∧ wr.heap[w.heap.size]? = some (.cells (ws (itr qst k x0)) 51 (0, 0)) ∧ wr.heap[w.heap.size + 1]? = some (.cells (ws (List.replicate 4 0)) 51 (0, 0)) ∧ wr.heap[w.heap.size + 1 + 1]? = some (.cells (il turnsL).toArray 3 (0, 0)) ∧ Chg Nowhere w wr) (fun i _ => 4 - (intOf i).toNat)
  case atStart => exact ⟨0, by omega, rfl, HX0.out, HR0.out, HT0.out, HC0.out⟩
  case round =>
    obtain ⟨k, hk, rfl, hX, hR, hT, hC⟩ := hrel
    clear HX0 HR0 HT0 HC0
    obtain ⟨L, hL⟩ : ∃ L, L = itr qst k x0 := ⟨_, rfl⟩
    rw [← hL] at hX
    have HL4 := Lib.hid (show L.length = 4 by rw [hL, qsts_len, HX4.out])
    have HLW := Lib.hid (show W32 L by rw [hL]; exact qsts_w32 HXW.out k)
    have HLN := Lib.hid (show itr qst (k + 1) x0 = qst k L by rw [hL]; rfl)
    have HLE := Lib.hid hL
    have HX := Lib.hid hX
    have HR := Lib.hid hR
    have HT := Lib.hid hT
    have HC := Lib.hid hC
    clear hX hR hT hC hL
    by_cases hk2 : k < 4
    · obtain ⟨r, hr⟩ : ∃ r, r = k % 2 := ⟨_, rfl⟩
      obtain ⟨a, ha⟩ : ∃ a, a = r * 2 := ⟨_, rfl⟩
      obtain ⟨a1, ha1⟩ : ∃ a1, a1 = a + 1 := ⟨_, rfl⟩
      obtain ⟨b, hb⟩ : ∃ b, b = a1 % 4 := ⟨_, rfl⟩
      obtain ⟨a3, ha3⟩ : ∃ a3, a3 = a + 3 := ⟨_, rfl⟩
      obtain ⟨d, hd⟩ : ∃ d, d = a3 % 4 := ⟨_, rfl⟩
      have ea : k % 2 * 2 = a := by omega
      have eb : (a + 1) % 4 = b := by omega
      have ed : (a + 3) % 4 = d := by omega
      have ha4 : a < 4 := by omega
      have hb4 : b < 4 := by omega
      have hd4 : d < 4 := by omega
      have i1 : ((k : Int) % 2) = (r : Int) := by omega
      have i2 : ((r : Int) * 2) = (a : Int) := by omega
      have i3 : ((a : Int) + 1) = (a1 : Int) := by omega
      have i4 : ((a1 : Int) % 4) = (b : Int) := by omega
      have i5 : ((a : Int) + 3) = (a3 : Int) := by omega
      have i6 : ((a3 : Int) % 4) = (d : Int) := by omega
      obtain ⟨xa, hxa⟩ : ∃ x, x = L.getD a 0 := ⟨_, rfl⟩
      obtain ⟨xb, hxb⟩ : ∃ x, x = L.getD b 0 := ⟨_, rfl⟩
      obtain ⟨s, hs, hse, Es⟩ := add_nm xa xb
      have ca : wr.cell? ⟨w.heap.size, a, none⟩ = some (.int .u32 (xa : Int)) := (cell_blk HX.out (o := a)).trans (ws_get (by rw [hxa]; exact some_getD (by rw [HL4.out]; exact ha4)))
      have cb : wr.cell? ⟨w.heap.size, b, none⟩ = some (.int .u32 (xb : Int)) := (cell_blk HX.out (o := b)).trans (ws_get (by rw [hxb]; exact some_getD (by rw [HL4.out]; exact hb4)))
      have fa : wr.frozen? ⟨w.heap.size, a, none⟩ = false := frozen_blk HX.out
      obtain ⟨M, hM⟩ : ∃ M, M = L.set a s := ⟨_, rfl⟩
      have HM4 := Lib.hid (show M.length = 4 by rw [hM, List.length_set, HL4.out])
      have HMW := Lib.hid (show W32 M by rw [hM]; exact HLW.out.set _ hs)
      have Hxs := Lib.hid (show M[a]? = some s by rw [hM]; simp [HL4.out, ha4])
      obtain ⟨xd, hxd⟩ : ∃ x, x = M.getD d 0 := ⟨_, rfl⟩
      have Hxd := Lib.hid (show M[d]? = some xd by rw [hxd]; exact some_getD (by rw [HM4.out]; exact hd4))
      obtain ⟨y, hy, hye, Ey⟩ := xor_nm (show xd < 4294967296 by rw [hxd]; exact HMW.out.get d) hs
      have HTk := Lib.hid (show turnsL[k]? = some (turnsL.getD k 0) from some_getD hk2)
      have HQ := Lib.hid (show M.set d (rl y (turnsL.getD k 0)) = itr qst (k + 1) x0 by
        rw [HLN.out]
        unfold qst
        simp only [ea, eb, ed]
        rw [← hxa, ← hxb, ← hse, ← hM, ← hxd, getD_of Hxs.out, ← hye])
      clear hr ha ha1 hb ha3 hd ea eb ed hxa hxb hse hxd hye
      have HXM := Lib.hid (show (wr.setCell ⟨w.heap.size, a, none⟩ (.int .u32 (s : Int))).drew.heap[w.heap.size]? = some (.cells (ws M) 51 (0, 0)) from (set_blk _ HX.out).trans (by rw [ws_set, hM]))
      have HRM := Lib.hid (show (wr.setCell ⟨w.heap.size, a, none⟩ (.int .u32 (s : Int))).drew.heap[w.heap.size + 1]? = some (.cells (ws (List.replicate 4 0)) 51 (0, 0)) from (set_other _ (by simp)).trans HR.out)
      have HTM := Lib.hid (show (wr.setCell ⟨w.heap.size, a, none⟩ (.int .u32 (s : Int))).drew.heap[w.heap.size + 1 + 1]? = some (.cells (il turnsL).toArray 3 (0, 0)) from (set_other _ (by simp <;> omega)).trans HT.out)
      have HCM := Lib.hid (show Chg Nowhere w (wr.setCell ⟨w.heap.size, a, none⟩ (.int .u32 (s : Int))).drew from (HC.out.put (.inr (Nat.le_refl _))).drew)
      clear hM
      go_wp2_with fail
      go_region
      go_wp2_with fail
      show Code.wp _ _ _ _ (wr.setCell ⟨w.heap.size, a, none⟩ (.int .u32 (s : Int))).drew
      generalize (wr.setCell ⟨w.heap.size, a, none⟩ (.int .u32 (s : Int))).drew = w2 at HXM HRM HTM HCM ⊢
      rw [i6]
      refine wp_region_calm0 14 [29, 30, 31, 32, 33, 34, 35, 36, 37, 38, 39, 40, 41, 42] [] [⟨[29], fun v _ => v = [.int .i64 (d : Int)]⟩, ⟨[30], fun v _ => v = [.int .i64 (d : Int)]⟩, ⟨[31], fun v _ => v = [.pointer (some ⟨w.heap.size, d, none⟩)]⟩, ⟨[32], fun v _ => v = [.int .u32 (xd : Int)]⟩, ⟨[33], fun v _ => v = [.int .i64 (a : Int)]⟩, ⟨[34], fun v _ => v = [.pointer (some ⟨w.heap.size, a, none⟩)]⟩, ⟨[35], fun v _ => v = [.int .u32 (s : Int)]⟩, ⟨[36], fun v _ => v = [.int .u32 (y : Int)]⟩, ⟨[37], fun v _ => v = [.slice (some ⟨w.heap.size + 1 + 1, 0, none⟩) 4 4]⟩, ⟨[38], fun v _ => v = [.int .i64 (k : Int)]⟩, ⟨[39], fun v _ => v = [.pointer (some ⟨w.heap.size + 1 + 1, k, none⟩)]⟩, ⟨[40], fun v _ => v = [.int .i64 ((turnsL.getD k 0 : Nat) : Int)]⟩, ⟨[41], fun v _ => v = [.int .u32 ((rl y (turnsL.getD k 0) : Nat) : Int)]⟩, ⟨[42], fun v _ => v = [.pointer (some ⟨w.heap.size, d, none⟩)]⟩] (Chg Nowhere) (by kernel_rfl) (by kernel_rfl) (by kernel_rfl) (Chg.refl _) Chg.trans' Chg.size (by decide) (Chg.refl Nowhere _).drew ?_ ?_ ?_
      · exact ⟨fun _ _ _ _ h => h, fun _ _ _ _ h => h, fun _ _ _ _ h => h, fun _ _ _ _ h => h, fun _ _ _ _ h => h, fun _ _ _ _ h => h, fun _ _ _ _ h => h, fun _ _ _ _ h => h, fun _ _ _ _ h => h, fun _ _ _ _ h => h, fun _ _ _ _ h => h, fun _ _ _ _ h => h, fun _ _ _ _ h => h, fun _ _ _ _ h => h, trivial⟩
      · simp only [List.take_succ_cons, List.take_zero]
        refine Steps.cons ?_ (Steps.cons ?_ (Steps.cons ?_ (Steps.cons ?_ (Steps.cons ?_ (Steps.cons ?_ (Steps.cons ?_ (Steps.cons ?_ (Steps.cons ?_ (Steps.cons ?_ (Steps.cons ?_ (Steps.cons ?_ (Steps.cons ?_ (Steps.cons ?_ Steps.nil)))))))))))))
        · intro x w' hR hd K Q' hK
          exact wp_move rfl rfl (hK _ _ (Chg.refl _ _) rfl (fun d h1 h2 => by simp at h2))
        · intro x w' hR hd K Q' hK
          exact wp_move rfl rfl (hK _ _ (Chg.refl _ _) rfl (fun d h1 h2 => by simp at h2))
        · intro x w' hR hd K Q' hK
          exact wp_index_addr rfl rfl (List.head_eq_of_cons_eq (hd 1 (by kernel_rfl))) (ia51 w.heap.size d (by omega) _) (hK _ _ (Chg.refl _ _) rfl (fun d h1 h2 => by simp at h2))
        · intro x w' hR hd K Q' hK
          exact wp_load_one rfl (List.head_eq_of_cons_eq (hd 2 (by kernel_rfl))) (ld39 _ _ _ _ ((cell_blk (hR.same HXM.out) (o := d)).trans (ws_get Hxd.out))) (hK _ _ (Chg.refl _ _) rfl (fun d h1 h2 => by simp at h2))
        · intro x w' hR hd K Q' hK
          exact wp_move rfl rfl (hK _ _ (Chg.refl _ _) rfl (fun d h1 h2 => by simp at h2))
        · intro x w' hR hd K Q' hK
          exact wp_index_addr rfl rfl (List.head_eq_of_cons_eq (hd 4 (by kernel_rfl))) (ia51 w.heap.size a (by omega) _) (hK _ _ (Chg.refl _ _) rfl (fun d h1 h2 => by simp at h2))
        · intro x w' hR hd K Q' hK
          exact wp_load_one rfl (List.head_eq_of_cons_eq (hd 5 (by kernel_rfl))) (ld39 _ _ _ _ ((cell_blk (hR.same HXM.out) (o := a)).trans (ws_get Hxs.out))) (hK _ _ (Chg.refl _ _) rfl (fun d h1 h2 => by simp at h2))
        · intro x w' hR hd K Q' hK
          exact wp_bin rfl (List.head_eq_of_cons_eq (hd 3 (by kernel_rfl))) (List.head_eq_of_cons_eq (hd 6 (by kernel_rfl))) rfl (xor39 xd s y Ey _) (hK _ _ (Chg.refl _ _) rfl (fun d h1 h2 => by simp at h2))
        · intro x w' hR hd K Q' hK
          exact wp_move rfl rfl (hK _ _ (Chg.refl _ _) rfl (fun d h1 h2 => by simp at h2))
        · intro x w' hR hd K Q' hK
          exact wp_move rfl rfl (hK _ _ (Chg.refl _ _) rfl (fun d h1 h2 => by simp at h2))
        · intro x w' hR hd K Q' hK
          exact wp_index_addr rfl (List.head_eq_of_cons_eq (hd 8 (by kernel_rfl))) (List.head_eq_of_cons_eq (hd 9 (by kernel_rfl))) (ia46 (w.heap.size + 1 + 1) k 4 4 (by omega) _) (hK _ _ (Chg.refl _ _) rfl (fun d h1 h2 => by simp at h2))
        · intro x w' hR hd K Q' hK
          exact wp_load_one rfl (List.head_eq_of_cons_eq (hd 10 (by kernel_rfl))) (ld3 _ _ _ _ ((cell_blk (hR.same HTM.out) (o := k)).trans (by simpa using il_get HTk.out))) (hK _ _ (Chg.refl _ _) rfl (fun d h1 h2 => by simp at h2))
        · intro x w' hR hd K Q' hK
          exact wp_call_fn rfl enters_rol [.int .u32 (y : Int), .int .i64 ((turnsL.getD k 0 : Nat) : Int)] (two_slots (hd 7 (by kernel_rfl)) (hd 11 (by kernel_rfl))) ((rol_any y k hy hk2 _).mono fun e w3 ⟨he, hC3⟩ => ⟨_, he, hK _ _ hC3 rfl (fun d h1 h2 => by simp at h2)⟩)
        · intro x w' hR hd K Q' hK
          exact wp_index_addr rfl rfl (List.head_eq_of_cons_eq (hd 0 (by kernel_rfl))) (ia51 w.heap.size d (by omega) _) (hK _ _ (Chg.refl _ _) rfl (fun d h1 h2 => by simp at h2))
      · intro x w' hR hV hap
        have e41 : x 41 = .int .u32 ((rl y (turnsL.getD k 0) : Nat) : Int) := List.head_eq_of_cons_eq (hV 12 (by decide))
        have e42 : x 42 = .pointer (some ⟨w.heap.size, d, none⟩) := List.head_eq_of_cons_eq (hV 13 (by decide))
        have VX := Lib.hid (hR.same HXM.out)
        have VR := Lib.hid (hR.same HRM.out)
        have VT := Lib.hid (hR.same HTM.out)
        have VC := Lib.hid (HCM.out.then_none hR)
        clear hR hV hap
        set_option linter.unusedSimpArgs false in
        simp only [puts, putsL, List.contains_cons, List.contains_nil, Nat.reduceBEq, Bool.or_true, Bool.true_or, Bool.or_false, Bool.false_eq_true, if_true, if_false, Nat.reduceAdd, List.drop_succ_cons, List.drop_zero, e41, e42]
        clear e41 e42
        obtain ⟨z, hz⟩ : ∃ z, z = rl y (turnsL.getD k 0) := ⟨_, rfl⟩
        rw [← hz] at HQ ⊢
        clear hz
        have cd : w'.cell? ⟨w.heap.size, d, none⟩ = some (.int .u32 (xd : Int)) := (cell_blk VX.out (o := d)).trans (ws_get Hxd.out)
        have fd : w'.frozen? ⟨w.heap.size, d, none⟩ = false := frozen_blk VX.out
        go_wp2_with fail
        go_roundw
        case rel => exact ⟨k + 1, by omega, by go_num, (set_blk _ VX.out).trans (by rw [ws_set, HQ.out]), (set_other _ (by simp)).trans VR.out, (set_other _ (by simp <;> omega)).trans VT.out, VC.out.put (.inr (Nat.le_refl _))⟩
        case measure => simp [intOf]; omega
    · have HF := Lib.hid (show L = itr qst 4 x0 by rw [HLE.out, show k = 4 by omega])
      rw [HF.out] at HX
      have HI4 := Lib.hid (show InfoArr 51 (ws (itr qst 4 x0)).size by rw [ws_size, qsts_len, HX4.out]; exact info4)
      go_wp2_with (first | (refine wpList_load_row rfl 51 (Operand.tmp 1) rfl w.heap.size rfl 51 _ (0, 0) _ HX.out Tryd.underlying51 rfl HI4.out ?_) | (refine wpList_store_row rfl 51 (Operand.tmp 2) (Operand.tmp 43) rfl (w.heap.size + 1) _ rfl rfl 51 _ HR.out HI4.out (by rw [ws_size, ws_size, qsts_len, HX4.out]; rfl) (ws_one _) ?_))
      refine bodyPost_ret (results_cell_row rfl _ _ (w.heap.size + 1) _ _ (0, 0) _ rfl (row_blk HR.out) Tryd.underlying51 rfl HI4.out) rfl ⟨rfl, HC.out.putRow (.inr (by omega))⟩
end Go.Proofs.YtebmbapaedlmiaaDoor
