/-
  The document's stream: Xor (the walk).
-/
import Derived.Test.YtebmbapaedlmiaaDoorSAdD
namespace Go.Proofs.YtebmbapaedlmiaaDoor
open Go.RowKit Ae
set_option linter.unusedVariables false

theorem wp_build_slice {P : Program} {o : Oper} {a : Act} {w w2 : World} {t : TypeId} {n : Nat} {parts : Array (Nat × Operand)} {ps : List (Nat × Value)} {v : Value} {K : Act → World → Prop} {Q : Exit → Act → World → Prop} (ho : o.op = .buildSlice t n parts)
    (hp : parts.toList.map (fun q => (q.1, a.eval q.2)) = ps) (hrun : (Instr.buildSlice t n ps.toArray).run P w = .ok v w2) (h : K (a.put o.dst v) w2) : o.wp P a w K Q := by
  refine wp_run ?_ h
  have e : parts.map (fun q => (q.1, a.eval q.2)) = ps.toArray := by rw [← hp]; exact (List.map_toArray ..).symm ▸ rfl
  unfold execOp
  simp only [ho]
  have e' : (parts.map fun (i, x) => (i, a.eval x)) = ps.toArray := e
  simp [e', hrun]
theorem run_build1 (z : Nat) (w : World) : (Instr.buildSlice 26 1 #[(0, .int .u8 (z : Int))]).run Tryd.prog w = .ok (.slice (some ⟨w.heap.size, 0, none⟩) 1 1) (w.alloc (.cells #[.int .u8 (z : Int)] 5)) := by go_simp
theorem one_part {x : Nat → Value} {d : Nat} {v : Value} (h : [x d] = [v]) : [((0 : Nat), x d)] = [(0, v)] := by rw [List.head_eq_of_cons_eq h]
theorem ia26 (b o j n c : Nat) (hj : (j : Int) < (n : Int)) (w : World) : (Instr.indexAt 26 (.slice (some ⟨b, o, none⟩) n c) (.int .i64 (j : Int))).run Tryd.prog w = .ok (.pointer (some ⟨b, o + j, none⟩)) w := by go_simp
theorem ia43 (b j : Nat) (hj : (j : Int) < 64) (w : World) : (Instr.indexAt 43 (.pointer (some ⟨b, 0, none⟩)) (.int .i64 (j : Int))).run Tryd.prog w = .ok (.pointer (some ⟨b, j, none⟩)) w := by go_simp
theorem ld5 (b j : Nat) (v : Int) (w : World) (h : w.cell? ⟨b, j, none⟩ = some (.int .u8 v)) : (Instr.loadAt 5 (.pointer (some ⟨b, j, none⟩))).run Tryd.prog w = .ok (.int .u8 v) w := by go_simp
theorem xor5 (a b c : Nat) (h : bits .xor .u8 (a : Int) (b : Int) = (c : Int)) (w : World) : (binOp .xor 5 (.int .u8 (a : Int)) (.int .u8 (b : Int))).run Tryd.prog w = .ok (.int .u8 (c : Int)) w := by go_simp
theorem sub3 (a b c : Nat) (h : (a : Int) - (b : Int) = (c : Int)) (hc : c < 1000000000) (w : World) : (binOp .sub 3 (.int .i64 (a : Int)) (.int .i64 (b : Int))).run Tryd.prog w = .ok (.int .i64 (c : Int)) w := by
  have hw : IntKind.i64.wrap (c : Int) = c := by rw [IntKind.wrap_i64]; omega
  go_simp
/-- A row of bytes of one's own, beside a key and a nonce. -/
structure RxW (w wr : World) (key nonce : List Nat) (v : Value) (l : List Nat) : Prop where
  k : wr.heap[w.heap.size]? = some (.cells (bs key) 23 (0, 0))
  n : wr.heap[w.heap.size + 1]? = some (.cells (bs nonce) 25 (0, 0))
  own : wr.ownsRow 0 5 1 v l.length (bl l)
  ge : ∀ i, v.ownBlock = some i → w.heap.size ≤ i
  c : Chg Nowhere w wr
theorem RxW.chg {w wr w2 : World} {key nonce l : List Nat} {v : Value} (h : RxW w wr key nonce v l) (hc : Chg Nowhere wr w2) : RxW w w2 key nonce v l :=
  ⟨hc.same h.k, hc.same h.n, own_chg h.own hc (fun _ _ => not_nowhere _), h.ge, h.c.then_none hc⟩
theorem RxW.app {w wr : World} {key nonce l m : List Nat} {v x : Value} (h : RxW w wr key nonce v l) (hx : RdB wr x m) (hn : l.length + m.length ≤ 400000000) :
    ∃ v' w', (Builtin.append_ #[26, 26] 26 #[v, x]).run Tryd.prog wr = .ok v' w' ∧ RxW w w' key nonce v' (l ++ m) ∧ wr.grownBy w' v.ownBlock := by
  obtain ⟨v', w', h1, h2, hg, hob⟩ := append_rd wr 26 v x l.length (bl l) m h.own hx hn
  rw [← bl_append, ← List.length_append] at h2
  exact ⟨v', w', h1, ⟨(hg.block _ (lt_blk h.k) (own_ne h.own h.k (by decide))).trans h.k, (hg.block _ (lt_blk h.n) (own_ne h.own h.n (by decide))).trans h.n, h2, fun i hi => by
    rcases hob with e | e <;> rw [e] at hi
    · exact h.ge i hi
    · injection hi with e2
      have := h.c.size
      omega, h.c.grown hg (fun k hk => .inl (h.ge k hk))⟩, hg⟩
set_option maxHeartbeats 8000000 in
set_option maxRecDepth 100000 in
theorem rxor_any (key nonce : List Nat) (ctr : Nat) (hk : key.length = 32) (hkb : Byt key) (hn : nonce.length = 12) (hnb : Byt nonce) (x : Value) (l : List Nat) (w : World) (h : RdB w x l) (hb : Byt l) (hlen : l.length ≤ 100000000) (hc : ctr < 4294967296) :
    Calls Tryd.prog 13 #[.agg (bs key), .int .u32 (ctr : Int), .agg (bs nonce), x] w (GivesO w (xors key ctr nonce l)) := by
  obtain ⟨BL, hBL⟩ : ∃ f : Nat → List Nat, f = fun c => block key c nonce := ⟨_, rfl⟩
  have HCB := Lib.hid (show ∀ c : Nat, c < 4294967296 → ∀ w : World, Calls Tryd.prog 18 #[.agg (bs key), .int .u32 (c : Int), .agg (bs nonce)] w (Gives w (.agg (bs (BL c)))) from fun c h w => by rw [hBL]; exact rblock_any key nonce c hk hkb hn hnb h w)
  have HBLL := Lib.hid (show ∀ c : Nat, (BL c).length = 64 from fun c => by rw [hBL]; exact block_len _ _ _)
  have HBLB := Lib.hid (show ∀ c : Nat, Byt (BL c) from fun c => by rw [hBL]; exact block_byt _ _ _)
  obtain ⟨OUT, hOUT⟩ : ∃ O, O = xors key ctr nonce l := ⟨_, rfl⟩
  obtain ⟨n, hnn⟩ : ∃ n, n = l.length := ⟨_, rfl⟩
  have HOL := Lib.hid (show OUT.length = n by rw [hOUT, xors_len, hnn])
  have HOG := Lib.hid (show ∀ k, k < n → OUT[k]? = some (l.getD k 0 ^^^ (BL (m32 (ctr + k / 64))).getD (k % 64) 0) from fun k hk => by rw [hOUT, hBL]; exact xors_get _ _ _ _ (by omega))
  rw [← hOUT]
  have HIK := Lib.hid (show InfoArr 23 (bs key).size by rw [bs_size, hk]; exact info32)
  have HIN := Lib.hid (show InfoArr 25 (bs nonce).size by rw [bs_size, hn]; exact info12)
  have HB := Lib.hid hb
  have HH := Lib.hid h
  have HNL := Lib.hid hnn
  have hnl : n ≤ 100000000 := by omega
  obtain ⟨-, A, c0, rfl, hnc, -⟩ := h
  rw [← hnn] at HH hnc ⊢
  clear hBL hOUT hk hkb hn hnb hb hnn hlen
  go_enter Tryd.func13, Tryd.ntmps13
  go_wp2_with fail
  have HW0 := Lib.hid (show RxW w (((w.alloc (.cells (bs key) 23)).alloc (.cells (bs nonce) 25)).alloc (.cells #[] 5)) key nonce (.slice (some ⟨w.heap.size + 1 + 1, 0, none⟩) 0 0) (OUT.take (64 * 0)) from ⟨alloc_old (alloc_old (alloc_new _ _)), alloc_old (new_1 _ _ _), (by
    have := World.ownsRow_lit (base := 0) (e := 5) (size := 1) ((w.alloc (.cells (bs key) 23)).alloc (.cells (bs nonce) 25)) #[] 0 (by omega) (by unfold maxLen; omega) rfl
    rw [sz2] at this
    exact this), (fun i hi => by simp only [Value.ownBlock, Option.some.injEq] at hi; omega), (((Chg.refl _ _).alloc _).alloc _).alloc _⟩)
  go_loopw [9, 10] (fun v i wr => ∃ c : Nat, 64 * c ≤ n + 63 ∧ i = .int .i64 ((64 * c : Nat) : Int) ∧ RxW w wr key nonce v (OUT.take (64 * c))) (fun _ i _ => n + 64 - (intOf i).toNat)
  case atStart => exact ⟨0, by omega, rfl, HW0.out⟩
  case round =>
    obtain ⟨c, hcn, rfl, hW⟩ := hrel
    clear HW0
    have HW := Lib.hid hW
    clear hW
    obtain ⟨i0, hi0⟩ : ∃ i, i = 64 * c := ⟨_, rfl⟩
    rw [← hi0] at HW hcn ⊢
    by_cases hi2 : i0 < n
    · have hdi : decide ((i0 : Int) < (n : Int)) = true := decide_eq_true (by omega)
      have q1 : (i0 : Int) / 64 = (c : Int) := by omega
      have q2 : (c : Int) % 4294967296 = (c : Int) := by omega
      obtain ⟨m, hm⟩ : ∃ m, m = m32 (ctr + c) := ⟨_, rfl⟩
      have hm32 : m < 4294967296 := by rw [hm]; exact m32_lt _
      have q3 : ((ctr : Int) + (c : Int)) % 4294967296 = (m : Int) := by rw [hm]; unfold m32; omega
      have HOK := Lib.hid (show ∀ k, i0 ≤ k → k < i0 + 64 → k < n → OUT[k]? = some (l.getD k 0 ^^^ (BL m).getD (k - i0) 0) from fun k h1 h2 h3 => by
        rw [HOG.out k h3, show k / 64 = c by omega, show k % 64 = k - i0 by omega, ← hm])
      have HI0 := Lib.hid hi0
      have HI64 := Lib.hid (show InfoArr 43 (bs (BL m)).size by rw [bs_size, HBLL.out]; exact info64)
      clear hm hi0
      go_upto_region 6 with (first
        | (refine wpList_load_row rfl 23 (Operand.tmp 4) rfl w.heap.size rfl 23 _ (0, 0) _ HW.out.k Tryd.underlying23 rfl HIK.out ?_)
        | (refine wpList_load_row rfl 25 (Operand.tmp 6) rfl (w.heap.size + 1) rfl 25 _ (0, 0) _ HW.out.n Tryd.underlying25 rfl HIN.out ?_)
        | (go_at_call 18; refine (HCB.out m hm32 _).mono ?_; rintro e w2 ⟨rfl, hC2⟩; have HW2 := Lib.hid (HW.out.chg hC2); clear hC2)
        | (refine wpList_store_row rfl 43 (Operand.tmp 11) (Operand.tmp 27) rfl w2.heap.size _ rfl rfl 43 (bs (List.replicate 64 0)) (alloc_new _ _) HI64.out (by rw [bs_size, bs_size, HBLL.out]; rfl) (bs_one _) ?_))
      simp only [Act.put]
      show Code.wp _ _ _ _ ((w2.alloc (.cells (bs (List.replicate 64 0)) 43)).setRow w2.heap.size (bs (BL m)))
      have HW3 := Lib.hid (show RxW w ((w2.alloc (.cells (bs (List.replicate 64 0)) 43)).setRow w2.heap.size (bs (BL m))) key nonce u9 (OUT.take i0) from HW2.out.chg (((Chg.refl Nowhere w2).alloc _).putRow (.inr (Nat.le_refl _))))
      have HS3 := Lib.hid (show ((w2.alloc (.cells (bs (List.replicate 64 0)) 43)).setRow w2.heap.size (bs (BL m))).heap[w2.heap.size]? = some (.cells (bs (BL m)) 43 (0, 0)) from row_blk (alloc_new _ _))
      generalize (w2.alloc (.cells (bs (List.replicate 64 0)) 43)).setRow w2.heap.size (bs (BL m)) = w3 at HW3 HS3 ⊢
      generalize w2.heap.size = gs at HS3 ⊢
      clear HW HW2
      go_wp2_with fail
      go_loopw [9, 12] (fun v i wr => ∃ k : Nat, i0 ≤ k ∧ k ≤ n ∧ k ≤ i0 + 64 ∧ i = .int .i64 (k : Int) ∧ RxW w wr key nonce v (OUT.take k) ∧ wr.heap[gs]? = some (.cells (bs (BL m)) 43 (0, 0))) (fun _ i _ => n - (intOf i).toNat)
      case atStart => exact ⟨i0, by omega, by omega, by omega, rfl, HW3.out, HS3.out⟩
      case round =>
        obtain ⟨k, hk0, hk1, hk2, rfl, hW, hS⟩ := hrel
        clear HW3 HS3
        have HW := Lib.hid hW
        have HS := Lib.hid hS
        clear hW hS
        have HEND := Lib.hid (show (k = n ∨ k = i0 + 64) → OUT.take k = OUT.take (64 * (c + 1)) from fun hh => by
          have e : 64 * (c + 1) = i0 + 64 := by have := HI0.out; omega
          rw [e]
          rcases hh with h | h
          · rw [List.take_of_length_le (by rw [HOL.out]; omega), List.take_of_length_le (by rw [HOL.out]; omega)]
          · rw [h])
        have HE2 := Lib.hid (show ((i0 : Int) + 64) = ((64 * (c + 1) : Nat) : Int) by have := HI0.out; omega)
        have HE3 := Lib.hid (show 64 * (c + 1) ≤ n + 63 by have := HI0.out; omega)
        rcases (by omega : (k < n ∧ k < i0 + 64) ∨ (k < n ∧ k = i0 + 64) ∨ k = n) with ⟨h1, h2⟩ | ⟨h1, h2⟩ | h1
        · have hd1 : decide ((k : Int) < (n : Int)) = true := decide_eq_true (by omega)
          have hd2 : decide ((k : Int) < (i0 : Int) + 64) = true := decide_eq_true (by omega)
          have hR := HH.out.same HW.out.c
          obtain ⟨-, A', c', hv, -, hA⟩ := hR
          simp only [Value.slice.injEq] at hv
          obtain ⟨rfl, -, rfl⟩ := hv
          obtain ⟨g, o, rfl, hgs, hcell⟩ := hA (by have := HNL.out; omega)
          obtain ⟨j, hj⟩ : ∃ j, j = k - i0 := ⟨_, rfl⟩
          have hj64 : j < 64 := by omega
          have hjs : (k : Int) - (i0 : Int) = (j : Int) := by omega
          obtain ⟨x, hx⟩ : ∃ x, x = l.getD k 0 := ⟨_, rfl⟩
          obtain ⟨y, hy⟩ : ∃ y, y = (BL m).getD j 0 := ⟨_, rfl⟩
          have hx8 : x < 256 := by rw [hx]; exact HB.out.at k
          have hy8 : y < 256 := by rw [hy]; exact (HBLB.out _).at _
          have HCX := Lib.hid (show wr.cell? ⟨g, o + k, none⟩ = some (.int .u8 (x : Int)) by rw [hcell k (by rw [bl_len, ← HNL.out]; exact h1), hx]; exact bl_get (some_getD (by rw [← HNL.out]; exact h1)))
          have HCX' := Lib.hid (show ∀ w', Chg Nowhere wr w' → w'.cell? ⟨g, o + k, none⟩ = some (.int .u8 (x : Int)) from fun w' hc => (hc.cell (p := ⟨g, o + k, none⟩) hgs (not_nowhere _)).trans HCX.out)
          have HYJ := Lib.hid (show (BL m)[j]? = some y by rw [hy]; exact some_getD (by rw [HBLL.out]; exact hj64))
          have HKO := Lib.hid (HOK.out k hk0 h2 h1)
          rw [← hx, ← hj, ← hy] at HKO
          have E1 := u8_xor_nat x y hx8 hy8
          obtain ⟨z, hz⟩ : ∃ z, z = x ^^^ y := ⟨_, rfl⟩
          rw [← hz] at E1 HKO
          have HZ := Lib.hid (show OUT.take k ++ [z] = OUT.take (k + 1) from take_snoc HKO.out)
          clear hx hy hz hj hcell hA HKO HCX
          go_wp2_with fail
          refine wp_region_calm0 12 [41, 42, 43, 44, 45, 46, 47, 48, 49, 50, 51, 52] [] [⟨[41], fun v _ => v = [u9]⟩, ⟨[42], fun v _ => v = [.slice (some ⟨g, o, none⟩) n c0]⟩, ⟨[43], fun v _ => v = [.int .i64 (k : Int)]⟩, ⟨[44], fun v _ => v = [.pointer (some ⟨g, o + k, none⟩)]⟩, ⟨[45], fun v _ => v = [.int .u8 (x : Int)]⟩, ⟨[46], fun v _ => v = [.int .i64 (k : Int)]⟩, ⟨[47], fun v _ => v = [.int .i64 (i0 : Int)]⟩, ⟨[48], fun v _ => v = [.int .i64 (j : Int)]⟩, ⟨[49], fun v _ => v = [.pointer (some ⟨gs, j, none⟩)]⟩, ⟨[50], fun v _ => v = [.int .u8 (y : Int)]⟩, ⟨[51], fun v _ => v = [.int .u8 (z : Int)]⟩, ⟨[52], fun v w2 => ∃ b, v = [.slice (some ⟨b, 0, none⟩) 1 1] ∧ w2.heap[b]? = some (.cells #[.int .u8 (z : Int)] 5 (0, 0))⟩] (Chg Nowhere) (by kernel_rfl) (by kernel_rfl) (by kernel_rfl) (Chg.refl _) Chg.trans' Chg.size (by decide) (Chg.refl Nowhere _).drew ?_ ?_ ?_
          · exact ⟨fun _ _ _ _ h => h, fun _ _ _ _ h => h, fun _ _ _ _ h => h, fun _ _ _ _ h => h, fun _ _ _ _ h => h, fun _ _ _ _ h => h, fun _ _ _ _ h => h, fun _ _ _ _ h => h, fun _ _ _ _ h => h, fun _ _ _ _ h => h, fun _ _ _ _ h => h, fun _ _ _ hR ⟨b, h1, h2⟩ => ⟨b, h1, hR.same h2⟩, trivial⟩
          · simp only [List.take_succ_cons, List.take_zero]
            refine Steps.cons ?_ (Steps.cons ?_ (Steps.cons ?_ (Steps.cons ?_ (Steps.cons ?_ (Steps.cons ?_ (Steps.cons ?_ (Steps.cons ?_ (Steps.cons ?_ (Steps.cons ?_ (Steps.cons ?_ (Steps.cons ?_ Steps.nil)))))))))))
            · intro f w' hR hd K Q' hK
              exact wp_move rfl rfl (hK _ _ (Chg.refl _ _) rfl (fun d h1 h2 => by simp at h2))
            · intro f w' hR hd K Q' hK
              exact wp_move rfl rfl (hK _ _ (Chg.refl _ _) rfl (fun d h1 h2 => by simp at h2))
            · intro f w' hR hd K Q' hK
              exact wp_move rfl rfl (hK _ _ (Chg.refl _ _) rfl (fun d h1 h2 => by simp at h2))
            · intro f w' hR hd K Q' hK
              exact wp_index_addr rfl (List.head_eq_of_cons_eq (hd 1 (by kernel_rfl))) (List.head_eq_of_cons_eq (hd 2 (by kernel_rfl))) (ia26 g o k n c0 (by omega) _) (hK _ _ (Chg.refl _ _) rfl (fun d h1 h2 => by simp at h2))
            · intro f w' hR hd K Q' hK
              exact wp_load_one rfl (List.head_eq_of_cons_eq (hd 3 (by kernel_rfl))) (ld5 _ _ _ _ (HCX'.out _ hR)) (hK _ _ (Chg.refl _ _) rfl (fun d h1 h2 => by simp at h2))
            · intro f w' hR hd K Q' hK
              exact wp_move rfl rfl (hK _ _ (Chg.refl _ _) rfl (fun d h1 h2 => by simp at h2))
            · intro f w' hR hd K Q' hK
              exact wp_move rfl rfl (hK _ _ (Chg.refl _ _) rfl (fun d h1 h2 => by simp at h2))
            · intro f w' hR hd K Q' hK
              exact wp_bin rfl (List.head_eq_of_cons_eq (hd 5 (by kernel_rfl))) (List.head_eq_of_cons_eq (hd 6 (by kernel_rfl))) rfl (sub3 k i0 j hjs (by omega) _) (hK _ _ (Chg.refl _ _) rfl (fun d h1 h2 => by simp at h2))
            · intro f w' hR hd K Q' hK
              exact wp_index_addr rfl rfl (List.head_eq_of_cons_eq (hd 7 (by kernel_rfl))) (ia43 gs j (by omega) _) (hK _ _ (Chg.refl _ _) rfl (fun d h1 h2 => by simp at h2))
            · intro f w' hR hd K Q' hK
              exact wp_load_one rfl (List.head_eq_of_cons_eq (hd 8 (by kernel_rfl))) (ld5 _ _ _ _ ((cell_blk (hR.same HS.out) (o := j)).trans (bs_get HYJ.out))) (hK _ _ (Chg.refl _ _) rfl (fun d h1 h2 => by simp at h2))
            · intro f w' hR hd K Q' hK
              exact wp_bin rfl (List.head_eq_of_cons_eq (hd 4 (by kernel_rfl))) (List.head_eq_of_cons_eq (hd 9 (by kernel_rfl))) rfl (xor5 x y z E1 _) (hK _ _ (Chg.refl _ _) rfl (fun d h1 h2 => by simp at h2))
            · intro f w' hR hd K Q' hK
              exact wp_build_slice rfl (one_part (hd 10 (by kernel_rfl))) (run_build1 z _) (hK _ _ ((Chg.refl _ _).alloc _) ⟨_, rfl, alloc_new _ _⟩ (fun d h1 h2 => by simp at h2))
          · intro f w' hR hV hap
            have e41 : f 41 = u9 := List.head_eq_of_cons_eq (hV 0 (by decide))
            obtain ⟨b52, h52, hh52⟩ := hV 11 (by decide)
            have e52 : f 52 = .slice (some ⟨b52, 0, none⟩) 1 1 := List.head_eq_of_cons_eq h52
            have VS := Lib.hid (hR.same HS.out)
            obtain ⟨v9, w9, hr9, hW9, hg9⟩ := (HW.out.chg hR).app (m := [z]) (rd_blk (l := [z]) hh52 rfl) (by rw [List.length_take, HOL.out]; simp; omega)
            rw [HZ.out] at hW9
            have HR9 := Lib.hid hr9
            have HW9 := Lib.hid hW9
            have HS9 := Lib.hid ((hg9.block _ (lt_blk VS.out) (own_ne (HW.out.chg hR).own VS.out (by decide))).trans VS.out)
            clear hR hV hap h52 hh52 hr9 hW9 hg9
            set_option linter.unusedSimpArgs false in
            simp only [puts, putsL, List.contains_cons, List.contains_nil, Nat.reduceBEq, Bool.or_true, Bool.true_or, Bool.or_false, Bool.false_eq_true, if_true, if_false, Nat.reduceAdd, List.drop_succ_cons, List.drop_zero, e41, e52]
            clear e41 e52
            go_wp2_with (at_builtin; refine Lib.wpList_append_run _ rfl _ _ 26 26 rfl u9 (.slice (some ⟨b52, 0, none⟩) 1 1) rfl rfl v9 w9 HR9.out ?_)
            go_roundw
            case rel => exact ⟨k + 1, by omega, by omega, by omega, by go_num, HW9.out, HS9.out⟩
            case measure => simp [intOf]; omega
        · have hd1 : decide ((k : Int) < (n : Int)) = true := decide_eq_true (by omega)
          have hd2 : decide ((k : Int) < (i0 : Int) + 64) = false := decide_eq_false (by omega)
          rw [HEND.out (.inr h2)] at HW
          go_wp2_with fail
          go_roundw
          case rel => exact ⟨c + 1, HE3.out, congrArg (Value.int .i64) HE2.out, HW.out⟩
          case measure => simp [intOf]; omega
        · have hd1 : decide ((k : Int) < (n : Int)) = false := decide_eq_false (by omega)
          rw [HEND.out (.inl h1)] at HW
          go_wp2_with fail
          go_roundw
          case rel => exact ⟨c + 1, HE3.out, congrArg (Value.int .i64) HE2.out, HW.out⟩
          case measure => simp [intOf]; omega
    · have hdi : decide ((i0 : Int) < (n : Int)) = false := decide_eq_false (by omega)
      have HF := Lib.hid (show OUT.take i0 = OUT from List.take_of_length_le (by rw [HOL.out]; omega))
      rw [HF.out] at HW
      go_wp2_with fail
      go_ret
      exact ⟨_, rfl, ⟨HW.out.own, HW.out.ge⟩, HW.out.c⟩
end Go.Proofs.YtebmbapaedlmiaaDoor
