/-
  Numbers of three words: canon of package clamp (the walk).
  A block of the stream: the plain facts that its walk asks.
-/
import Derived.Test.YtebmbapaedlmiaaDoorSAeC
import Derived.Test.YtebmbapaedlmiaaDoorSAeO

namespace Go.Proofs.YtebmbapaedlmiaaDoor
open Go.RowKit Ae
set_option linter.unusedVariables false

theorem three_get {T : List Nat} {f : Nat → Nat} (h : T = [f 0, f 1, f 2]) {k : Nat} (hk : k < 3) : T[k]? = some (f k) := by
  subst h
  rcases (by omega : k = 0 ∨ k = 1 ∨ k = 2) with rfl | rfl | rfl <;> rfl
theorem fill_get {α : Type} (z : α) (T : List α) {k : Nat} (h : k < T.length) : (fillTo z T k)[k]? = some z := by
  unfold fillTo
  rw [List.getElem?_append_right (by simp; omega), List.length_take, Nat.min_eq_left (by omega), Nat.sub_self, List.getElem?_replicate, if_pos (by omega)]
theorem two_set {α : Type} (S D : List α) {k : Nat} {b : α} (hS : k < S.length) (hD : k < D.length) (h : S[k]? = some b) : (S.take k ++ D.drop k).set k b = S.take (k + 1) ++ D.drop (k + 1) := by
  rw [List.set_append, if_neg (by simp; omega), List.length_take, Nat.min_eq_left (by omega), Nat.sub_self, List.take_add_one, h]
  have e : D.drop k = D[k] :: D.drop (k + 1) := List.drop_eq_getElem_cons hD
  rw [e, List.set_cons_zero, List.append_assoc]
  rfl
theorem sub64_ex2 (x y b : Nat) (hb : b ≤ 1) : ∃ s d : Nat, (∀ w, (callFunc 52 #[.int .u64 (x : Int), .int .u64 (y : Int), .int .u64 (b : Int)]).run Tryd.prog w = .ok (.value (.tuple #[.int .u64 (s : Int), .int .u64 (d : Int)])) w) ∧
    s = (x + 18446744073709551616 - y - b) % 18446744073709551616 ∧ d = if x < y + b then 1 else 0 := ⟨_, _, fun w => sub64 x y b hb w, rfl, rfl⟩
set_option maxHeartbeats 1600000 in
set_option maxRecDepth 100000 in
theorem canon_any (x : Nat) (hx : x < 6277101735386680763835789423207666416102355444464034512896) (w : World) (hg : Glob w) :
    Calls Tryd.prog 47 #[.agg (ds (words x))] w (Gives w (.agg (ds (words (x % q))))) := by
  obtain ⟨X, hX⟩ : ∃ X, X = fold1 (fold1 x) := ⟨_, rfl⟩
  have HX2 := Lib.hid (show X < 1361129467683753853853498429727072845824 by rw [hX]; exact fold2_lt hx)
  have HE := Lib.hid (show x % q = X % q by rw [hX, fold1_mod, fold1_mod])
  have HX := Lib.hid hX
  have HG := Lib.hid hg
  have hs3 := hg.size
  have HXL := Lib.hid hx
  clear hX hg hx
  obtain ⟨D, hD⟩ : ∃ D, D = [dif X 0, dif X 1, dif X 2] := ⟨_, rfl⟩
  obtain ⟨S, hS⟩ : ∃ S, S = [sel X 0, sel X 1, sel X 2] := ⟨_, rfl⟩
  have HD := Lib.hid hD
  have HS := Lib.hid hS
  have HDL := Lib.hid (show D.length = 3 by rw [hD]; rfl)
  have HSL := Lib.hid (show S.length = 3 by rw [hS]; rfl)
  clear hD hS
  go_enter Tryd.func47, Tryd.ntmps47
  have HIW := infoW x
  have HIX := infoW X
  have hsz : (ds (words x)).size = (ds (words X)).size := rfl
  go_wp2_with (first | (refine wpList_load_row rfl 67 (Operand.tmp 1) rfl w.heap.size rfl 67 (ds (words x)) (0, 0) _ (alloc_old (alloc_new _ _)) Tryd.underlying67 rfl HIW ?_) | (go_at_call 42; refine (fold_any x HXL.out _).mono ?_; rw [← HX.out]; rintro e w1 ⟨rfl, hC1⟩; have B1 := Lib.hid (hC1.same (alloc_old (alloc_new w (.cells (ds (words x)) 67)))); have R1 := Lib.hid (hC1.same (new_1 w _ (.cells (ds (words 0)) 67))); have hw1 : w.heap.size + 1 + 1 ≤ w1.heap.size := (by have := hC1.size; simpa using this); have HC1 := Lib.hid (Chg.none_then (((Chg.refl Nowhere w).alloc _).alloc _) hC1); clear hC1) | (refine wpList_store_row rfl 67 (Operand.tmp 1) (Operand.tmp 8) rfl w.heap.size _ rfl rfl 67 _ B1.out HIX hsz (ds_one _) ?_))
  have HA0 := Lib.hid (show ((w1.setRow w.heap.size (ds (words X))).alloc (.cells (ds (words 0)) 67)).heap[w.heap.size]? = some (.cells (ds (words X)) 67 (0, 0)) from alloc_old (row_blk B1.out))
  have HT0 := Lib.hid (show ((w1.setRow w.heap.size (ds (words X))).alloc (.cells (ds (words 0)) 67)).heap[w1.heap.size]? = some (.cells (ds (fillTo 0 D 0)) 67 (0, 0)) by rw [fill_zero, HDL.out]; have := alloc_new (w1.setRow w.heap.size (ds (words X))) (.cells (ds (words 0)) 67); rwa [setRow_size] at this)
  have HR0 := Lib.hid (show ((w1.setRow w.heap.size (ds (words X))).alloc (.cells (ds (words 0)) 67)).heap[w.heap.size + 1]? = some (.cells (ds (words 0)) 67 (0, 0)) from alloc_old (row_other R1.out (by omega)))
  have HC0 := Lib.hid ((HC1.out.putRow (b := w.heap.size) (cs := ds (words X)) (.inr (Nat.le_refl _))).alloc (.cells (ds (words 0)) 67))
  go_loopw [4, 9] (fun c i wr => ∃ k : Nat, k ≤ 3 ∧ i = .int .i64 k ∧ (∃ b : Nat, c = .int .u64 (b : Int) ∧ Hid (b = bor X k)) ∧ wr.heap[w.heap.size]? = some (.cells (ds (words X)) 67 (0, 0)) ∧ wr.heap[w1.heap.size]? = some (.cells (ds (fillTo 0 D k)) 67 (0, 0)) ∧ wr.heap[w.heap.size + 1]? = some (.cells (ds (words 0)) 67 (0, 0)) ∧ Chg Nowhere w wr) (fun _ i _ => 3 - (intOf i).toNat)
  case atStart => exact ⟨0, by omega, rfl, ⟨0, rfl, Lib.hid rfl⟩, HA0.out, HT0.out, HR0.out, HC0.out⟩
  case round =>
    obtain ⟨k, hk, rfl, ⟨b, rfl, HBr⟩, hA, hT, hR, hC⟩ := hrel
    have HA := Lib.hid hA
    have HT := Lib.hid hT
    have HR := Lib.hid hR
    have HC := Lib.hid hC
    have hbl : b ≤ 1 := by rw [HBr.out]; exact bor_le _ _
    clear hA hT hR hC HA0 HT0 HR0 HC0
    by_cases hk2 : k < 3
    · obtain ⟨y, hy⟩ : ∃ y, y = X / 18446744073709551616 ^ k % 18446744073709551616 := ⟨_, rfl⟩
      obtain ⟨p, hp⟩ : ∃ p, p = q / 18446744073709551616 ^ k % 18446744073709551616 := ⟨_, rfl⟩
      have cy : wr.cell? ⟨w.heap.size, k, none⟩ = some (.int .u64 (y : Int)) := by rw [hy]; exact (cell_blk HA.out (o := k)).trans (ds_get (words_get _ _ hk2))
      have cp : wr.cell? ⟨2, k, none⟩ = some (.int .u64 (p : Int)) := by rw [hp]; exact (HG.out.chg HC.out).word hk2
      have ct : wr.cell? ⟨w1.heap.size, k, none⟩ = some (.int .u64 ((0 : Nat) : Int)) := (cell_blk HT.out (o := k)).trans (ds_get (fill_get 0 D (by rw [HDL.out]; exact hk2)))
      have ft : wr.frozen? ⟨w1.heap.size, k, none⟩ = false := frozen_blk HT.out
      obtain ⟨s, d, hrun, hs, hd⟩ := sub64_ex2 y p b hbl
      have HSD := Lib.hid (show s = dif X k ∧ d = bor X (k + 1) by rw [hs, hd, HBr.out, hy, hp]; exact ⟨rfl, rfl⟩)
      have HDK := Lib.hid (three_get HD.out hk2)
      rw [← HSD.out.1] at HDK
      clear hs hd hy hp
      go_wp2_with fail
      go_region
      go_wp2_with fail
      go_roundw
      case rel => exact ⟨k + 1, by omega, by go_num, ⟨d, rfl, Lib.hid HSD.out.2⟩, (set_other _ (by simp <;> omega)).trans HA.out, (set_blk _ HT.out).trans (by rw [ds_set, fill_set 0 D HDK.out]), (set_other _ (by simp <;> omega)).trans HR.out, (HC.out.put (.inr (by omega))).drew⟩
      case measure => simp [intOf]; omega
    · have HK := Lib.hid (show k = 3 by omega)
      have HB3 := Lib.hid (show b = bor X 3 by rw [← HK.out]; exact HBr.out)
      have HT3 := Lib.hid (show wr.heap[w1.heap.size]? = some (.cells (ds (D.take 0 ++ D)) 67 (0, 0)) by rw [HT.out, fill_all 0 D (by rw [HDL.out]; omega)]; rfl)
      go_wp2_with fail
      go_loopw [26] (fun i wr => ∃ k : Nat, k ≤ 3 ∧ i = .int .i64 k ∧ wr.heap[w.heap.size]? = some (.cells (ds (words X)) 67 (0, 0)) ∧ wr.heap[w1.heap.size]? = some (.cells (ds (S.take k ++ D.drop k)) 67 (0, 0)) ∧ wr.heap[w.heap.size + 1]? = some (.cells (ds (words 0)) 67 (0, 0)) ∧ Chg Nowhere w wr) (fun i _ => 3 - (intOf i).toNat)
      case atStart => exact ⟨0, by omega, rfl, HA.out, HT3.out, HR.out, HC.out⟩
      case round =>
        obtain ⟨j, hj, rfl, hA, hT, hR, hC⟩ := hrel
        clear HA HT HR HC HT3
        have HA := Lib.hid hA
        have HT := Lib.hid hT
        have HR := Lib.hid hR
        have HC := Lib.hid hC
        clear hA hT hR hC
        by_cases hj2 : j < 3
        · obtain ⟨y, hy⟩ : ∃ y, y = X / 18446744073709551616 ^ j % 18446744073709551616 := ⟨_, rfl⟩
          obtain ⟨t, ht⟩ : ∃ t, t = dif X j := ⟨_, rfl⟩
          have HY := Lib.hid hy
          have HTT := Lib.hid ht
          have cy : wr.cell? ⟨w.heap.size, j, none⟩ = some (.int .u64 (y : Int)) := by rw [hy]; exact (cell_blk HA.out (o := j)).trans (ds_get (words_get _ _ hj2))
          have ct : wr.cell? ⟨w1.heap.size, j, none⟩ = some (.int .u64 (t : Int)) := (cell_blk HT.out (o := j)).trans (ds_get (by rw [List.getElem?_append_right (by simp [HSL.out]; omega), List.getElem?_drop, List.length_take, HSL.out, Nat.min_eq_left (by omega), Nat.sub_self, Nat.add_zero, ht]; exact three_get HD.out hj2))
          have ft : wr.frozen? ⟨w1.heap.size, j, none⟩ = false := frozen_blk HT.out
          have HM := Lib.hid (mask_sel (t := t) (x := y) (c := b) (by rw [ht]; exact dif_lt _ _) (by rw [hy]; exact Nat.mod_lt _ (by decide)) hbl)
          clear hy ht
          go_wp2_with fail
          go_region
          rw [HM.out]
          have HN := Lib.hid (show (if b = 1 then y else t) = sel X j by rw [HB3.out, HY.out, HTT.out]; rfl)
          rw [HN.out]
          go_wp2_with fail
          go_roundw
          case rel => exact ⟨j + 1, by omega, by go_num, (set_other _ (by simp <;> omega)).trans HA.out, (set_blk _ HT.out).trans (by rw [ds_set, two_set S D (by rw [HSL.out]; omega) (by rw [HDL.out]; omega) (three_get HS.out hj2)]), (set_other _ (by simp <;> omega)).trans HR.out, (HC.out.put (.inr (by omega))).drew⟩
          case measure => simp [intOf]; omega
        · have HJ := Lib.hid (show words (X % q) = S.take j ++ D.drop j by rw [List.take_of_length_le (by rw [HSL.out]; omega), List.drop_of_length_le (by rw [HDL.out]; omega), List.append_nil, HS.out]; exact sel_eq HX2.out)
          rw [← HJ.out] at HT
          have HIQ := infoW (X % q)
          go_wp2_with (first | (refine wpList_load_row rfl 67 (Operand.tmp 3) rfl w1.heap.size rfl 67 _ (0, 0) _ HT.out Tryd.underlying67 rfl HIQ ?_) | (refine wpList_store_row rfl 67 (Operand.tmp 2) (Operand.tmp 45) rfl (w.heap.size + 1) _ rfl rfl 67 _ HR.out HIQ rfl (ds_one _) ?_))
          refine bodyPost_ret (results_cell_row rfl _ _ (w.heap.size + 1) _ _ (0, 0) _ rfl (row_blk HR.out) Tryd.underlying67 rfl (infoW _)) rfl ⟨?_, HC.out.putRow (.inr (by omega))⟩
          rw [HE.out]
end Go.Proofs.YtebmbapaedlmiaaDoor

namespace Go.Proofs.YtebmbapaedlmiaaDoor
open Go.RowKit Ae
set_option linter.unusedVariables false

def W32 (l : List Nat) : Prop := ∀ x ∈ l, x < 4294967296
theorem W32.get {l : List Nat} (h : W32 l) (i : Nat) : l.getD i 0 < 4294967296 := by
  rw [List.getD_eq_getElem?_getD]
  cases hi : l[i]? with
  | none => simp
  | some x => exact h x (List.mem_of_getElem? hi)
theorem W32.set {l : List Nat} (h : W32 l) (i : Nat) {x : Nat} (hx : x < 4294967296) : W32 (l.set i x) := fun y hy => by
  rcases List.mem_or_eq_of_mem_set hy with h1 | rfl
  · exact h y h1
  · exact hx
theorem qr_len (a b c d : Nat) : (qr a b c d).length = 4 := rfl
theorem qr_w32 {a b c d : Nat} (ha : a < 4294967296) (hb : b < 4294967296) (hc : c < 4294967296) (hd : d < 4294967296) : W32 (qr a b c d) := by
  intro x hx
  simp only [qr, List.mem_cons, List.not_mem_nil, or_false] at hx
  rcases hx with rfl | rfl | rfl | rfl
  · exact m32_lt _
  · exact rl_lt (xor32_lt (rl_lt (xor32_lt hb (m32_lt _)) _) (m32_lt _)) _
  · exact m32_lt _
  · exact rl_lt (xor32_lt (rl_lt (xor32_lt hd (m32_lt _)) _) (m32_lt _)) _
/-- What the quarter of a state is. -/
def quR (i : Nat) (x : List Nat) : List Nat := qr (x.getD (place i 0) 0) (x.getD (place i 1) 0) (x.getD (place i 2) 0) (x.getD (place i 3) 0)
def quS (i j : Nat) (x : List Nat) : List Nat := itr (fun j y => y.set (place i j) ((quR i x).getD j 0)) j x
theorem quart_eq (i : Nat) (x : List Nat) : quart i x = quS i 4 x := rfl
theorem quR_w32 {x : List Nat} (h : W32 x) (i : Nat) : W32 (quR i x) := qr_w32 (h.get _) (h.get _) (h.get _) (h.get _)
theorem quS_len (i : Nat) (x : List Nat) : ∀ j, (quS i j x).length = x.length
  | 0 => rfl
  | j + 1 => by show (List.set _ _ _).length = _; rw [List.length_set]; exact quS_len i x j
theorem quS_w32 {x : List Nat} (h : W32 x) (i : Nat) : ∀ j, W32 (quS i j x)
  | 0 => h
  | j + 1 => (quS_w32 h i j).set _ ((quR_w32 h i).get _)
theorem rnd_len (x : List Nat) : ∀ k, (itr quart k x).length = x.length
  | 0 => rfl
  | k + 1 => by show (quart k _).length = _; rw [quart_eq, quS_len]; exact rnd_len x k
theorem rnd_w32 {x : List Nat} (h : W32 x) : ∀ k, W32 (itr quart k x)
  | 0 => h
  | k + 1 => by
    show W32 (quart k (itr quart k x))
    rw [quart_eq]
    exact quS_w32 (rnd_w32 h k) k 4
theorem rnds_len' (m : Nat) (x : List Nat) : ∀ n, (itr (fun _ x => itr quart m x) n x).length = x.length
  | 0 => rfl
  | n + 1 => by show (itr quart m _).length = _; rw [rnd_len]; exact rnds_len' m x n
theorem rnds_w32' (m : Nat) {x : List Nat} (h : W32 x) : ∀ n, W32 (itr (fun _ x => itr quart m x) n x)
  | 0 => h
  | n + 1 => rnd_w32 (rnds_w32' m h n) m
theorem rnds_len (x : List Nat) (n : Nat) : (itr (fun _ x => itr quart 8 x) n x).length = x.length := rnds_len' 8 x n
theorem rnds_w32 {x : List Nat} (h : W32 x) (n : Nat) : W32 (itr (fun _ x => itr quart 8 x) n x) := rnds_w32' 8 h n
theorem place_lt {i j : Nat} (hi : i < 8) (hj : j < 4) : place i j < 16 := by
  rcases (by omega : i = 0 ∨ i = 1 ∨ i = 2 ∨ i = 3 ∨ i = 4 ∨ i = 5 ∨ i = 6 ∨ i = 7) with rfl | rfl | rfl | rfl | rfl | rfl | rfl | rfl <;>
    rcases (by omega : j = 0 ∨ j = 1 ∨ j = 2 ∨ j = 3) with rfl | rfl | rfl | rfl <;> decide
theorem word4_lt {l : List Nat} (h : Byt l) (i : Nat) : word4 l i < 4294967296 := by
  have g : ∀ i, l.getD i 0 < 256 := fun i => by
    rw [List.getD_eq_getElem?_getD]
    cases hi : l[i]? with
    | none => simp
    | some x => exact h x (List.mem_of_getElem? hi)
  have h0 := g i
  have h1 := g (i + 1)
  have h2 := g (i + 2)
  have h3 := g (i + 3)
  unfold word4
  omega
theorem startW_len (key : List Nat) (ctr : Nat) (nonce : List Nat) : (startW key ctr nonce).length = 16 := rfl
theorem startW_w32 {key nonce : List Nat} {ctr : Nat} (hk : Byt key) (hn : Byt nonce) (hc : ctr < 4294967296) : W32 (startW key ctr nonce) := by
  intro x hx
  simp only [startW, List.mem_append, List.mem_cons, List.mem_map, headW, List.not_mem_nil, or_false] at hx
  rcases hx with (hx | ⟨i, _, rfl⟩) | rfl | ⟨i, _, rfl⟩
  · omega
  · exact word4_lt hk _
  · exact hc
  · exact word4_lt hn _
theorem startW_head (key : List Nat) (ctr : Nat) (nonce : List Nat) {k : Nat} (hk : k < 4) : (startW key ctr nonce)[k]? = some (headW.getD k 0) := by
  rcases (by omega : k = 0 ∨ k = 1 ∨ k = 2 ∨ k = 3) with rfl | rfl | rfl | rfl <;> rfl
theorem startW_key (key : List Nat) (ctr : Nat) (nonce : List Nat) {k : Nat} (hk : k < 8) : (startW key ctr nonce)[4 + k]? = some (word4 key (4 * k)) := by
  rcases (by omega : k = 0 ∨ k = 1 ∨ k = 2 ∨ k = 3 ∨ k = 4 ∨ k = 5 ∨ k = 6 ∨ k = 7) with rfl | rfl | rfl | rfl | rfl | rfl | rfl | rfl <;> rfl
theorem startW_ctr (key : List Nat) (ctr : Nat) (nonce : List Nat) : (startW key ctr nonce)[12]? = some ctr := rfl
theorem startW_nonce (key : List Nat) (ctr : Nat) (nonce : List Nat) {k : Nat} (hk : k < 3) : (startW key ctr nonce)[13 + k]? = some (word4 nonce (4 * k)) := by
  rcases (by omega : k = 0 ∨ k = 1 ∨ k = 2) with rfl | rfl | rfl <;> rfl
theorem flat4_get : ∀ (L : List Nat) (i k x : Nat), L[i]? = some x → k < 4 → ((L.map (bytesOf 4)).flatten)[4 * i + k]? = some (x / 256 ^ k % 256)
  | [], _, _, _, h, _ => by simp at h
  | y :: L, 0, k, x, h, hk => by
    simp at h
    subst h
    rw [List.map_cons, List.flatten_cons, List.getElem?_append_left (by rw [bytesOf_len]; omega), Nat.mul_zero, Nat.zero_add]
    exact bytesOf_get 4 _ _ hk
  | y :: L, i + 1, k, x, h, hk => by
    rw [List.map_cons, List.flatten_cons, List.getElem?_append_right (by rw [bytesOf_len]; omega), bytesOf_len, show 4 * (i + 1) + k - 4 = 4 * i + k by omega]
    exact flat4_get L i k x (by simpa using h) hk
theorem flat4_len : ∀ (L : List Nat), ((L.map (bytesOf 4)).flatten).length = 4 * L.length
  | [] => rfl
  | y :: L => by rw [List.map_cons, List.flatten_cons, List.length_append, bytesOf_len, flat4_len L, List.length_cons]; omega
theorem blockW_len (key : List Nat) (ctr : Nat) (nonce : List Nat) : (blockW key ctr nonce).length = 16 := by
  simp [blockW, rnds_len, startW_len]
theorem block_len (key : List Nat) (ctr : Nat) (nonce : List Nat) : (block key ctr nonce).length = 64 := by rw [block, flat4_len, blockW_len]
theorem flat4_byt (L : List Nat) : Byt ((L.map (bytesOf 4)).flatten) := by
  intro b hb
  obtain ⟨m, hm, hbm⟩ := List.mem_flatten.1 hb
  obtain ⟨x, _, rfl⟩ := List.mem_map.1 hm
  exact bytesOf_byt 4 x b hbm
theorem block_get {key nonce : List Nat} {ctr i k x : Nat} (h : (blockW key ctr nonce)[i]? = some x) (hk : k < 4) : (block key ctr nonce)[4 * i + k]? = some (x / 256 ^ k % 256) := by
  rw [block]; exact flat4_get _ _ _ _ h hk
theorem block_byt (key : List Nat) (ctr : Nat) (nonce : List Nat) : Byt (block key ctr nonce) := flat4_byt _
theorem blockW_get (key : List Nat) (ctr : Nat) (nonce : List Nat) {i : Nat} (hi : i < 16) : (blockW key ctr nonce)[i]? = some (m32 ((itr (fun _ x => itr quart 8 x) 10 (startW key ctr nonce)).getD i 0 + (startW key ctr nonce).getD i 0)) := by
  unfold blockW
  simp only
  rw [List.getElem?_zipWith, List.getD_eq_getElem?_getD, List.getD_eq_getElem?_getD,
    List.getElem?_eq_getElem (by rw [rnds_len, startW_len]; exact hi), List.getElem?_eq_getElem (by rw [startW_len]; exact hi)]
  rfl
theorem rnds_succ (m n : Nat) (x : List Nat) : itr (fun _ x => itr quart m x) (n + 1) x = itr quart m (itr (fun _ x => itr quart m x) n x) := rfl
/-- The cells of the table of a round's quarters. -/
def roundCells : List Value := roundP.flatten.map fun (n : Nat) => Value.int .i64 (n : Int)
theorem blockW_get' {key nonce X : List Nat} {ctr i n a b v : Nat} (hi : i < 16) (hn : n = 10) {ST : List Nat} (hS : ST = startW key ctr nonce) (hX : X = itr (fun _ x => itr quart 8 x) n ST) (ha : a = X.getD i 0) (hb : b = ST.getD i 0) (hv : v = m32 (a + b)) : (blockW key ctr nonce)[i]? = some v := by
  have e := blockW_get key ctr nonce hi
  rw [← hS] at e
  rw [← hn, ← hX, ← ha, ← hb, ← hv] at e
  exact e
/-- The closed facts on types. -/
theorem at_round {k : Nat} (hk : k < 8) (w : World) : (Instr.index 55 (.agg roundCells.toArray) (.int .i64 (k : Int))).run Tryd.prog w =
    .ok (.agg #[.int .i64 (place k 0 : Int), .int .i64 (place k 1 : Int), .int .i64 (place k 2 : Int), .int .i64 (place k 3 : Int)]) w := by
  rcases (by omega : k = 0 ∨ k = 1 ∨ k = 2 ∨ k = 3 ∨ k = 4 ∨ k = 5 ∨ k = 6 ∨ k = 7) with rfl | rfl | rfl | rfl | rfl | rfl | rfl | rfl <;> kernel_rfl
theorem at_head {k : Nat} (hk : k < 4) (w : World) : (Instr.index 51 (.agg (ws headW)) (.int .i64 (k : Int))).run Tryd.prog w = .ok (.int .u32 ((headW.getD k 0 : Nat) : Int)) w := by
  obtain ⟨i, hi⟩ := infoS32
  exact run_index_arr w Tryd.underlying51 (by kernel_rfl) hi (by kernel_rfl) _ k hk _ (ws_get (by rcases (by omega : k = 0 ∨ k = 1 ∨ k = 2 ∨ k = 3) with rfl | rfl | rfl | rfl <;> rfl))
theorem at_place {k j : Nat} (hk : k < 8) (hj : j < 4) (w : World) : (Instr.index 54 (.agg #[.int .i64 (place k 0 : Int), .int .i64 (place k 1 : Int), .int .i64 (place k 2 : Int), .int .i64 (place k 3 : Int)]) (.int .i64 (j : Int))).run Tryd.prog w = .ok (.int .i64 ((place k j : Nat) : Int)) w := by
  obtain ⟨i, hi⟩ := infoSi
  exact run_index_arr w Tryd.underlying54 (by kernel_rfl) hi (by kernel_rfl) _ j hj _ (by rcases (by omega : j = 0 ∨ j = 1 ∨ j = 2 ∨ j = 3) with rfl | rfl | rfl | rfl <;> rfl)
theorem ia54 (b j : Nat) (hj : (j : Int) < 4) (w : World) : (Instr.indexAt 54 (.pointer (some ⟨b, 0, none⟩)) (.int .i64 (j : Int))).run Tryd.prog w = .ok (.pointer (some ⟨b, j, none⟩)) w := by go_simp
theorem ia53 (b j : Nat) (hj : (j : Int) < 16) (w : World) : (Instr.indexAt 53 (.pointer (some ⟨b, 0, none⟩)) (.int .i64 (j : Int))).run Tryd.prog w = .ok (.pointer (some ⟨b, j, none⟩)) w := by go_simp
theorem ld3 (b j : Nat) (v : Int) (w : World) (h : w.cell? ⟨b, j, none⟩ = some (.int .i64 v)) : (Instr.loadAt 3 (.pointer (some ⟨b, j, none⟩))).run Tryd.prog w = .ok (.int .i64 v) w := by go_simp
theorem ld39 (b j : Nat) (v : Int) (w : World) (h : w.cell? ⟨b, j, none⟩ = some (.int .u32 v)) : (Instr.loadAt 39 (.pointer (some ⟨b, j, none⟩))).run Tryd.prog w = .ok (.int .u32 v) w := by go_simp
theorem bd51 (a b c d : Int) (w : World) : (Instr.build 51 #[(0, .int .u32 a), (1, .int .u32 b), (2, .int .u32 c), (3, .int .u32 d)]).run Tryd.prog w = .ok (.agg #[.int .u32 a, .int .u32 b, .int .u32 c, .int .u32 d]) w := by go_simp
theorem info16w : InfoArr 53 16 := by unfold InfoArr; kernel_rfl
theorem info64 : InfoArr 43 64 := by unfold InfoArr; kernel_rfl
end Go.Proofs.YtebmbapaedlmiaaDoor
