/-
  The document's numbers: digits of 26 bits (plain facts, and the walk of digits).
  The document's numbers: digits (the walk).
  The document's numbers: reduce (plain facts).
  The document's numbers: reduce (plain facts: what is carried, the last step, the bits).
-/
import Derived.Test.YtebmbapaedlmiaaDoorSAdE

namespace Go.Proofs.YtebmbapaedlmiaaDoor
open Go.RowKit Ae
set_option linter.unusedVariables false

theorem il_len (l : List Nat) : (il l).length = l.length := by simp [il]
def ia (l : List Nat) : Array Value := (il l).toArray
theorem ia_get {l : List Nat} {i b : Nat} (h : l[i]? = some b) : (ia l)[i]? = some (.int .i64 (b : Int)) := by simp [ia, il, h]
theorem ia_set (l : List Nat) (i b : Nat) : (ia l).setIfInBounds i (.int .i64 (b : Int)) = ia (l.set i b) := by simp [ia, il, List.map_set]
theorem ia_size (l : List Nat) : (ia l).size = l.length := by simp [ia, il]
theorem val_get {a : List Nat} (h : Byt a) {j : Nat} (hj : j < a.length) : a.getD j 0 = val a / 256 ^ j % 256 := by
  have e := bytesOf_get a.length (val a) j hj
  rw [bytesOf_val h] at e
  rw [List.getD_eq_getElem?_getD, e]
  rfl
theorem bit_at {a : List Nat} (h : Byt a) {k : Nat} (hk : k / 8 < a.length) : a.getD (k / 8) 0 / 2 ^ (k % 8) % 2 = val a / 2 ^ k % 2 := by
  rw [val_get h hk]
  have e : val a / 2 ^ k = val a / 256 ^ (k / 8) / 2 ^ (k % 8) := by
    rw [Nat.div_div_eq_div_mul, show (256 : Nat) ^ (k / 8) * 2 ^ (k % 8) = 2 ^ k by
      rw [show (256 : Nat) = 2 ^ 8 from rfl, ← Nat.pow_mul, ← Nat.pow_add]; congr 1; omega]
  rw [e]
  generalize val a / 256 ^ (k / 8) = z
  have hs : k % 8 < 8 := Nat.mod_lt _ (by decide)
  generalize k % 8 = s at hs
  rcases (by omega : s = 0 ∨ s = 1 ∨ s = 2 ∨ s = 3 ∨ s = 4 ∨ s = 5 ∨ s = 6 ∨ s = 7) with rfl | rfl | rfl | rfl | rfl | rfl | rfl | rfl <;> simp only [Nat.reducePow] <;> omega
/-- The digits of what stands in the lowest k bits. -/
def dig (x k i : Nat) : Nat := x % 2 ^ k / 2 ^ (26 * i) % 2 ^ 26
def digs (x k : Nat) : List Nat := (List.range 6).map (dig x k)
theorem digs_len (x k : Nat) : (digs x k).length = 6 := by simp [digs]
theorem digs_get (x k : Nat) {i : Nat} (hi : i < 6) : (digs x k)[i]? = some (dig x k i) := by simp [digs, hi]
theorem dig_lt (x k i : Nat) : dig x k i < 67108864 := Nat.mod_lt _ (by decide)
theorem dig_at (x k : Nat) : dig x (k + 1) (k / 26) = dig x k (k / 26) + x / 2 ^ k % 2 * 2 ^ (k % 26) := by
  obtain ⟨i, hi⟩ : ∃ i, i = k / 26 := ⟨_, rfl⟩
  obtain ⟨r, hr⟩ : ∃ r, r = k % 26 := ⟨_, rfl⟩
  obtain ⟨b, hb⟩ : ∃ b, b = x / 2 ^ k % 2 := ⟨_, rfl⟩
  have hb2 : b < 2 := by rw [hb]; exact Nat.mod_lt _ (by decide)
  have hk : k = 26 * i + r := by omega
  have hr26 : r < 26 := by omega
  rw [← hi, ← hr, ← hb]
  unfold dig
  rw [show x % 2 ^ (k + 1) = x % 2 ^ k + 2 ^ k * (x / 2 ^ k % 2) from Nat.mod_pow_succ, ← hb]
  have hy : x % 2 ^ k < 2 ^ k := Nat.mod_lt _ (Nat.two_pow_pos _)
  generalize x % 2 ^ k = y at hy
  rw [hk, Nat.pow_add] at hy ⊢
  rw [Nat.mul_assoc, Nat.add_mul_div_left _ _ (Nat.two_pow_pos _)]
  have h1 : y / 2 ^ (26 * i) < 2 ^ r := Nat.div_lt_of_lt_mul hy
  generalize y / 2 ^ (26 * i) = z at h1
  have h2 : 2 ^ r * b ≤ 2 ^ r := by
    rcases (by omega : b = 0 ∨ b = 1) with rfl | rfl <;> simp
  have h3 : 2 ^ r * 2 ≤ 2 ^ 26 := by
    rw [← Nat.pow_succ]; exact Nat.pow_le_pow_right (by decide) (by omega)
  rw [Nat.mod_eq_of_lt (by omega), Nat.mod_eq_of_lt (by omega), Nat.mul_comm b]
theorem dig_below (x k i : Nat) (h : i < k / 26) : dig x (k + 1) i = dig x k i := by
  unfold dig
  rw [show x % 2 ^ (k + 1) = x % 2 ^ k + 2 ^ k * (x / 2 ^ k % 2) from Nat.mod_pow_succ]
  obtain ⟨e, he⟩ : ∃ e, k = 26 * i + (26 + e) := ⟨k - (26 * i + 26), by omega⟩
  generalize x % 2 ^ k = y
  generalize x / 2 ^ k % 2 = b
  rw [he, Nat.pow_add, Nat.mul_assoc, Nat.add_mul_div_left _ _ (Nat.two_pow_pos _), Nat.pow_add, Nat.mul_assoc, Nat.add_mul_mod_self_left]
theorem dig_above (x k i : Nat) (h : k / 26 < i) : dig x (k + 1) i = dig x k i := by
  unfold dig
  have h1 : x % 2 ^ (k + 1) < 2 ^ (26 * i) := Nat.lt_of_lt_of_le (Nat.mod_lt _ (Nat.two_pow_pos _)) (Nat.pow_le_pow_right (by decide) (by omega))
  have h2 : x % 2 ^ k < 2 ^ (26 * i) := Nat.lt_of_lt_of_le (Nat.mod_lt _ (Nat.two_pow_pos _)) (Nat.pow_le_pow_right (by decide) (by omega))
  rw [Nat.div_eq_of_lt h1, Nat.div_eq_of_lt h2]
theorem digs_step (x k : Nat) (hk : k < 136) : (digs x k).set (k / 26) (dig x k (k / 26) + x / 2 ^ k % 2 * 2 ^ (k % 26)) = digs x (k + 1) := by
  apply List.ext_getElem?
  intro i
  by_cases hi : i < 6
  · rw [digs_get x (k + 1) hi, List.getElem?_set]
    by_cases h : k / 26 = i
    · rw [if_pos h, if_pos (by rw [digs_len]; omega)]
      subst h
      rw [dig_at]
    · rw [if_neg h, digs_get x k hi]
      rcases (by omega : i < k / 26 ∨ k / 26 < i) with h1 | h1
      · rw [dig_below x k i h1]
      · rw [dig_above x k i h1]
  · rw [List.getElem?_eq_none (by rw [List.length_set, digs_len]; omega), List.getElem?_eq_none (by rw [digs_len]; omega)]
theorem digs_zero (x : Nat) : digs x 0 = List.replicate 6 0 := by simp [digs, dig, Nat.mod_one, List.range_succ]
/-- What digits of 26 bits tell. -/
def dval : List Nat → Nat
  | [] => 0
  | d :: l => d + 67108864 * dval l
theorem digs_val (x : Nat) (h : x < 2 ^ 136) : dval (digs x 136) = x := by
  have e : digs x 136 = [x % 67108864, x / 67108864 % 67108864, x / 4503599627370496 % 67108864, x / 302231454903657293676544 % 67108864, x / 20282409603651670423947251286016 % 67108864, x / 1361129467683753853853498429727072845824 % 67108864] := by
    simp only [digs, dig, Nat.mod_eq_of_lt h, List.range_succ, List.range_zero, List.nil_append, List.map_cons, List.map_nil, List.cons_append, Nat.reduceMul, Nat.reducePow, Nat.div_one]
  rw [e]
  simp only [dval]
  simp only [Nat.reducePow] at h
  omega
end Go.Proofs.YtebmbapaedlmiaaDoor

namespace Go.Proofs.YtebmbapaedlmiaaDoor
open Go.RowKit Ae
set_option linter.unusedVariables false

theorem infoI8 : (Tryd.prog.info? 3).map (fun i => (i.zero, i.size, i.bytes)) = some (some (.int .i64 0), 1, 8) := by kernel_rfl
theorem made_ia (n : Nat) : madeCells #[.int .i64 0] n = ia (List.replicate n 0) := by
  apply Array.ext'
  rw [toList_madeCells_one]
  simp [ia, il]
theorem make_i (n : Nat) (hn : n ≤ 1000) (w : World) :
    (Instr.makeSlice 46 (.int .i64 (n : Int)) (.int .i64 (n : Int))).run Tryd.prog w = .ok (.slice (some ⟨w.heap.size, 0, none⟩) n n) (w.alloc (.cells (ia (List.replicate n 0)) 3)) := by
  rw [run_make_row' 46 3 (.int .i64 0) 8 Tryd.underlying46 infoI8 rfl .i64 .i64 n (by omega) (by omega) w, made_ia]
theorem and1 (x : Nat) (hx : x < 256) : bits .and .u8 (x : Int) 1 = ((x % 2 : Nat) : Int) := by
  have e : (1 : Int) = ((1 : Nat) : Int) := rfl
  rw [e, u8_and_nat x 1 hx (by decide), Nat.and_one_is_mod]
/-- A row of numbers made after the world w. -/
def GivesI (w : World) (l : List Nat) : Ending → World → Prop := fun e w' => ∃ g, w.heap.size ≤ g ∧ e = .returned (.slice (some ⟨g, 0, none⟩) l.length l.length) ∧ w'.heap[g]? = some (.cells (ia l) 3 (0, 0)) ∧ Chg Nowhere w w'
set_option maxHeartbeats 4000000 in
set_option maxRecDepth 100000 in
theorem digits_any (a : List Nat) (ha : a.length = 17) (hab : Byt a) (w : World) :
    Calls Tryd.prog 49 #[.agg (bs a)] w (GivesI w (digs (val a) 136)) := by
  obtain ⟨X, hX⟩ : ∃ X, X = val a := ⟨_, rfl⟩
  have HBIT := Lib.hid (show ∀ k, k < 136 → a.getD (k / 8) 0 / 2 ^ (k % 8) % 2 = X / 2 ^ k % 2 from fun k hk => by rw [hX]; exact bit_at hab (by omega))
  rw [← hX]
  have HA := Lib.hid ha
  have HAB := Lib.hid hab
  clear hX ha hab
  have hmk : ∀ w, (Instr.makeSlice 46 (.int .i64 6) (.int .i64 6)).run Tryd.prog w = .ok (.slice (some ⟨w.heap.size, 0, none⟩) 6 6) (w.alloc (.cells (ia (List.replicate 6 0)) 3)) := make_i 6 (by decide)
  have HC0 := Lib.hid (((Chg.refl Nowhere w).alloc (.cells (bs a) 58)).alloc (.cells (ia (List.replicate 6 0)) 3))
  have HA0 := Lib.hid (alloc_old (o := .cells (ia (List.replicate 6 0)) 3) (alloc_new w (.cells (bs a) 58)))
  have HT0 := Lib.hid (show ((w.alloc (.cells (bs a) 58)).alloc (.cells (ia (List.replicate 6 0)) 3)).heap[w.heap.size + 1]? = some (.cells (ia (digs X 0)) 3 (0, 0)) by rw [digs_zero]; exact new_1 _ _ _)
  go_enter Tryd.func49, Tryd.ntmps49
  go_wp2_with fail
  go_loopw [4] (fun i wr => ∃ k : Nat, k ≤ 136 ∧ i = .int .i64 k ∧ wr.heap[w.heap.size]? = some (.cells (bs a) 58 (0, 0)) ∧ wr.heap[w.heap.size + 1]? = some (.cells (ia (digs X k)) 3 (0, 0)) ∧ Chg Nowhere w wr) (fun i _ => 136 - (intOf i).toNat)
  case atStart => exact ⟨0, by omega, rfl, HA0.out, HT0.out, HC0.out⟩
  case round =>
    obtain ⟨k, hk, rfl, hA, hT, hC⟩ := hrel
    clear HA0 HT0 HC0
    have HAr := Lib.hid hA
    have HT := Lib.hid hT
    have HC := Lib.hid hC
    clear hA hT hC
    by_cases hk2 : k < 136
    · obtain ⟨p, hp⟩ : ∃ p, p = k / 26 := ⟨_, rfl⟩
      obtain ⟨r, hr⟩ : ∃ r, r = k % 26 := ⟨_, rfl⟩
      obtain ⟨j, hj⟩ : ∃ j, j = k / 8 := ⟨_, rfl⟩
      obtain ⟨s, hs⟩ : ∃ s, s = k % 8 := ⟨_, rfl⟩
      have hp6 : p < 6 := by omega
      have hr26 : r < 26 := by omega
      have hj17 : j < 17 := by omega
      have hs8 : s < 8 := by omega
      have i1 : (k : Int) / 26 = (p : Int) := by omega
      have i2 : (k : Int) % 26 = (r : Int) := by omega
      have i3 : (k : Int) / 8 = (j : Int) := by omega
      have i4 : (k : Int) % 8 = (s : Int) := by omega
      obtain ⟨d, hd⟩ : ∃ d, d = dig X k p := ⟨_, rfl⟩
      have hdl : d < 67108864 := by rw [hd]; exact dig_lt _ _ _
      obtain ⟨b, hb⟩ : ∃ b, b = a.getD j 0 := ⟨_, rfl⟩
      have hb8 : b < 256 := by rw [hb]; exact HAB.out.at _
      have ct : wr.cell? ⟨w.heap.size + 1, p, none⟩ = some (.int .i64 (d : Int)) := (cell_blk HT.out (o := p)).trans (ia_get (by rw [hd]; exact digs_get _ _ hp6))
      have ca : wr.cell? ⟨w.heap.size, j, none⟩ = some (.int .u8 (b : Int)) := (cell_blk HAr.out (o := j)).trans (bs_get (by rw [hb]; exact some_getD (by rw [HA.out]; exact hj17)))
      have fo : wr.frozen? ⟨w.heap.size + 1, p, none⟩ = false := frozen_blk HT.out
      obtain ⟨c, hc⟩ : ∃ c, c = b / 2 ^ s := ⟨_, rfl⟩
      have hc8 : c < 256 := by rw [hc]; exact Nat.lt_of_le_of_lt (Nat.div_le_self _ _) hb8
      have e1 : (b : Int) / 2 ^ s = (c : Int) := by rw [hc]; simp
      obtain ⟨t, ht⟩ : ∃ t, t = c % 2 := ⟨_, rfl⟩
      have ht2 : t < 2 := by omega
      have e2 : bits .and .u8 (c : Int) 1 = (t : Int) := by rw [ht]; exact and1 c hc8
      obtain ⟨u, hu⟩ : ∃ u, u = t * 2 ^ r := ⟨_, rfl⟩
      have hul : u ≤ 33554432 := by
        rw [hu]
        have : 2 ^ r ≤ 2 ^ 25 := Nat.pow_le_pow_right (by decide) (by omega)
        rcases (by omega : t = 0 ∨ t = 1) with rfl | rfl <;> omega
      have e3 : (t : Int) * 2 ^ r = (u : Int) := by rw [hu]; simp
      have HSET := Lib.hid (show (digs X k).set p (d + u) = digs X (k + 1) by
        rw [← digs_step X k hk2, ← HBIT.out k hk2, hp, hd, hu, ht, hc, hb, hp, hr, hj, hs])
      have e4 : (d : Int) + (u : Int) = ((d + u : Nat) : Int) := by omega
      obtain ⟨z, hz⟩ : ∃ z, z = d + u := ⟨_, rfl⟩
      rw [← hz] at HSET e4
      have hzl : z < 1000000000 := by omega
      clear hp hr hj hs hd hb hc ht hu hz
      go_wp2_with fail
      go_region
      go_wp2_with fail
      go_roundw
      case rel => exact ⟨k + 1, by omega, by go_num, (set_other _ (by simp)).trans HAr.out, (set_blk _ HT.out).trans (by rw [ia_set, HSET.out]), (HC.out.put (.inr (by omega))).drew⟩
      case measure => simp [intOf]; omega
    · obtain rfl : k = 136 := by omega
      go_wp2_with fail
      go_ret
      exact ⟨w.heap.size + 1, by omega, by rw [digs_len]; rfl, HT.out, HC.out⟩
end Go.Proofs.YtebmbapaedlmiaaDoor

namespace Go.Proofs.YtebmbapaedlmiaaDoor
open Go.RowKit Ae
set_option linter.unusedVariables false

/-- Digits of w bits of what stands in the lowest k bits. -/
def dgw (w x k i : Nat) : Nat := x % 2 ^ k / 2 ^ (w * i) % 2 ^ w
theorem dgw_at (w x k : Nat) (hw : 0 < w) : dgw w x (k + 1) (k / w) = dgw w x k (k / w) + x / 2 ^ k % 2 * 2 ^ (k % w) ∧ dgw w x k (k / w) < 2 ^ (k % w) := by
  obtain ⟨i, hi⟩ : ∃ i, i = k / w := ⟨_, rfl⟩
  obtain ⟨r, hr⟩ : ∃ r, r = k % w := ⟨_, rfl⟩
  obtain ⟨b, hb⟩ : ∃ b, b = x / 2 ^ k % 2 := ⟨_, rfl⟩
  have hb2 : b < 2 := by rw [hb]; exact Nat.mod_lt _ (by decide)
  have hk : k = w * i + r := by rw [hi, hr]; exact (Nat.div_add_mod k w).symm
  have hrw : r < w := by rw [hr]; exact Nat.mod_lt _ hw
  rw [← hi, ← hr, ← hb]
  unfold dgw
  rw [show x % 2 ^ (k + 1) = x % 2 ^ k + 2 ^ k * (x / 2 ^ k % 2) from Nat.mod_pow_succ, ← hb]
  have hy : x % 2 ^ k < 2 ^ k := Nat.mod_lt _ (Nat.two_pow_pos _)
  generalize x % 2 ^ k = y at hy
  rw [hk, Nat.pow_add] at hy ⊢
  rw [Nat.mul_assoc, Nat.add_mul_div_left _ _ (Nat.two_pow_pos _)]
  have h1 : y / 2 ^ (w * i) < 2 ^ r := Nat.div_lt_of_lt_mul hy
  generalize y / 2 ^ (w * i) = z at h1
  have h2 : 2 ^ r * b ≤ 2 ^ r := by
    rcases (by omega : b = 0 ∨ b = 1) with rfl | rfl <;> simp
  have h3 : 2 ^ r * 2 ≤ 2 ^ w := by
    rw [← Nat.pow_succ]; exact Nat.pow_le_pow_right (by decide) (by omega)
  rw [Nat.mod_eq_of_lt (by omega), Nat.mod_eq_of_lt (by omega), Nat.mul_comm b]
  exact ⟨rfl, h1⟩
theorem dgw_below (w x k i : Nat) (h : w * i + w ≤ k) : dgw w x (k + 1) i = dgw w x k i := by
  unfold dgw
  rw [show x % 2 ^ (k + 1) = x % 2 ^ k + 2 ^ k * (x / 2 ^ k % 2) from Nat.mod_pow_succ]
  obtain ⟨e, he⟩ : ∃ e, k = w * i + (w + e) := ⟨k - (w * i + w), by omega⟩
  generalize x % 2 ^ k = y
  generalize x / 2 ^ k % 2 = b
  rw [he, Nat.pow_add, Nat.mul_assoc, Nat.add_mul_div_left _ _ (Nat.two_pow_pos _), Nat.pow_add, Nat.mul_assoc, Nat.add_mul_mod_self_left]
theorem dgw_above (w x k i : Nat) (h : k + 1 ≤ w * i) : dgw w x (k + 1) i = dgw w x k i := by
  unfold dgw
  have h1 : x % 2 ^ (k + 1) < 2 ^ (w * i) := Nat.lt_of_lt_of_le (Nat.mod_lt _ (Nat.two_pow_pos _)) (Nat.pow_le_pow_right (by decide) h)
  have h2 : x % 2 ^ k < 2 ^ (w * i) := Nat.lt_of_lt_of_le (Nat.mod_lt _ (Nat.two_pow_pos _)) (Nat.pow_le_pow_right (by decide) (by omega))
  rw [Nat.div_eq_of_lt h1, Nat.div_eq_of_lt h2]
theorem bytes_dgw (x k j : Nat) (hj : j < 17) : (bytesOf 17 (x % 2 ^ k))[j]? = some (dgw 8 x k j) := by
  rw [bytesOf_get 17 _ j hj]
  unfold dgw
  rw [show (256 : Nat) ^ j = 2 ^ (8 * j) by rw [Nat.pow_mul]]
/-- One bit more. -/
theorem bytes_bit (x k : Nat) (hk : k < 136) : (bytesOf 17 (x % 2 ^ k)).set (k / 8) (dgw 8 x k (k / 8) ||| x / 2 ^ k % 2 * 2 ^ (k % 8)) = bytesOf 17 (x % 2 ^ (k + 1)) := by
  obtain ⟨h1, h2⟩ := dgw_at 8 x k (by decide)
  rw [Nat.or_comm, nat_join (k % 8) _ _ (Nat.mul_mod_left _ _) h2, Nat.add_comm, ← h1]
  apply List.ext_getElem?
  intro j
  by_cases hj : j < 17
  · rw [bytes_dgw x (k + 1) j hj, List.getElem?_set]
    by_cases h : k / 8 = j
    · rw [if_pos h, if_pos (by rw [bytesOf_len]; omega), h]
    · rw [if_neg h, bytes_dgw x k j hj]
      rcases (by omega : j < k / 8 ∨ k / 8 < j) with h1 | h1
      · rw [dgw_below 8 x k j (by omega)]
      · rw [dgw_above 8 x k j (by omega)]
  · rw [List.getElem?_eq_none (by rw [List.length_set, bytesOf_len]; omega), List.getElem?_eq_none (by rw [bytesOf_len]; omega)]
theorem bytes_full {x k : Nat} (h : x < 2 ^ k) : bytesOf 17 (x % 2 ^ k) = bytesOf 17 x := by rw [Nat.mod_eq_of_lt h]
theorem bytes_none (x : Nat) : bytesOf 17 (x % 2 ^ 0) = List.replicate 17 0 := by rw [Nat.pow_zero, Nat.mod_one]; decide
/-- What stands from the fifth digit on counts five times. -/
def foldK (t : List Nat) (i : Nat) : List Nat := (List.range (max 5 (t.length - 5))).map fun j => (if j < 5 ∧ j < i then t.getD j 0 else 0) + (if j + 5 < i then 5 * t.getD (j + 5) 0 else 0)
theorem foldK_len (t : List Nat) (i : Nat) : (foldK t i).length = max 5 (t.length - 5) := by simp [foldK]
theorem foldK_get (t : List Nat) (i : Nat) {j : Nat} (hj : j < max 5 (t.length - 5)) : (foldK t i)[j]? = some ((if j < 5 ∧ j < i then t.getD j 0 else 0) + (if j + 5 < i then 5 * t.getD (j + 5) 0 else 0)) := by simp [foldK, hj]
theorem foldK_zero (t : List Nat) : foldK t 0 = List.replicate (max 5 (t.length - 5)) 0 := by
  apply List.ext_getElem?
  intro j
  by_cases hj : j < max 5 (t.length - 5)
  · rw [foldK_get t 0 hj, List.getElem?_replicate, if_pos hj, if_neg (by omega), if_neg (by omega)]
  · rw [List.getElem?_eq_none (by rw [foldK_len]; omega), List.getElem?_eq_none (by rw [List.length_replicate]; omega)]
theorem foldK_low (t : List Nat) {i : Nat} (hi : i < 5) : (foldK t i).set i ((foldK t i).getD i 0 + t.getD i 0) = foldK t (i + 1) := by
  apply List.ext_getElem?
  intro j
  by_cases hj : j < max 5 (t.length - 5)
  · rw [foldK_get t (i + 1) hj, List.getElem?_set, List.getD_eq_getElem?_getD, foldK_get t i (j := i) (by omega), Option.getD_some]
    by_cases h : i = j
    · subst h
      rw [if_pos rfl, if_pos (by rw [foldK_len]; exact hj)]
      congr 1
      repeat' split
      all_goals omega
    · rw [if_neg h, foldK_get t i hj]
      congr 1
      repeat' split
      all_goals omega
  · rw [List.getElem?_eq_none (by rw [List.length_set, foldK_len]; omega), List.getElem?_eq_none (by rw [foldK_len]; omega)]
theorem foldK_high (t : List Nat) {i : Nat} (hi : 5 ≤ i) (hi2 : i < t.length) : (foldK t i).set (i - 5) ((foldK t i).getD (i - 5) 0 + 5 * t.getD i 0) = foldK t (i + 1) := by
  apply List.ext_getElem?
  intro j
  by_cases hj : j < max 5 (t.length - 5)
  · rw [foldK_get t (i + 1) hj, List.getElem?_set, List.getD_eq_getElem?_getD, foldK_get t i (j := i - 5) (by omega), Option.getD_some]
    by_cases h : i - 5 = j
    · rw [if_pos h, if_pos (by rw [foldK_len]; omega), h, show i = j + 5 by omega]
      congr 1
      repeat' split
      all_goals omega
    · rw [if_neg h, foldK_get t i hj]
      congr 1
      repeat' split
      all_goals omega
  · rw [List.getElem?_eq_none (by rw [List.length_set, foldK_len]; omega), List.getElem?_eq_none (by rw [foldK_len]; omega)]
def Upto (B : Nat) (l : List Nat) : Prop := ∀ x ∈ l, x ≤ B
theorem Upto.at {B : Nat} {l : List Nat} (h : Upto B l) (i : Nat) : l.getD i 0 ≤ B := by
  rw [List.getD_eq_getElem?_getD]
  cases hi : l[i]? with
  | none => simp
  | some x => exact h x (List.mem_of_getElem? hi)
theorem foldK_upto {B : Nat} {t : List Nat} (h : Upto B t) (i : Nat) : Upto (6 * B) (foldK t i) := fun x hx => by
  obtain ⟨j, _, rfl⟩ := List.mem_map.1 hx
  have h1 := h.at j
  have h2 := h.at (j + 5)
  split <;> split <;> omega
theorem fold6 {t : List Nat} (h : t.length = 6) : dval (foldK t t.length) % q = dval t % q := by
  match t, h with
  | [a, b, c, d, e, f], _ =>
    have e1 : foldK [a, b, c, d, e, f] 6 = [a + 5 * f, b, c, d, e] := by simp [foldK, List.range_succ]
    show dval (foldK [a, b, c, d, e, f] 6) % q = _
    rw [e1]
    have e2 : dval [a, b, c, d, e, f] = dval [a + 5 * f, b, c, d, e] + q * f := by simp only [dval, q]; omega
    rw [e2, Nat.add_mul_mod_self_left]
def addL : List Nat → List Nat → List Nat
  | [], m => m
  | a :: l, [] => a :: l
  | a :: l, b :: m => (a + b) :: addL l m
theorem dval_addL : ∀ (l m : List Nat), dval (addL l m) = dval l + dval m
  | [], m => by simp [addL, dval]
  | a :: l, [] => by simp [addL, dval]
  | a :: l, b :: m => by
    have := dval_addL l m
    simp only [addL, dval]
    omega
theorem dval_five : ∀ (l : List Nat), dval (l.map (5 * ·)) = 5 * dval l
  | [] => rfl
  | a :: l => by
    have := dval_five l
    simp only [List.map_cons, dval]
    omega
theorem dval_top (a b c d e : Nat) (l : List Nat) : dval (a :: b :: c :: d :: e :: l) = dval [a, b, c, d, e] + 1361129467683753853853498429727072845824 * dval l := by
  simp only [dval]
  generalize dval l = D
  omega
theorem fold11 {t : List Nat} (h : t.length = 11) : dval (foldK t t.length) % q = dval t % q := by
  match t, h with
  | [a, b, c, d, e, f, g, h, i, j, k], _ =>
    have e1 : foldK [a, b, c, d, e, f, g, h, i, j, k] 11 = addL [a, b, c, d, e] ([f, g, h, i, j, k].map (5 * ·)) := by simp [foldK, List.range_succ, addL]
    show dval (foldK [a, b, c, d, e, f, g, h, i, j, k] 11) % q = _
    rw [e1, dval_addL, dval_five, dval_top a b c d e [f, g, h, i, j, k]]
    generalize dval [a, b, c, d, e] = L
    generalize dval [f, g, h, i, j, k] = M
    have e2 : L + 1361129467683753853853498429727072845824 * M = L + 5 * M + q * M := by unfold q; omega
    rw [e2, Nat.add_mul_mod_self_left]
end Go.Proofs.YtebmbapaedlmiaaDoor

namespace Go.Proofs.YtebmbapaedlmiaaDoor
open Go.RowKit Ae
set_option linter.unusedVariables false

/-- What is carried, digit by digit. -/
def cst (d : List Nat) : Nat → Nat × List Nat
  | 0 => (0, d)
  | i + 1 => ((((cst d i).1 + (cst d i).2.getD i 0) / 67108864), (cst d i).2.set i (((cst d i).1 + (cst d i).2.getD i 0) % 67108864))
theorem cst_len (d : List Nat) : ∀ i, (cst d i).2.length = d.length
  | 0 => rfl
  | i + 1 => by show (List.set _ _ _).length = _; rw [List.length_set]; exact cst_len d i
theorem cst_rest (d : List Nat) : ∀ i j, i ≤ j → (cst d i).2.getD j 0 = d.getD j 0
  | 0, _, _ => rfl
  | i + 1, j, h => by
    show (List.set _ _ _).getD j 0 = _
    rw [List.getD_eq_getElem?_getD, List.getElem?_set_ne (by omega), ← List.getD_eq_getElem?_getD]
    exact cst_rest d i j (by omega)
theorem cst_bound {d : List Nat} (h : Upto 2305843009213693952 d) : ∀ i, (cst d i).1 ≤ 68719476736
  | 0 => by show 0 ≤ _; omega
  | i + 1 => by
    have ih := cst_bound h i
    have e := cst_rest d i i (Nat.le_refl _)
    have := h.at i
    show ((cst d i).1 + (cst d i).2.getD i 0) / 67108864 ≤ _
    omega
def pass (d : List Nat) : List Nat := (cst d 5).2.set 0 ((cst d 5).2.getD 0 0 + 5 * (cst d 5).1)
theorem pass_len (d : List Nat) : (pass d).length = d.length := by simp [pass, cst_len]
theorem cst_five (a b c d e : Nat) : ∃ s1 s2 s3 s4 : Nat, s1 = a / 67108864 + b ∧ s2 = s1 / 67108864 + c ∧ s3 = s2 / 67108864 + d ∧ s4 = s3 / 67108864 + e ∧
    cst [a, b, c, d, e] 5 = (s4 / 67108864, [a % 67108864, s1 % 67108864, s2 % 67108864, s3 % 67108864, s4 % 67108864]) := by
  refine ⟨_, _, _, _, rfl, rfl, rfl, rfl, ?_⟩
  simp [cst]
theorem pass_val {d : List Nat} (h : d.length = 5) : dval (pass d) + q * (cst d 5).1 = dval d := by
  match d, h with
  | [a, b, c, d, e], _ =>
    obtain ⟨s1, s2, s3, s4, h1, h2, h3, h4, he⟩ := cst_five a b c d e
    unfold pass
    rw [he]
    simp only [List.set_cons_zero, List.getD_cons_zero, dval]
    generalize hr : s4 / 67108864 = r at *
    generalize hA : s3 / 67108864 = A at *
    generalize hB : s2 / 67108864 = B at *
    generalize hC : s1 / 67108864 = C at *
    generalize hD : a / 67108864 = D at *
    have k4 : s4 = 67108864 * r + s4 % 67108864 := by omega
    have k3 : s3 = 67108864 * A + s3 % 67108864 := by omega
    have k2 : s2 = 67108864 * B + s2 % 67108864 := by omega
    have k1 : s1 = 67108864 * C + s1 % 67108864 := by omega
    have k0 : a = 67108864 * D + a % 67108864 := by omega
    generalize s4 % 67108864 = y4 at *
    generalize s3 % 67108864 = y3 at *
    generalize s2 % 67108864 = y2 at *
    generalize s1 % 67108864 = y1 at *
    generalize a % 67108864 = y0 at *
    clear hr hA hB hC hD he
    subst h4 h3 h2 h1
    unfold q
    omega
theorem pass_small {d : List Nat} (h : d.length = 5) (hr : (cst d 5).1 = 0) : ∀ x ∈ pass d, x < 67108864 := by
  match d, h with
  | [a, b, c, d, e], _ =>
    obtain ⟨s1, s2, s3, s4, h1, h2, h3, h4, he⟩ := cst_five a b c d e
    unfold pass
    rw [hr, he]
    simp only [List.set_cons_zero, List.getD_cons_zero, List.mem_cons, List.not_mem_nil, or_false]
    rintro x (rfl | rfl | rfl | rfl | rfl) <;> omega
theorem pass_upto {d : List Nat} (h : d.length = 5) (hu : Upto 2305843009213693952 d) : Upto 2305843009213693952 (pass d) := by
  have hb := cst_bound hu 5
  match d, h with
  | [a, b, c, d, e], _ =>
    obtain ⟨s1, s2, s3, s4, h1, h2, h3, h4, he⟩ := cst_five a b c d e
    unfold pass
    rw [he] at hb ⊢
    simp only [List.set_cons_zero, List.getD_cons_zero] at hb ⊢
    intro x hx
    simp only [List.mem_cons, List.not_mem_nil, or_false] at hx
    rcases hx with rfl | rfl | rfl | rfl | rfl <;> omega
theorem dval_small : ∀ {l : List Nat}, (∀ x ∈ l, x < 67108864) → dval l < 67108864 ^ l.length
  | [], _ => by simp [dval]
  | a :: l, h => by
    have ih := dval_small (l := l) (fun x hx => h x (by simp [hx]))
    have := h a (by simp)
    simp only [dval, List.length_cons, Nat.pow_succ]
    omega
/-- The last step. -/
def lastB (d : List Nat) : Bool := decide (d.getD 4 0 = 67108863 ∧ d.getD 3 0 = 67108863 ∧ d.getD 2 0 = 67108863 ∧ d.getD 1 0 = 67108863 ∧ 67108859 ≤ d.getD 0 0)
def lastD (d : List Nat) : List Nat := if lastB d then [d.getD 0 0 - 67108859, 0, 0, 0, 0] else d
theorem lastD_ok {d : List Nat} (h : d.length = 5) (hs : ∀ x ∈ d, x < 67108864) : (lastD d).length = 5 ∧ (∀ x ∈ lastD d, x < 67108864) ∧ dval (lastD d) = dval d % q := by
  have hv := dval_small hs
  rw [h] at hv
  match d, h with
  | [a, b, c, d, e], _ =>
    have ha := hs a (by simp)
    have hb := hs b (by simp)
    have hc := hs c (by simp)
    have hd := hs d (by simp)
    have he := hs e (by simp)
    unfold lastD
    by_cases hl : lastB [a, b, c, d, e] = true
    · have h2 := of_decide_eq_true hl
      simp only [List.getD_cons_succ, List.getD_cons_zero] at h2
      obtain ⟨rfl, rfl, rfl, rfl, h6⟩ := h2
      rw [if_pos hl]
      refine ⟨rfl, fun x hx => ?_, ?_⟩
      · simp only [List.getD_cons_zero, List.mem_cons, List.not_mem_nil, or_false] at hx
        omega
      · simp only [dval, List.getD_cons_zero]
        have e1 : a + 67108864 * (67108863 + 67108864 * (67108863 + 67108864 * (67108863 + 67108864 * (67108863 + 67108864 * 0)))) = (a - 67108859) + q := by unfold q; omega
        rw [e1, Nat.add_mod_right, Nat.mod_eq_of_lt (by unfold q; omega)]
        omega
    · rw [if_neg hl]
      refine ⟨rfl, hs, ?_⟩
      have h2 : ¬ (e = 67108863 ∧ d = 67108863 ∧ c = 67108863 ∧ b = 67108863 ∧ 67108859 ≤ a) := fun hh => hl (decide_eq_true hh)
      have h3 : dval [a, b, c, d, e] < q := by
        simp only [dval]
        unfold q
        omega
      rw [Nat.mod_eq_of_lt h3]
theorem dval_get : ∀ (l : List Nat) (i : Nat), (∀ x ∈ l, x < 67108864) → i < l.length → l.getD i 0 = dval l / 2 ^ (26 * i) % 2 ^ 26
  | [], _, _, h => by simp at h
  | a :: l, 0, hs, _ => by
    have := hs a (by simp)
    simp only [List.getD_cons_zero, dval, Nat.mul_zero, Nat.pow_zero, Nat.div_one]
    simp only [Nat.reducePow]
    omega
  | a :: l, i + 1, hs, h => by
    have := hs a (by simp)
    rw [List.getD_cons_succ, dval_get l i (fun x hx => hs x (by simp [hx])) (by simpa using h)]
    have e : dval (a :: l) / 2 ^ (26 * (i + 1)) = dval l / 2 ^ (26 * i) := by
      rw [show 26 * (i + 1) = 26 + 26 * i by omega, Nat.pow_add, ← Nat.div_div_eq_div_mul]
      congr 1
      simp only [dval, Nat.reducePow]
      omega
    rw [e]
theorem bit_of (z w s : Nat) (hs : s < w) : z % 2 ^ w / 2 ^ s % 2 = z / 2 ^ s % 2 := by
  have e : (2 : Nat) ^ w = 2 ^ s * 2 ^ (w - s) := by rw [← Nat.pow_add]; congr 1; omega
  rw [e, Nat.mod_mul_right_div_self]
  exact Nat.mod_mod_of_dvd _ (Nat.pow_dvd_pow 2 (show 1 ≤ w - s by omega))
theorem bit_dval {l : List Nat} (hs : ∀ x ∈ l, x < 67108864) {k : Nat} (hk : k / 26 < l.length) : l.getD (k / 26) 0 / 2 ^ (k % 26) % 2 = dval l / 2 ^ k % 2 := by
  rw [dval_get l _ hs hk, bit_of _ 26 _ (Nat.mod_lt _ (by decide)), Nat.div_div_eq_div_mul, ← Nat.pow_add, show 26 * (k / 26) + k % 26 = k by omega]
end Go.Proofs.YtebmbapaedlmiaaDoor
