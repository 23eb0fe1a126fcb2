/-
  What a window knows of the numbers: those that were marked, as far as they are in sight.
-/
import Derived.Test.YtiijnhgafadokaaPop
import Derived.Test.YtiijnhgafadokaaWinOnce
namespace Go.Proofs.Ytiijnhgafadokaa
open Go.RowKit Wins
set_option linter.unusedVariables false
set_option maxRecDepth 20000

/-- The numbers marked are those of s. -/
structure Sees (W : Win) (s : Int → Bool) : Prop where
  bit : ∀ x : Int, (W.next : Int) - 1024 ≤ x → x < W.next → W.m (x % 1024).toNat = s x
  top : ∀ x : Int, (W.next : Int) ≤ x → s x = false
  low : ∀ x : Int, x < 0 → s x = false
theorem sees_new : Sees Wins.new (fun _ => false) := ⟨fun x _ _ => rfl, fun _ _ => rfl, fun _ _ => rfl⟩
theorem Sees.has {W : Win} {s : Int → Bool} (h : Sees W s) {n : Nat} (hn : (W.next : Int) - 1024 ≤ n) : hasB W n = s n := by
  unfold hasB
  by_cases hlt : n < W.next
  · rw [decide_eq_true hlt, Bool.true_and, ← h.bit n hn (by omega)]
    congr 1
  · rw [decide_eq_false hlt, Bool.false_and, h.top n (by omega)]
theorem Sees.chk {W : Win} {s : Int → Bool} (h : Sees W s) {n : Int} (h0 : 0 ≤ n) (h1 : n ≤ 281474976710655) (h2 : (W.next : Int) - 1024 ≤ n) : chk W n = if s n then 140 else 0 := by
  obtain ⟨k, rfl⟩ : ∃ k : Nat, n = (k : Int) := ⟨n.toNat, by omega⟩
  rw [Wins.chk, if_neg (by omega), Int.toNat_natCast, h.has h2]
  cases s (k : Int) with
  | true => rw [if_pos (.inr rfl)]; rfl
  | false => rw [if_neg (by simp; omega)]; rfl
theorem Sees.put {W : Win} {s : Int → Bool} (h : Sees W s) {n : Int} (hc : Wins.chk W n = 0) : Sees (marks W n) (fun x => decide (x = n) || s x) ∧ (marks W n).next = max W.next (n.toNat + 1) := by
  obtain ⟨h0, h1, h2, h3⟩ := chk_zero hc
  rw [marks, if_pos hc]
  refine ⟨⟨fun x hx1 hx2 => ?_, fun x hx => ?_, fun x hx => ?_⟩, rfl⟩
  · have hnext : (Wins.put W n.toNat).next = max W.next (n.toNat + 1) := rfl
    rw [hnext] at hx1 hx2
    by_cases hxn : x = n
    · subst hxn
      have : (Wins.put W x.toNat).m (x % 1024).toNat = true := by
        unfold Wins.put; simp only; rw [if_pos (by omega)]
      rw [this]; simp
    · have hne : ¬ (x % 1024).toNat = n.toNat % 1024 := by omega
      have e : (Wins.put W n.toNat).m (x % 1024).toNat = clearTo W n.toNat (sight W n.toNat) (x % 1024).toNat := by
        unfold Wins.put; simp only; rw [if_neg hne]
      rw [e, decide_eq_false hxn, Bool.false_or, clearTo]
      by_cases hxt : x < W.next
      · rw [if_neg, h.bit x (by omega) hxt]
        rintro ⟨j, hj, he⟩
        unfold sight at hj
        omega
      · rw [if_pos, h.top x (by omega)]
        refine ⟨n.toNat - x.toNat, ?_, ?_⟩
        · unfold sight; omega
        · omega
  · have hnext : (Wins.put W n.toNat).next = max W.next (n.toNat + 1) := rfl
    rw [hnext] at hx
    have : ¬ x = n := by omega
    rw [decide_eq_false this, Bool.false_or, h.top x (by omega)]
  · have : ¬ x = n := by omega
    rw [decide_eq_false this, Bool.false_or, h.low x hx]
theorem Sees.count {W : Win} {s : Int → Bool} (h : Sees W s) : cnt W.m 16 = (pop (fun k => s ((W.next : Int) - 1024 + k)) 1024 : Int) := by
  have e : pop (fun k => W.m ((W.next + k) % 1024)) 1024 = pop (fun k => s ((W.next : Int) - 1024 + k)) 1024 := pop_congr fun k hk => by
    have e1 := h.bit ((W.next : Int) - 1024 + k) (by omega) (by omega)
    have e2 : (((W.next : Int) - 1024 + k) % 1024).toNat = (W.next + k) % 1024 := by omega
    rw [e2] at e1
    exact e1
  rw [cnt_turn W.m W.next, e]
theorem pop_from (c : Nat) : ∀ k, pop (fun j => decide (c ≤ j)) k = k - c
  | 0 => by simp [pop]
  | k + 1 => by
    rw [pop, pop_from c k]
    by_cases h : c ≤ k
    · rw [if_pos (by simpa using h)]; omega
    · rw [if_neg (by simpa using h)]; omega

/-! A row of numbers. -/
def row (a k : Nat) (x : Int) : Bool := decide ((a : Int) ≤ x ∧ x < (a : Int) + k)
/-- The window behind the first k marks. -/
structure RowWin (W : Win) (a k : Nat) : Prop where
  sees : Sees W (row a k)
  next : W.next = if k = 0 then 0 else a + k
theorem rowWin_new (a : Nat) : RowWin Wins.new a 0 := by
  refine ⟨?_, rfl⟩
  have e : row a 0 = fun _ => false := by
    funext x; unfold row; exact decide_eq_false (by omega)
  rw [e]; exact sees_new
theorem RowWin.chk {W : Win} {a k : Nat} (h : RowWin W a k) (hk : a + k ≤ 281474976710655) : Wins.chk W ((a : Int) + k) = 0 := by
  have := h.next
  rw [h.sees.chk (by omega) (by omega) (by split at this <;> omega), if_neg]
  unfold row
  simp
theorem RowWin.step {W : Win} {a k : Nat} (h : RowWin W a k) (hk : a + k ≤ 281474976710655) : RowWin (marks W ((a : Int) + k)) a (k + 1) := by
  obtain ⟨h1, h2⟩ := h.sees.put (h.chk hk)
  have := h.next
  refine ⟨?_, ?_⟩
  · have e : row a (k + 1) = fun x => decide (x = (a : Int) + k) || row a k x := by
      funext x
      unfold row
      rw [← Bool.decide_or]
      exact decide_eq_decide.2 (by omega)
    rw [e]; exact h1
  · rw [h2, if_neg (by omega)]
    split at this <;> omega
theorem RowWin.count {W : Win} {a k : Nat} (h : RowWin W a k) (hk : 0 < k) : cnt W.m 16 = (min k 1024 : Nat) := by
  rw [h.sees.count]
  have hn : W.next = a + k := by rw [h.next, if_neg (by omega)]
  have e : pop (fun j => row a k ((W.next : Int) - 1024 + j)) 1024 = pop (fun j => decide (1024 - k ≤ j)) 1024 := pop_congr fun j hj => by
    unfold row
    rw [hn]
    exact decide_eq_decide.2 (by omega)
  have e2 : 1024 - (1024 - k) = min k 1024 := by omega
  rw [e, pop_from, e2]
theorem bel_row (W : Win) (lo c : Nat) (e : Int) (d : Nat) (hB : ∀ j, j < d → hasB W (lo + j) = decide (c ≤ lo + j)) :
    bel W 3 lo d [(((max c (lo + d) : Nat) : Int), e)] = [(((max c lo : Nat) : Int), e)] := by
  induction d with
  | zero => rfl
  | succ d ih =>
    have hb := hB d (by omega)
    have ih' := ih fun j hj => hB j (by omega)
    rw [bel]
    by_cases h : c ≤ lo + d
    · rw [decide_eq_true h] at hb
      rw [if_neg (by rw [hb]; decide)]
      simp only [List.getLast?_singleton, List.length_singleton]
      rw [if_pos (by omega)]
      have e1 : max c (lo + d) = lo + d := by omega
      rw [e1] at ih'
      exact ih'
    · rw [decide_eq_false h] at hb
      rw [if_pos hb]
      have e1 : max c (lo + (d + 1)) = max c (lo + d) := by omega
      rw [e1]; exact ih'
theorem RowWin.told {W : Win} {a k : Nat} (h : RowWin W a k) (hk : 2 ≤ k) : below W 3 = [((a : Int) + k - (min k 1024 : Nat), (a : Int) + k - 1)] := by
  have hn : W.next = a + k := by rw [h.next, if_neg (by omega)]
  have hlo : lowest W = a + k - 1024 := by unfold lowest; omega
  obtain ⟨d, hd⟩ : ∃ d, W.next - 1 - lowest W = d + 1 := ⟨W.next - 2 - lowest W, by omega⟩
  have hB : ∀ j, j < d + 1 → hasB W (lowest W + j) = decide (a ≤ lowest W + j) := by
    intro j hj
    rw [h.sees.has (by omega), row]
    exact decide_eq_decide.2 (by omega)
  have hb := hB d (by omega)
  rw [decide_eq_true (by omega)] at hb
  have e1 := bel_row W (lowest W) a (((lowest W + d : Nat) : Int) + 1) d fun j hj => hB j (by omega)
  rw [below, hd, bel, if_neg (by rw [hb]; decide)]
  simp only [List.getLast?_nil, List.length_nil, List.nil_append]
  rw [if_neg (by simp)]
  have e2 : max a (lowest W + d) = lowest W + d := by omega
  rw [e2] at e1
  rw [e1]
  simp only [List.reverse_singleton]
  congr 2 <;> omega
end Go.Proofs.Ytiijnhgafadokaa
