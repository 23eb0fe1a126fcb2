/-
  Numbers of three words: canon of package clamp. What the package variables hold.
-/
import Derived.Test.YtebmbapaedlmiaaDoorAeE
namespace Go.Proofs.YtebmbapaedlmiaaDoor
open Go.RowKit Ae
set_option linter.unusedVariables false

/-- What the package variables hold. -/
structure Glob (w : World) : Prop where
  size : 3 ≤ w.heap.size
  head : ∀ (j : Nat) v, (ws headW).toList[j]? = some v → w.cell? ⟨0, j, none⟩ = some v
  round : ∀ (j : Nat) v, (roundP.flatten.map fun (n : Nat) => Value.int .i64 (n : Int))[j]? = some v → w.cell? ⟨1, j, none⟩ = some v
  prime : ∀ (j : Nat) v, (ds (words q)).toList[j]? = some v → w.cell? ⟨2, j, none⟩ = some v
theorem Glob.chg {w w' : World} (h : Glob w) (hc : Chg Nowhere w w') : Glob w' :=
  have hs := h.size
  ⟨Nat.le_trans h.size hc.size, fun j v hj => (hc.cell (p := ⟨_, j, none⟩) (Nat.lt_of_lt_of_le (show 0 < 3 by decide) hs) (not_nowhere _)).trans (h.head j v hj),
    fun j v hj => (hc.cell (p := ⟨_, j, none⟩) (Nat.lt_of_lt_of_le (show 1 < 3 by decide) hs) (not_nowhere _)).trans (h.round j v hj),
    fun j v hj => (hc.cell (p := ⟨_, j, none⟩) (Nat.lt_of_lt_of_le (show 2 < 3 by decide) hs) (not_nowhere _)).trans (h.prime j v hj)⟩
theorem Glob.word {w : World} (h : Glob w) {k : Nat} (hk : k < 3) : w.cell? ⟨2, k, none⟩ = some (.int .u64 ((q / 18446744073709551616 ^ k % 18446744073709551616 : Nat) : Int)) :=
  h.prime k _ (by simpa using ds_get (words_get q k hk))

/-- What is borrowed, and what is left, when q is taken from a number, word by word. -/
def bor (X : Nat) : Nat → Nat
  | 0 => 0
  | k + 1 => if X / 18446744073709551616 ^ k % 18446744073709551616 < q / 18446744073709551616 ^ k % 18446744073709551616 + bor X k then 1 else 0
def dif (X k : Nat) : Nat := (X / 18446744073709551616 ^ k % 18446744073709551616 + 18446744073709551616 - q / 18446744073709551616 ^ k % 18446744073709551616 - bor X k) % 18446744073709551616
theorem bor_le (X : Nat) : ∀ k, bor X k ≤ 1
  | 0 => by simp [bor]
  | k + 1 => by unfold bor; split <;> omega
theorem bor_eq (X k : Nat) : X / 18446744073709551616 ^ k % 18446744073709551616 + 18446744073709551616 * bor X (k + 1) = dif X k + q / 18446744073709551616 ^ k % 18446744073709551616 + bor X k := by
  have h := bor_le X k
  have h1 : X / 18446744073709551616 ^ k % 18446744073709551616 < 18446744073709551616 := Nat.mod_lt _ (by decide)
  have h2 : q / 18446744073709551616 ^ k % 18446744073709551616 < 18446744073709551616 := Nat.mod_lt _ (by decide)
  rw [show bor X (k + 1) = if X / 18446744073709551616 ^ k % 18446744073709551616 < q / 18446744073709551616 ^ k % 18446744073709551616 + bor X k then 1 else 0 from rfl]
  unfold dif
  generalize bor X k = B at *
  generalize X / 18446744073709551616 ^ k % 18446744073709551616 = x at *
  generalize q / 18446744073709551616 ^ k % 18446744073709551616 = y at *
  split <;> omega
theorem dif_lt (X k : Nat) : dif X k < 18446744073709551616 := Nat.mod_lt _ (by decide)
/-- What is chosen. -/
def sel (X k : Nat) : Nat := if bor X 3 = 1 then X / 18446744073709551616 ^ k % 18446744073709551616 else dif X k
theorem sel_eq {X : Nat} (h : X < 1361129467683753853853498429727072845824) : words (X % q) = [sel X 0, sel X 1, sel X 2] := by
  have e0 := bor_eq X 0
  have e1 := bor_eq X 1
  have e2 := bor_eq X 2
  have d0 := dif_lt X 0
  have d1 := dif_lt X 1
  have d2 := dif_lt X 2
  have b0 : bor X 0 = 0 := rfl
  have b1 := bor_le X 1
  have b2 := bor_le X 2
  have b3 := bor_le X 3
  rw [b0] at e0
  have q0 : q / 18446744073709551616 ^ 0 % 18446744073709551616 = 18446744073709551611 := by decide +kernel
  have q1 : q / 18446744073709551616 ^ 1 % 18446744073709551616 = 18446744073709551615 := by decide +kernel
  have q2 : q / 18446744073709551616 ^ 2 % 18446744073709551616 = 3 := by decide +kernel
  rw [q0] at e0
  rw [q1] at e1
  rw [q2] at e2
  have x0 : X / 18446744073709551616 ^ 0 = X := by simp
  have x1 : X / 18446744073709551616 ^ 1 = X / 18446744073709551616 := by simp
  have x2 : X / 18446744073709551616 ^ 2 = X / 340282366920938463463374607431768211456 := by simp
  have hX : X = X % 18446744073709551616 + 18446744073709551616 * (X / 18446744073709551616 % 18446744073709551616) + 340282366920938463463374607431768211456 * (X / 340282366920938463463374607431768211456 % 18446744073709551616) := by omega
  have a0 : X % 18446744073709551616 < 18446744073709551616 := Nat.mod_lt _ (by decide)
  have a1 : X / 18446744073709551616 % 18446744073709551616 < 18446744073709551616 := Nat.mod_lt _ (by decide)
  have a2 : X / 340282366920938463463374607431768211456 % 18446744073709551616 < 18446744073709551616 := Nat.mod_lt _ (by decide)
  rw [canon_eq h]
  unfold sel
  rw [x0] at e0 ⊢
  rw [x1] at e1 ⊢
  rw [x2] at e2 ⊢
  unfold q
  generalize X % 18446744073709551616 = A at *
  generalize X / 18446744073709551616 % 18446744073709551616 = B at *
  generalize X / 340282366920938463463374607431768211456 % 18446744073709551616 = C at *
  generalize dif X 0 = D0 at *
  generalize dif X 1 = D1 at *
  generalize dif X 2 = D2 at *
  have e0' : A + 18446744073709551616 * bor X 1 = D0 + 18446744073709551611 + 0 := e0
  have e1' : B + 18446744073709551616 * bor X 2 = D1 + 18446744073709551615 + bor X 1 := e1
  have e2' : C + 18446744073709551616 * bor X 3 = D2 + 3 + bor X 2 := e2
  clear e0 e1 e2
  generalize bor X 1 = B1 at *
  generalize bor X 2 = B2 at *
  generalize bor X 3 = B3 at *
  by_cases hb : B3 = 1
  · rw [if_pos hb, if_pos hb, if_pos hb, if_pos (by omega)]
    exact words_eq a0 a1 a2 hX
  · rw [if_neg hb, if_neg hb, if_neg hb, if_neg (by omega)]
    exact words_eq d0 d1 d2 (by omega)
theorem sub64_ex (x y b : Nat) (hb : b ≤ 1) : ∀ w, (callFunc 52 #[.int .u64 (x : Int), .int .u64 (y : Int), .int .u64 (b : Int)]).run Tryd.prog w =
    .ok (.value (.tuple #[.int .u64 (((x + 18446744073709551616 - y - b) % 18446744073709551616 : Nat) : Int), .int .u64 ((if x < y + b then 1 else 0 : Nat) : Int)])) w := fun w => sub64 x y b hb w
theorem mask_sel {t x c : Nat} (ht : t < 18446744073709551616) (hx : x < 18446744073709551616) (hc : c ≤ 1) :
    bits .or .u64 (bits .and .u64 (t : Int) (IntKind.u64.wrap ((c : Int) - 1))) (bits .and .u64 (x : Int) (IntKind.u64.wrap (-(c : Int)))) = ((if c = 1 then x else t : Nat) : Int) := by
  have z : ∀ a : Nat, a < 18446744073709551616 → bits .and .u64 (a : Int) 0 = 0 := fun a ha => by
    have := bits_and ha (b := 0) (by decide)
    rw [Nat.and_zero] at this; exact this
  have o : ∀ a : Nat, a < 18446744073709551616 → bits .and .u64 (a : Int) 18446744073709551615 = (a : Int) := fun a ha => by
    have := bits_and ha (b := 18446744073709551615) (by decide)
    rw [show (18446744073709551615 : Nat) = 2 ^ 64 - 1 from rfl, Nat.and_two_pow_sub_one_eq_mod, Nat.mod_eq_of_lt (by omega)] at this
    exact this
  rcases (by omega : c = 0 ∨ c = 1) with rfl | rfl
  · rw [show IntKind.u64.wrap (((0 : Nat) : Int) - 1) = 18446744073709551615 by decide, show IntKind.u64.wrap (-((0 : Nat) : Int)) = 0 by decide, o t ht, z x hx, if_neg (by decide)]
    have := bits_or ht (b := 0) (by decide)
    rw [Nat.or_zero] at this; exact this
  · rw [show IntKind.u64.wrap (((1 : Nat) : Int) - 1) = 0 by decide, show IntKind.u64.wrap (-((1 : Nat) : Int)) = 18446744073709551615 by decide, o x hx, z t ht, if_pos rfl]
    have := bits_or (a := 0) (by decide) hx
    rw [Nat.zero_or] at this; exact this
end Go.Proofs.YtebmbapaedlmiaaDoor
