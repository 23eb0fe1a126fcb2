/-
  Package clamp: Mul (the walk).
-/
import Derived.Test.YtebmbapaedlmiaaDoorSAeI
import Derived.Deep.QuietTactic
namespace Go.Proofs.YtebmbapaedlmiaaDoor
open Go.RowKit Ae
set_option linter.unusedVariables false

theorem enters_fold : Enters Tryd.prog 42 := enters_of Tryd.func42 (by kernel_rfl) rfl
theorem up_word {a b : Nat} (ha : a < 18446744073709551616) (hb : b < 18446744073709551616) : bits .or .u64 ((a : Int) / 4) (IntKind.u64.wrap ((b : Int) * 4611686018427387904)) = ((a / 4 + b % 4 * 4611686018427387904 : Nat) : Int) := by
  have e1 : ((a : Int) / 4) = ((a / 4 : Nat) : Int) := by simp
  have e2 : IntKind.u64.wrap ((b : Int) * 4611686018427387904) = ((b % 4 * 4611686018427387904 : Nat) : Int) := by
    simp only [IntKind.wrap, IntKind.bits, IntKind.signed]
    simp
    omega
  rw [e1, e2, bits_or (by omega) (by omega)]
  congr 1
  rw [Nat.or_comm, nat_join 62 _ _ (Nat.mul_mod_left _ _) (by omega), Nat.add_comm]
theorem up_eq {Z : Nat} (h : Z < 1852673427797059126777135760139006525652319754650249024631321344126610074238976) :
    words (Z / 1361129467683753853853498429727072845824) = [Z / 340282366920938463463374607431768211456 % 18446744073709551616 / 4 + Z / 6277101735386680763835789423207666416102355444464034512896 % 18446744073709551616 % 4 * 4611686018427387904, Z / 6277101735386680763835789423207666416102355444464034512896 % 18446744073709551616 / 4 + Z / 115792089237316195423570985008687907853269984665640564039457584007913129639936 % 18446744073709551616 % 4 * 4611686018427387904, Z / 115792089237316195423570985008687907853269984665640564039457584007913129639936 % 18446744073709551616 / 4] := by
  have e : Z / 1361129467683753853853498429727072845824 = Z / 340282366920938463463374607431768211456 / 4 := by rw [Nat.div_div_eq_div_mul]
  have e3 : Z / 6277101735386680763835789423207666416102355444464034512896 = Z / 340282366920938463463374607431768211456 / 18446744073709551616 := by rw [Nat.div_div_eq_div_mul]
  have e4 : Z / 115792089237316195423570985008687907853269984665640564039457584007913129639936 = Z / 340282366920938463463374607431768211456 / 340282366920938463463374607431768211456 := by rw [Nat.div_div_eq_div_mul]
  have hW : Z / 340282366920938463463374607431768211456 < 5444517870735015415413993718908291383296 := by omega
  rw [e, e3, e4]
  generalize Z / 340282366920938463463374607431768211456 = W at hW
  exact words_eq (by omega) (by omega) (by omega) (by omega)
theorem low_eq (Z : Nat) : words (Z % 1361129467683753853853498429727072845824) = [Z % 18446744073709551616, Z / 18446744073709551616 % 18446744073709551616, Z / 340282366920938463463374607431768211456 % 18446744073709551616 % 4] :=
  words_eq (by omega) (by omega) (by omega) (by omega)
theorem prod_lt {X Y : Nat} (hX : X < 1361129467683753853853498429727072845824) (hY : Y < 1361129467683753853853498429727072845824) : X * Y < 1852673427797059126777135760139006525652319754650249024631321344126610074238976 := by
  have : X * Y ≤ 1361129467683753853853498429727072845823 * 1361129467683753853853498429727072845823 := Nat.mul_le_mul (by omega) (by omega)
  omega
theorem mul_mod_q (a b : Nat) : fold1 (fold1 a) * fold1 (fold1 b) % q = a * b % q := by
  rw [Nat.mul_mod, fold1_mod, fold1_mod, fold1_mod, fold1_mod, ← Nat.mul_mod]
/-- What the calls of math/bits give, under names. -/
theorem mul64_nm (x y hi lo : Nat) (hx : x < 18446744073709551616) (hy : y < 18446744073709551616) (h1 : hi = x * y / 18446744073709551616) (h2 : lo = x * y % 18446744073709551616) (w : World) :
    Calls Tryd.prog 44 #[.int .u64 (x : Int), .int .u64 (y : Int)] w fun e w' => e = .returned (.tuple #[.int .u64 (hi : Int), .int .u64 (lo : Int)]) ∧ w' = w :=
  (mul64 x y hx hy w).mono fun _ _ ⟨he, hw⟩ => ⟨by rw [he, h1, h2], hw.symm⟩
theorem turn_eq {x y t ab hi lo s1 d1 s2 d2 : Nat} (hx : x < 18446744073709551616) (hy : y < 18446744073709551616) (ht : t < 18446744073709551616) (hab : ab < 18446744073709551616) (h1 : hi = x * y / 18446744073709551616) (h2 : lo = x * y % 18446744073709551616)
    (h3 : s1 = (lo + t) % 18446744073709551616) (h4 : d1 = (lo + t) / 18446744073709551616) (h5 : s2 = (s1 + ab) % 18446744073709551616) (h6 : d2 = (s1 + ab) / 18446744073709551616) :
    hi + d1 + d2 < 18446744073709551616 ∧ s2 = (x * y + t + ab) % 18446744073709551616 ∧ hi + d1 + d2 = (x * y + t + ab) / 18446744073709551616 := by
  have := mul_lt hx hy
  generalize x * y = p at *
  omega
theorem itr_len (X Y i : Nat) (t : List Nat) (ab : Nat) : ∀ k, (itr (stepM X Y i) k (t, ab)).1.length = t.length
  | 0 => rfl
  | k + 1 => by show (stepM X Y i k _).1.length = _; simp [stepM, itr_len X Y i t ab k]
theorem rows_len (X Y : Nat) : ∀ i, (itr (rowM X Y) i [0, 0, 0, 0, 0, 0]).length = 6
  | 0 => rfl
  | i + 1 => by show (rowM X Y i _).length = _; simp [rowM, itr_len, rows_len X Y i]
def Low (l : List Nat) : Prop := ∀ x ∈ l, x < 18446744073709551616
theorem Low.get {l : List Nat} (h : Low l) (i : Nat) : l.getD i 0 < 18446744073709551616 := by
  rw [List.getD_eq_getElem?_getD]
  cases hi : l[i]? with
  | none => simp
  | some x => exact h x (List.mem_of_getElem? hi)
theorem Low.set {l : List Nat} (h : Low l) (i : Nat) {x : Nat} (hx : x < 18446744073709551616) : Low (l.set i x) := fun y hy => by
  rcases List.mem_or_eq_of_mem_set hy with h1 | rfl
  · exact h y h1
  · exact hx
theorem stepM_low {X Y i k : Nat} {s : List Nat × Nat} (h : Low s.1 ∧ s.2 < 18446744073709551616) : Low (stepM X Y i k s).1 ∧ (stepM X Y i k s).2 < 18446744073709551616 := by
  refine ⟨h.1.set _ (Nat.mod_lt _ (by decide)), ?_⟩
  have h1 := mul_lt (x := X / 18446744073709551616 ^ i % 18446744073709551616) (y := Y / 18446744073709551616 ^ k % 18446744073709551616) (Nat.mod_lt _ (by decide)) (Nat.mod_lt _ (by decide))
  have h2 := h.1.get (i + k)
  have h3 := h.2
  unfold stepM
  simp only
  generalize X / 18446744073709551616 ^ i % 18446744073709551616 * (Y / 18446744073709551616 ^ k % 18446744073709551616) = p at *
  omega
theorem itr_low {X Y i : Nat} {t : List Nat} {ab : Nat} (h : Low t ∧ ab < 18446744073709551616) : ∀ k, Low (itr (stepM X Y i) k (t, ab)).1 ∧ (itr (stepM X Y i) k (t, ab)).2 < 18446744073709551616
  | 0 => h
  | k + 1 => stepM_low (itr_low h k)
theorem rows_low (X Y : Nat) : ∀ i, Low (itr (rowM X Y) i [0, 0, 0, 0, 0, 0])
  | 0 => by intro x hx; simp [itr] at hx; omega
  | i + 1 => by
    have h := itr_low (X := X) (Y := Y) (i := i) ⟨rows_low X Y i, (by decide : (0 : Nat) < 18446744073709551616)⟩ 3
    exact h.1.set _ h.2
theorem stepM_val {X Y i k : Nat} {s : List Nat × Nat} {t : List Nat} {ab p y z u v : Nat} (h1 : t = s.1) (h2 : ab = s.2) (hp : p = X / 18446744073709551616 ^ i % 18446744073709551616) (hy : y = Y / 18446744073709551616 ^ k % 18446744073709551616) (hz : z = t.getD (i + k) 0)
    (hu : u = (p * y + z + ab) % 18446744073709551616) (hv : v = (p * y + z + ab) / 18446744073709551616) : stepM X Y i k s = (t.set (i + k) u, v) := by
  subst h1 h2 hp hy hz hu hv; rfl
end Go.Proofs.YtebmbapaedlmiaaDoor
