/-
  Numbers as bytes, the lowest first; numbers modulo 2^130 - 5 (plain: no program in sight).
-/
import Derived.Lib.Hide
namespace Go.Proofs.YtebmbapaedlmiaaDoor
namespace Ae

def val : List Nat → Nat
  | [] => 0
  | b :: l => b + 256 * val l
def bytesOf : Nat → Nat → List Nat
  | 0, _ => []
  | n + 1, x => x % 256 :: bytesOf n (x / 256)
def Byt (l : List Nat) : Prop := ∀ b ∈ l, b < 256

theorem Byt.cons {b : Nat} {l : List Nat} (h : Byt (b :: l)) : b < 256 ∧ Byt l := ⟨h b (by simp), fun c hc => h c (by simp [hc])⟩
theorem Byt.append {l m : List Nat} (h : Byt l) (k : Byt m) : Byt (l ++ m) := fun b hb => (List.mem_append.1 hb).elim (h b) (k b)
theorem Byt.take {l : List Nat} (h : Byt l) (n : Nat) : Byt (l.take n) := fun b hb => h b (List.mem_of_mem_take hb)
theorem Byt.drop {l : List Nat} (h : Byt l) (n : Nat) : Byt (l.drop n) := fun b hb => h b (List.mem_of_mem_drop hb)
theorem Byt.get {l : List Nat} (h : Byt l) {i b : Nat} (hi : l[i]? = some b) : b < 256 := h b (List.mem_of_getElem? hi)
theorem Byt.replicate (n : Nat) {b : Nat} (h : b < 256) : Byt (List.replicate n b) := fun c hc => by rw [List.eq_of_mem_replicate hc]; exact h
theorem val_lt : ∀ {l : List Nat}, Byt l → val l < 256 ^ l.length
  | [], _ => by simp [val]
  | b :: l, h => by
    have ih := val_lt h.cons.2
    have := h.cons.1
    simp only [val, List.length_cons, Nat.pow_succ]
    omega
theorem val_bytesOf : ∀ (n x : Nat), val (bytesOf n x) = x % 256 ^ n
  | 0, x => by simp [bytesOf, val, Nat.mod_one]
  | n + 1, x => by
    rw [bytesOf, val, val_bytesOf n, Nat.pow_succ, Nat.mul_comm (256 ^ n), Nat.mod_mul]
theorem val_bytesOf_lt {n x : Nat} (h : x < 256 ^ n) : val (bytesOf n x) = x := by rw [val_bytesOf, Nat.mod_eq_of_lt h]
theorem bytesOf_len : ∀ (n x : Nat), (bytesOf n x).length = n
  | 0, _ => rfl
  | n + 1, x => by rw [bytesOf, List.length_cons, bytesOf_len n]
theorem bytesOf_byt : ∀ (n x : Nat), Byt (bytesOf n x)
  | 0, _ => fun b hb => by simp [bytesOf] at hb
  | n + 1, x => fun b hb => by
    rw [bytesOf] at hb
    rcases List.mem_cons.1 hb with rfl | hb
    · exact Nat.mod_lt _ (by decide)
    · exact bytesOf_byt n _ b hb
theorem bytesOf_get : ∀ (n x i : Nat), i < n → (bytesOf n x)[i]? = some (x / 256 ^ i % 256)
  | 0, _, _, h => by omega
  | n + 1, x, 0, _ => by simp [bytesOf]
  | n + 1, x, i + 1, h => by
    rw [bytesOf, List.getElem?_cons_succ, bytesOf_get n _ i (by omega), Nat.div_div_eq_div_mul, Nat.pow_succ, Nat.mul_comm 256]
theorem bytesOf_val : ∀ {l : List Nat}, Byt l → bytesOf l.length (val l) = l
  | [], _ => rfl
  | b :: l, h => by
    have ih := bytesOf_val h.cons.2
    have := h.cons.1
    rw [List.length_cons, bytesOf, val, show (b + 256 * val l) % 256 = b by omega, show (b + 256 * val l) / 256 = val l by omega, ih]
theorem val_append (l m : List Nat) : val (l ++ m) = val l + 256 ^ l.length * val m := by
  induction l with
  | nil => simp [val]
  | cons b l ih =>
    rw [List.cons_append, val, val, ih, List.length_cons, Nat.pow_succ, Nat.mul_add, Nat.mul_comm (256 ^ l.length) 256, Nat.mul_assoc]
    omega
theorem val_zeros (n : Nat) : val (List.replicate n 0) = 0 := by
  induction n with
  | zero => rfl
  | succ n ih => rw [List.replicate_succ, val, ih]
theorem val_take_succ {l : List Nat} {k b : Nat} (h : l[k]? = some b) : val (l.take (k + 1)) = val (l.take k) + 256 ^ k * b := by
  have hk := (List.getElem?_eq_some_iff.1 h).1
  rw [List.take_add_one, h, val_append, List.length_take, Nat.min_eq_left (by omega)]
  simp [val]
theorem val_inj {l m : List Nat} (hl : Byt l) (hm : Byt m) (hn : l.length = m.length) (h : val l = val m) : l = m := by
  rw [← bytesOf_val hl, ← bytesOf_val hm, hn, h]

/-- 2^130 - 5 -/
def q : Nat := 1361129467683753853853498429727072845819
def fold1 (x : Nat) : Nat := x % 1361129467683753853853498429727072845824 + 5 * (x / 1361129467683753853853498429727072845824)
theorem fold1_mod (x : Nat) : fold1 x % q = x % q := by
  have e : x = fold1 x + q * (x / 1361129467683753853853498429727072845824) := by unfold fold1 q; omega
  conv => rhs; rw [e]
  rw [Nat.add_mul_mod_self_left]
theorem fold2_lt {x : Nat} (h : x < 6277101735386680763835789423207666416102355444464034512896) : fold1 (fold1 x) < 1361129467683753853853498429727072845824 := by
  unfold fold1; omega
theorem canon_eq {x : Nat} (h : x < 1361129467683753853853498429727072845824) : x % q = if x < q then x else x - q := by
  unfold q; split <;> omega
theorem q_lt : q < 256 ^ 17 := by decide +kernel
theorem mod_q_lt (x : Nat) : x % q < 256 ^ 17 := Nat.lt_trans (Nat.mod_lt x (by decide +kernel)) q_lt
end Ae
end Go.Proofs.YtebmbapaedlmiaaDoor
