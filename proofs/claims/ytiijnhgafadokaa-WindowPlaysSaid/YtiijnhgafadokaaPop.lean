/-
  How many bits a word has: the formula of OnesCount64 counts them.
-/
import Derived.Test.YtiijnhgafadokaaWinD
namespace Go.Proofs.Ytiijnhgafadokaa
open Go.RowKit Wins
set_option linter.unusedVariables false

/-- How many of the first k are set. -/
def pop (f : Nat → Bool) : Nat → Nat
  | 0 => 0
  | k + 1 => pop f k + if f k then 1 else 0
theorem pop_le (f : Nat → Bool) (k : Nat) : pop f k ≤ k := by
  induction k with
  | zero => exact Nat.le_refl _
  | succ k ih => rw [pop]; split <;> omega
theorem pop_add (f : Nat → Bool) (a b : Nat) : pop f (a + b) = pop f a + pop (fun j => f (a + j)) b := by
  induction b with
  | zero => rfl
  | succ b ih => rw [← Nat.add_assoc, pop, ih, pop]; omega
theorem pop_congr {f g : Nat → Bool} {k : Nat} (h : ∀ j, j < k → f j = g j) : pop f k = pop g k := by
  induction k with
  | zero => rfl
  | succ k ih => rw [pop, pop, ih fun j hj => h j (by omega), h k (by omega)]
theorem ofBits_add (f : Nat → Bool) (a b : Nat) : ofBits f (a + b) = ofBits f a + 2 ^ a * ofBits (fun j => f (a + j)) b := by
  induction b with
  | zero => simp [ofBits]
  | succ b ih =>
    rw [← Nat.add_assoc, ofBits, ih, ofBits, Nat.mul_add]
    split
    · rw [Nat.pow_add]; omega
    · omega

theorem and_byte (l h a b : Nat) (hl : l < 256) (ha : a < 256) : (l + 256 * h) &&& (a + 256 * b) = (l &&& a) + 256 * (h &&& b) := by
  have hla : l &&& a < 256 := and_lt _ _ _ hl
  have e1 : ((l + 256 * h) &&& (a + 256 * b)) % 2 ^ 8 = l &&& a := by
    rw [Nat.and_mod_two_pow]; congr 1 <;> omega
  have e2 : ((l + 256 * h) &&& (a + 256 * b)) / 2 ^ 8 = h &&& b := by
    rw [Nat.and_div_two_pow]; congr 1 <;> omega
  have := Nat.div_add_mod ((l + 256 * h) &&& (a + 256 * b)) (2 ^ 8)
  omega
/-- A mask of k bytes. -/
def rep (c : Nat) : Nat → Nat
  | 0 => 0
  | k + 1 => c + 256 * rep c k
def s1 (k x : Nat) : Nat := ((x / 2) &&& rep 85 k) + (x &&& rep 85 k)
def s2 (k x : Nat) : Nat := ((x / 4) &&& rep 51 k) + (x &&& rep 51 k)
def s3 (k x : Nat) : Nat := (x / 16 + x) &&& rep 15 k
def t1 (l : Nat) : Nat := ((l / 2) &&& 85) + (l &&& 85)
def t2 (l : Nat) : Nat := ((l / 4) &&& 51) + (l &&& 51)
def t3 (l : Nat) : Nat := (l / 16 + l) &&& 15
set_option maxRecDepth 100000
theorem t1_lt : ∀ l, l < 256 → t1 l < 256 := by decide +kernel
theorem t2_ok : ∀ l, l < 256 → t2 (t1 l) < 69 ∧ t2 (t1 l) % 16 ≤ 4 := by decide +kernel
theorem rep_succ (c k : Nat) : rep c (k + 1) = c + 256 * rep c k := rfl
theorem t1_hi : ∀ l, l < 256 → ∀ c, c < 2 → (l / 2 + 128 * c) &&& 85 = (l / 2) &&& 85 := by decide +kernel
theorem t2_hi : ∀ l, l < 256 → ∀ c, c < 4 → (l / 4 + 64 * c) &&& 51 = (l / 4) &&& 51 := by decide +kernel
theorem t3_hi : ∀ l, l < 69 → ∀ c, c < 5 → (l / 16 + 16 * c + l) &&& 15 = (l / 16 + l) &&& 15 := by decide +kernel
theorem s1_step (k l h : Nat) (hl : l < 256) : s1 (k + 1) (l + 256 * h) = t1 l + 256 * s1 k h := by
  unfold s1 t1
  rw [rep_succ]
  have e : (l + 256 * h) / 2 = (l / 2 + 128 * (h % 2)) + 256 * (h / 2) := by omega
  rw [e, and_byte _ _ _ _ (by omega) (by omega), and_byte _ _ _ _ hl (by omega), t1_hi l hl _ (Nat.mod_lt _ (by decide))]
  omega
theorem s2_step (k l h : Nat) (hl : l < 256) : s2 (k + 1) (l + 256 * h) = t2 l + 256 * s2 k h := by
  unfold s2 t2
  rw [rep_succ]
  have e : (l + 256 * h) / 4 = (l / 4 + 64 * (h % 4)) + 256 * (h / 4) := by omega
  rw [e, and_byte _ _ _ _ (by omega) (by omega), and_byte _ _ _ _ hl (by omega), t2_hi l hl _ (Nat.mod_lt _ (by decide))]
  omega
theorem s3_step (k l h : Nat) (hl : l < 69) (hh : h % 16 ≤ 4) : s3 (k + 1) (l + 256 * h) = t3 l + 256 * s3 k h := by
  unfold s3 t3
  rw [rep_succ]
  have e : (l + 256 * h) / 16 + (l + 256 * h) = (l / 16 + 16 * (h % 16) + l) + 256 * (h / 16 + h) := by omega
  rw [e, and_byte _ _ _ _ (by omega) (by omega), t3_hi l hl _ (by omega)]
def s123 (k x : Nat) : Nat := s3 k (s2 k (s1 k x))
def t123 (l : Nat) : Nat := t3 (t2 (t1 l))
theorem s2_nib (k x : Nat) : s2 k (s1 k x) % 16 ≤ 4 := by
  cases k with
  | zero => simp [s2, rep]
  | succ k =>
    have e : x = x % 256 + 256 * (x / 256) := by omega
    have h := t2_ok (x % 256) (Nat.mod_lt _ (by decide))
    rw [e, s1_step k _ _ (Nat.mod_lt _ (by decide)), s2_step k _ _ (t1_lt _ (Nat.mod_lt _ (by decide)))]
    omega
theorem s123_step (k l h : Nat) (hl : l < 256) : s123 (k + 1) (l + 256 * h) = t123 l + 256 * s123 k h := by
  unfold s123 t123
  have h1 := t1_lt l hl
  have h2 := t2_ok l hl
  rw [s1_step k l h hl, s2_step k _ _ h1, s3_step k _ _ h2.1 (s2_nib _ _)]
theorem byte_pop (f : Nat → Bool) : t123 (ofBits f 8) = pop f 8 := by
  have key : ∀ b0 b1 b2 b3 b4 b5 b6 b7 : Bool, t123 ((((((((0 + if b0 then 2 ^ 0 else 0) + if b1 then 2 ^ 1 else 0) + if b2 then 2 ^ 2 else 0) + if b3 then 2 ^ 3 else 0) + if b4 then 2 ^ 4 else 0) + if b5 then 2 ^ 5 else 0) + if b6 then 2 ^ 6 else 0) + if b7 then 2 ^ 7 else 0) = (((((((0 + if b0 then 1 else 0) + if b1 then 1 else 0) + if b2 then 1 else 0) + if b3 then 1 else 0) + if b4 then 1 else 0) + if b5 then 1 else 0) + if b6 then 1 else 0) + if b7 then 1 else 0 := by
    decide +kernel
  exact key (f 0) (f 1) (f 2) (f 3) (f 4) (f 5) (f 6) (f 7)
/-- The sums of the bytes. -/
def sums (f : Nat → Bool) : Nat → Nat
  | 0 => 0
  | k + 1 => pop f 8 + 256 * sums (fun j => f (8 + j)) k
theorem s123_bits (k : Nat) : ∀ f, s123 k (ofBits f (8 * k)) = sums f k := by
  induction k with
  | zero => intro f; simp [s123, s3, rep, sums]
  | succ k ih =>
    intro f
    rw [show 8 * (k + 1) = 8 + 8 * k by omega, ofBits_add, s123_step _ _ _ (ofBits_lt f 8), byte_pop, ih, sums]
theorem sums8 (f : Nat → Bool) : ∃ p0 p1 p2 p3 p4 p5 p6 p7, (p0 ≤ 8 ∧ p1 ≤ 8 ∧ p2 ≤ 8 ∧ p3 ≤ 8 ∧ p4 ≤ 8 ∧ p5 ≤ 8 ∧ p6 ≤ 8 ∧ p7 ≤ 8) ∧ sums f 8 = p0 + 256 * (p1 + 256 * (p2 + 256 * (p3 + 256 * (p4 + 256 * (p5 + 256 * (p6 + 256 * p7)))))) ∧ pop f 64 = p0 + p1 + p2 + p3 + p4 + p5 + p6 + p7 := by
  refine ⟨pop f 8, pop (fun j => f (8 + j)) 8, pop (fun j => f (8 + (8 + j))) 8, pop (fun j => f (8 + (8 + (8 + j)))) 8, pop (fun j => f (8 + (8 + (8 + (8 + j))))) 8, pop (fun j => f (8 + (8 + (8 + (8 + (8 + j)))))) 8, pop (fun j => f (8 + (8 + (8 + (8 + (8 + (8 + j))))))) 8, pop (fun j => f (8 + (8 + (8 + (8 + (8 + (8 + (8 + j)))))))) 8, ⟨pop_le _ _, pop_le _ _, pop_le _ _, pop_le _ _, pop_le _ _, pop_le _ _, pop_le _ _, pop_le _ _⟩, by simp only [sums, Nat.mul_zero, Nat.add_zero], ?_⟩
  have e : (64 : Nat) = 8 + (8 + (8 + (8 + (8 + (8 + (8 + 8)))))) := rfl
  rw [e]
  simp only [pop_add f 8, pop_add (fun j => f (8 + j)) 8, pop_add (fun j => f (8 + (8 + j))) 8, pop_add (fun j => f (8 + (8 + (8 + j)))) 8, pop_add (fun j => f (8 + (8 + (8 + (8 + j))))) 8, pop_add (fun j => f (8 + (8 + (8 + (8 + (8 + j)))))) 8, pop_add (fun j => f (8 + (8 + (8 + (8 + (8 + (8 + j))))))) 8]
  omega

theorem rep85 : rep 85 8 = 6148914691236517205 := by decide
theorem rep51 : rep 51 8 = 3689348814741910323 := by decide
theorem rep15 : rep 15 8 = 1085102592571150095 := by decide
theorem and_rep (x c : Nat) (k : Nat) : x &&& rep c k ≤ rep c k := Nat.and_le_right
theorem oc1_nat {x : Nat} (hx : x < 18446744073709551616) : oc1 (x : Int) = (s1 8 x : Nat) ∧ s1 8 x < 18446744073709551616 := by
  have e1 : ((x : Int) / 2) = ((x / 2 : Nat) : Int) := by omega
  have h1 := and_rep (x / 2) 85 8
  have h2 := and_rep x 85 8
  have hlt : s1 8 x < 18446744073709551616 := by unfold s1; rw [rep85] at *; omega
  refine ⟨?_, hlt⟩
  have b1 := bits_and (a := x / 2) (b := 6148914691236517205) (by omega) (by omega)
  have b2 := bits_and (a := x) (b := 6148914691236517205) hx (by omega)
  rw [oc1, e1]
  rw [show ((6148914691236517205 : Nat) : Int) = (6148914691236517205 : Int) from rfl] at b1 b2
  rw [b1, b2]
  have e3 : ((x / 2 &&& 6148914691236517205 : Nat) : Int) + ((x &&& 6148914691236517205 : Nat) : Int) = ((s1 8 x : Nat) : Int) := by
    unfold s1; rw [rep85]; omega
  rw [e3, wrap_u64_nat hlt]
theorem oc2_nat {x : Nat} (hx : x < 18446744073709551616) : oc2 (x : Int) = (s2 8 x : Nat) ∧ s2 8 x < 18446744073709551616 := by
  have e1 : ((x : Int) / 4) = ((x / 4 : Nat) : Int) := by omega
  have h1 := and_rep (x / 4) 51 8
  have h2 := and_rep x 51 8
  have hlt : s2 8 x < 18446744073709551616 := by unfold s2; rw [rep51] at *; omega
  refine ⟨?_, hlt⟩
  have b1 := bits_and (a := x / 4) (b := 3689348814741910323) (by omega) (by omega)
  have b2 := bits_and (a := x) (b := 3689348814741910323) hx (by omega)
  rw [oc2, e1]
  rw [show ((3689348814741910323 : Nat) : Int) = (3689348814741910323 : Int) from rfl] at b1 b2
  rw [b1, b2]
  have e3 : ((x / 4 &&& 3689348814741910323 : Nat) : Int) + ((x &&& 3689348814741910323 : Nat) : Int) = ((s2 8 x : Nat) : Int) := by
    unfold s2; rw [rep51]; omega
  rw [e3, wrap_u64_nat hlt]
theorem s2_le (x : Nat) : s2 8 x ≤ 7378697629483820646 := by
  have h1 := and_rep (x / 4) 51 8
  have h2 := and_rep x 51 8
  unfold s2; rw [rep51] at *; omega
theorem oc3_nat {x : Nat} (hx : x ≤ 7378697629483820646) : oc3 (x : Int) = (s3 8 x : Nat) := by
  have e1 : ((x : Int) / 16 + x) = ((x / 16 + x : Nat) : Int) := by omega
  have b1 := bits_and (a := x / 16 + x) (b := 1085102592571150095) (by omega) (by omega)
  rw [oc3, e1, wrap_u64_nat (by omega)]
  rw [show ((1085102592571150095 : Nat) : Int) = (1085102592571150095 : Int) from rfl] at b1
  rw [b1, s3, rep15]
theorem oc_tail {p0 p1 p2 p3 p4 p5 p6 p7 : Nat} (h : p0 ≤ 8 ∧ p1 ≤ 8 ∧ p2 ≤ 8 ∧ p3 ≤ 8 ∧ p4 ≤ 8 ∧ p5 ≤ 8 ∧ p6 ≤ 8 ∧ p7 ≤ 8) :
    bits .and .i64 (wrap64 (oc6 (oc5 (oc4 ((p0 + 256 * (p1 + 256 * (p2 + 256 * (p3 + 256 * (p4 + 256 * (p5 + 256 * (p6 + 256 * p7)))))) : Nat) : Int))))) 127 = ((p0 + p1 + p2 + p3 + p4 + p5 + p6 + p7 : Nat) : Int) := by
  obtain ⟨h0, h1, h2, h3, h4, h5, h6, h7⟩ := h
  have a4 : oc4 ((p0 + 256 * (p1 + 256 * (p2 + 256 * (p3 + 256 * (p4 + 256 * (p5 + 256 * (p6 + 256 * p7)))))) : Nat) : Int) = (((p0 + p1) + 256 * (p1 + p2) + 65536 * ((p2 + p3) + 256 * (p3 + p4) + 65536 * ((p4 + p5) + 256 * (p5 + p6) + 65536 * ((p6 + p7) + 256 * p7))) : Nat) : Int) := by
    rw [oc4, ← wrap_u64_nat (a := (p0 + p1) + 256 * (p1 + p2) + 65536 * ((p2 + p3) + 256 * (p3 + p4) + 65536 * ((p4 + p5) + 256 * (p5 + p6) + 65536 * ((p6 + p7) + 256 * p7)))) (by omega)]
    congr 1
    omega
  rw [a4]
  clear a4
  obtain ⟨q0, hq0⟩ : ∃ q, q = p0 + p1 + 256 * (p1 + p2) := ⟨_, rfl⟩
  obtain ⟨q1, hq1⟩ : ∃ q, q = p2 + p3 + 256 * (p3 + p4) := ⟨_, rfl⟩
  obtain ⟨q2, hq2⟩ : ∃ q, q = p4 + p5 + 256 * (p5 + p6) := ⟨_, rfl⟩
  obtain ⟨q3, hq3⟩ : ∃ q, q = p6 + p7 + 256 * p7 := ⟨_, rfl⟩
  rw [← hq0, ← hq1, ← hq2, ← hq3]
  have a5 : oc5 ((q0 + 65536 * (q1 + 65536 * (q2 + 65536 * q3)) : Nat) : Int) = ((q0 + q1 + 65536 * ((q1 + q2) + 65536 * ((q2 + q3) + 65536 * q3)) : Nat) : Int) := by
    rw [oc5, ← wrap_u64_nat (a := q0 + q1 + 65536 * ((q1 + q2) + 65536 * ((q2 + q3) + 65536 * q3))) (by omega)]
    congr 1
    omega
  rw [a5]
  clear a5
  have a6 : oc6 ((q0 + q1 + 65536 * ((q1 + q2) + 65536 * ((q2 + q3) + 65536 * q3)) : Nat) : Int) = ((q0 + q1 + (q2 + q3) + 65536 * ((q1 + q2) + q3 + 65536 * ((q2 + q3) + 65536 * q3)) : Nat) : Int) := by
    rw [oc6, ← wrap_u64_nat (a := q0 + q1 + (q2 + q3) + 65536 * ((q1 + q2) + q3 + 65536 * ((q2 + q3) + 65536 * q3))) (by omega)]
    congr 1
    omega
  rw [a6]
  clear a6
  obtain ⟨y, hy⟩ : ∃ y, y = q0 + q1 + (q2 + q3) + 65536 * ((q1 + q2) + q3 + 65536 * ((q2 + q3) + 65536 * q3)) := ⟨_, rfl⟩
  rw [← hy]
  have hy1 : y < 9223372036854775808 := by omega
  obtain ⟨Z, hZ⟩ : ∃ Z, Z = 2 * (p1 + p2 + p3 + p4 + p5 + p6 + p7) + 512 * ((q1 + q2) + q3 + 65536 * ((q2 + q3) + 65536 * q3)) := ⟨_, rfl⟩
  have hy3 : y = (p0 + p1 + p2 + p3 + p4 + p5 + p6 + p7) + 128 * Z := by omega
  clear hZ hy hq0 hq1 hq2 hq3
  obtain ⟨s, hs⟩ : ∃ s, s = p0 + p1 + p2 + p3 + p4 + p5 + p6 + p7 := ⟨_, rfl⟩
  rw [← hs] at hy3 ⊢
  have hs2 : s ≤ 64 := by omega
  clear hs
  have hy2 : y % 128 = s := by rw [hy3, Nat.add_mul_mod_self_left, Nat.mod_eq_of_lt (by omega)]
  rw [Go.IntWalk.wrap64_in (y : Int) (by omega)]
  have h7 : (BitVec.ofInt 64 (y : Int) &&& BitVec.ofInt 64 127).toNat = y % 128 := by
    rw [BitVec.ofInt_natCast, show (127 : Int) = ((127 : Nat) : Int) from rfl, BitVec.ofInt_natCast, BitVec.toNat_and, BitVec.toNat_ofNat, BitVec.toNat_ofNat, Nat.mod_eq_of_lt (by omega : y < 2 ^ 64), Nat.mod_eq_of_lt (by decide : (127 : Nat) < 2 ^ 64)]
    exact Nat.and_two_pow_sub_one_eq_mod y 7
  show IntKind.i64.wrap ((BitVec.ofInt 64 (y : Int) &&& BitVec.ofInt 64 127).toNat : Int) = _
  rw [h7, hy2]
  exact Go.IntWalk.i64_in _ (by omega)
/-- The formula counts the bits. -/
theorem ocI_pop (m : Nat → Bool) (i : Nat) : ocI (wordOf m i : Int) = (pop (fun j => m (64 * i + j)) 64 : Int) := by
  have hlt : wordOf m i < 18446744073709551616 := ofBits_lt _ 64
  have e := s123_bits 8 (fun j => m (64 * i + j))
  obtain ⟨p0, p1, p2, p3, p4, p5, p6, p7, hp, hs, hpop⟩ := sums8 (fun j => m (64 * i + j))
  have h1 := oc1_nat hlt
  have h2 := oc2_nat h1.2
  have h3 := oc3_nat (s2_le (s1 8 (wordOf m i)))
  have e' : s3 8 (s2 8 (s1 8 (wordOf m i))) = sums (fun j => m (64 * i + j)) 8 := e
  rw [ocI, h1.1, h2.1, h3, e', hs, hpop]
  exact oc_tail hp
theorem cnt_pop (m : Nat → Bool) : ∀ k, cnt m k = (pop m (64 * k) : Int)
  | 0 => rfl
  | k + 1 => by
    rw [cnt, cnt_pop m k, ocI_pop, show 64 * (k + 1) = 64 * k + 64 by omega, pop_add]
    omega
/-- Any 1024 numbers on end hit each bit once. -/
theorem pop_turn (m : Nat → Bool) : ∀ a, pop (fun k => m ((a + k) % 1024)) 1024 = pop m 1024
  | 0 => pop_congr fun j hj => by rw [Nat.zero_add, Nat.mod_eq_of_lt hj]
  | a + 1 => by
    rw [← pop_turn m a]
    have e1 : pop (fun k => m ((a + k) % 1024)) (1 + 1023) = pop (fun k => m ((a + k) % 1024)) 1 + pop (fun j => m ((a + (1 + j)) % 1024)) 1023 := pop_add _ 1 1023
    have e2 : pop (fun k => m ((a + 1 + k) % 1024)) (1023 + 1) = pop (fun k => m ((a + 1 + k) % 1024)) 1023 + if m ((a + 1 + 1023) % 1024) then 1 else 0 := rfl
    have e3 : pop (fun k => m ((a + 1 + k) % 1024)) 1023 = pop (fun j => m ((a + (1 + j)) % 1024)) 1023 := pop_congr fun j hj => by rw [Nat.add_assoc]
    have e4 : pop (fun k => m ((a + k) % 1024)) 1 = if m (a % 1024) then 1 else 0 := by simp [pop]
    have e5 : (a + 1 + 1023) % 1024 = a % 1024 := by omega
    show pop (fun k => m ((a + 1 + k) % 1024)) (1023 + 1) = pop (fun k => m ((a + k) % 1024)) (1023 + 1)
    rw [e2]
    have e1' : pop (fun k => m ((a + k) % 1024)) (1023 + 1) = _ := e1
    rw [e1', e4, e5, e3]
    omega
theorem cnt_turn (m : Nat → Bool) (a : Nat) : cnt m 16 = (pop (fun k => m ((a + k) % 1024)) 1024 : Int) := by
  rw [cnt_pop, pop_turn]
end Go.Proofs.Ytiijnhgafadokaa
