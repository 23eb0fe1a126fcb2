/-
  The document's examples of layer 14, over the plain functions.
-/
import Derived.Test.YtiijnhgafadokaaWinF
namespace Go.Proofs.Ytiijnhgafadokaa.Wins
set_option linter.unusedVariables false
/-- The bits cleared, told faster. -/
theorem clear_fast (W : Win) {n k i : Nat} (hk : k ≤ n + 1) (hk2 : k ≤ 1024) (hi : i < 1024) :
    clearTo W n k i = if (n + 1024 - i) % 1024 < k then false else W.m i := by
  unfold clearTo
  by_cases h : (n + 1024 - i) % 1024 < k
  · rw [if_pos h, if_pos ⟨(n + 1024 - i) % 1024, h, by omega⟩]
  · rw [if_neg h, if_neg]
    rintro ⟨j, h1, h2⟩
    apply h
    omega
/-- A mark of a number that is new, told faster. -/
def put' (W : Win) (n : Nat) : Win := ⟨fun i => if i = n % 1024 then true else if (n + 1024 - i) % 1024 < sight W n then false else W.m i, max W.next (n + 1)⟩
/-- Two windows that are alike where it matters. -/
structure Alike (V W : Win) : Prop where
  m : ∀ i, i < 1024 → V.m i = W.m i
  next : V.next = W.next
theorem Alike.put {V W : Win} (h : Alike V W) (n : Nat) : Alike (put V n) (put' W n) := by
  refine ⟨fun i hi => ?_, by show max V.next (n + 1) = max W.next (n + 1); rw [h.next]⟩
  show (if i = n % 1024 then true else clearTo V n (sight V n) i) = if i = n % 1024 then true else if (n + 1024 - i) % 1024 < sight W n then false else W.m i
  rw [clear_fast V (by unfold sight; omega) (by unfold sight; omega) hi, h.m i hi]
  unfold sight
  rw [h.next]
theorem Alike.has {V W : Win} (h : Alike V W) (n : Nat) : hasB V n = hasB W n := by
  unfold hasB; rw [h.next, h.m _ (Nat.mod_lt _ (by decide))]
theorem Alike.chk {V W : Win} (h : Alike V W) (n : Int) : chk V n = chk W n := by
  unfold Wins.chk; rw [h.next, h.has]
theorem ofBits_congr {f g : Nat → Bool} (k : Nat) (h : ∀ j, j < k → f j = g j) : ofBits f k = ofBits g k := by
  induction k with
  | zero => rfl
  | succ k ih => rw [ofBits, ofBits, ih (fun j hj => h j (by omega)), h k (by omega)]
theorem Alike.cnt {V W : Win} (h : Alike V W) (k : Nat) (hk : k ≤ 16) : cnt V.m k = cnt W.m k := by
  induction k with
  | zero => rfl
  | succ k ih =>
    have e : wordOf V.m k = wordOf W.m k := ofBits_congr 64 fun j hj => h.m _ (by omega)
    show Go.Proofs.Ytiijnhgafadokaa.cnt V.m k + ocI (wordOf V.m k) = Go.Proofs.Ytiijnhgafadokaa.cnt W.m k + ocI (wordOf W.m k)
    rw [e]
    exact congrArg (· + ocI (wordOf W.m k)) (ih (by omega))
theorem Alike.bel {V W : Win} (h : Alike V W) (most : Int) (lo d : Nat) : ∀ L, bel V most lo d L = bel W most lo d L := by
  induction d with
  | zero => intro L; rfl
  | succ d ih =>
    intro L
    show Go.Proofs.Ytiijnhgafadokaa.bel V most lo (d + 1) L = Go.Proofs.Ytiijnhgafadokaa.bel W most lo (d + 1) L
    rw [Go.Proofs.Ytiijnhgafadokaa.bel, Go.Proofs.Ytiijnhgafadokaa.bel, h.has]
    simp only [show ∀ L, Go.Proofs.Ytiijnhgafadokaa.bel V most lo d L = Go.Proofs.Ytiijnhgafadokaa.bel W most lo d L from ih]
theorem Alike.below {V W : Win} (h : Alike V W) (most : Int) : below V most = below W most := by
  unfold Go.Proofs.Ytiijnhgafadokaa.below lowest; rw [h.bel, h.next]

def f1 : Win := put' new 5
def f3 : Win := put' f1 3
def f4 : Win := put' f3 1029
def e1 : Win := marks new 5
def e2 : Win := marks e1 5
def e3 : Win := marks e2 3
def e4 : Win := marks e3 1029
theorem w1 : chk new 5 = 0 := by decide +kernel
theorem a1 : Alike e1 f1 := by
  rw [e1, marks, if_pos w1]; exact Alike.put ⟨fun _ _ => rfl, rfl⟩ 5
theorem w2 : chk e1 5 = 140 := by rw [a1.chk]; decide +kernel
theorem a2 : Alike e2 f1 := by rw [e2, marks, if_neg (by rw [w2]; decide)]; exact a1
theorem w3 : chk e2 3 = 0 := by rw [a2.chk]; decide +kernel
theorem a3 : Alike e3 f3 := by rw [e3, marks, if_pos w3]; exact a2.put 3
theorem w4 : below e3 8 = [(3, 4)] := by rw [a3.below]; decide +kernel
theorem w5 : e3.next = 6 := by rw [a3.next]; decide +kernel
theorem w6 : cnt e3.m 16 = 2 := by rw [a3.cnt 16 (by decide)]; decide +kernel
theorem w7 : chk e3 1029 = 0 := by rw [a3.chk]; decide +kernel
theorem a4 : Alike e4 f4 := by rw [e4, marks, if_pos w7]; exact a3.put 1029
theorem w8 : chk e4 5 = 140 := by rw [a4.chk]; decide +kernel
theorem w9 : chk e4 6 = 0 := by rw [a4.chk]; decide +kernel
theorem w10 : chk e4 (-1) = 1 := by rw [a4.chk]; decide +kernel
end Go.Proofs.Ytiijnhgafadokaa.Wins
