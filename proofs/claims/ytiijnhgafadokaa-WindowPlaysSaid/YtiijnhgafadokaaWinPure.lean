/-
  A window of numbers (layer 14) as plain functions.
-/
namespace Go.Proofs.Ytiijnhgafadokaa.Wins
structure Win where
  m : Nat → Bool
  next : Nat
def new : Win := ⟨fun _ => false, 0⟩
def hasB (W : Win) (n : Nat) : Bool := decide (n < W.next) && W.m (n % 1024)
/-- What Check answers. -/
def chk (W : Win) (n : Int) : Int :=
  if n < 0 ∨ 281474976710655 < n then 1 else if n < (W.next : Int) - 1024 ∨ hasB W n.toNat = true then 140 else 0
/-- The bits of the k numbers from n down are cleared. -/
def clearTo (W : Win) (n k : Nat) : Nat → Bool := fun i => if ∃ j, j < k ∧ i = (n - j) % 1024 then false else W.m i
/-- How many come into sight. -/
def sight (W : Win) (n : Nat) : Nat := min 1024 (n + 1 - W.next)
def put (W : Win) (n : Nat) : Win := ⟨fun i => if i = n % 1024 then true else clearTo W n (sight W n) i, max W.next (n + 1)⟩
def marks (W : Win) (n : Int) : Win := if chk W n = 0 then put W n.toNat else W
end Go.Proofs.Ytiijnhgafadokaa.Wins
