/-
  The stream of chapter 4, over natural numbers and lists (plain: no program in sight).
-/
import Derived.Test.YtebmbapaedlmiaaDoorSAeNum
namespace Go.Proofs.YtebmbapaedlmiaaDoor
namespace Ae

/-- f, n times, told which time it is. -/
def itr {α : Type} (f : Nat → α → α) : Nat → α → α
  | 0, a => a
  | n + 1, a => f n (itr f n a)
def m32 (x : Nat) : Nat := x % 4294967296
/-- A word turned by 16, 12, 8 or 7 places: what is shifted up, and what falls out above. -/
def rl (x n : Nat) : Nat := m32 (x * 2 ^ n) ||| x / 2 ^ (32 - n)
def qr (a b c d : Nat) : List Nat :=
  let a := m32 (a + b)
  let d := rl (d ^^^ a) 16
  let c := m32 (c + d)
  let b := rl (b ^^^ c) 12
  let a := m32 (a + b)
  let d := rl (d ^^^ a) 8
  let c := m32 (c + d)
  let b := rl (b ^^^ c) 7
  [a, b, c, d]
/-- The word of four bytes from i on. -/
def word4 (l : List Nat) (i : Nat) : Nat := l.getD i 0 + 256 * l.getD (i + 1) 0 + 65536 * l.getD (i + 2) 0 + 16777216 * l.getD (i + 3) 0
def headW : List Nat := [1634760805, 857760878, 2036477234, 1797285236]
def roundP : List (List Nat) := [[0, 4, 8, 12], [1, 5, 9, 13], [2, 6, 10, 14], [3, 7, 11, 15], [0, 5, 10, 15], [1, 6, 11, 12], [2, 7, 8, 13], [3, 4, 9, 14]]
def place (i j : Nat) : Nat := (roundP.getD i []).getD j 0
/-- One quarter in a state. -/
def quart (i : Nat) (x : List Nat) : List Nat :=
  let r := qr (x.getD (place i 0) 0) (x.getD (place i 1) 0) (x.getD (place i 2) 0) (x.getD (place i 3) 0)
  itr (fun j x => x.set (place i j) (r.getD j 0)) 4 x
/-- The state that a block begins with. -/
def startW (key : List Nat) (ctr : Nat) (nonce : List Nat) : List Nat :=
  headW ++ (List.range 8).map (fun i => word4 key (4 * i)) ++ ctr :: (List.range 3).map (fun i => word4 nonce (4 * i))
/-- The words of a block. -/
def blockW (key : List Nat) (ctr : Nat) (nonce : List Nat) : List Nat :=
  let s := startW key ctr nonce
  List.zipWith (fun a b => m32 (a + b)) (itr (fun _ x => itr quart 8 x) 10 s) s
/-- The bytes of a block. -/
def block (key : List Nat) (ctr : Nat) (nonce : List Nat) : List Nat := ((blockW key ctr nonce).map (bytesOf 4)).flatten
/-- The stream laid over bytes, from a counter on. -/
def xorAt (key : List Nat) (ctr : Nat) (nonce : List Nat) (i b : Nat) : Nat := b ^^^ (block key (m32 (ctr + i / 64)) nonce).getD (i % 64) 0
def xors (key : List Nat) (ctr : Nat) (nonce : List Nat) (l : List Nat) : List Nat := (List.range l.length).map fun i => xorAt key ctr nonce i (l.getD i 0)
end Ae
end Go.Proofs.YtebmbapaedlmiaaDoor
