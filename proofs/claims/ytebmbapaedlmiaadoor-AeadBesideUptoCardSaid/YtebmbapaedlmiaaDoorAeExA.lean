/-
  Package aead: the document's examples (plain: no program in sight).
-/
import Derived.Test.YtebmbapaedlmiaaDoorAeZ2
namespace Go.Proofs.YtebmbapaedlmiaaDoor
open Ae
set_option linter.unusedVariables false

def Ae.exK : List Nat := (List.range 32).map (128 + ·)
def Ae.exN : List Nat := [7, 0, 0, 0, 64, 65, 66, 67, 68, 69, 70, 71]
def Ae.exB : List Nat := [80, 81, 82, 83, 192, 193, 194, 195, 196, 197, 198, 199]
def Ae.exT : List Nat := [76, 97, 100, 105, 101, 115, 32, 97, 110, 100, 32, 71, 101, 110, 116, 108, 101, 109, 101, 110, 32, 111, 102, 32, 116, 104, 101, 32, 99, 108, 97, 115, 115, 32, 111, 102, 32, 39, 57, 57, 58, 32, 73, 102, 32, 73, 32, 99, 111, 117, 108, 100, 32, 111, 102, 102, 101, 114, 32, 121, 111, 117, 32, 111, 110, 108, 121, 32, 111, 110, 101, 32, 116, 105, 112, 32, 102, 111, 114, 32, 116, 104, 101, 32, 102, 117, 116, 117, 114, 101, 44, 32, 115, 117, 110, 115, 99, 114, 101, 101, 110, 32, 119, 111, 117, 108, 100, 32, 98, 101, 32, 105, 116, 46]
def Ae.exO : List Nat := [211, 26, 141, 52, 100, 142, 96, 219, 123, 134, 175, 188, 83, 239, 126, 194, 164, 173, 237, 81, 41, 110, 8, 254, 169, 226, 181, 167, 54, 238, 98, 214, 61, 190, 164, 94, 140, 169, 103, 18, 130, 250, 251, 105, 218, 146, 114, 139, 26, 113, 222, 10, 158, 6, 11, 41, 5, 214, 165, 182, 126, 205, 59, 54, 146, 221, 189, 127, 45, 119, 139, 140, 152, 3, 174, 227, 40, 9, 27, 88, 250, 179, 36, 228, 250, 214, 117, 148, 85, 133, 128, 139, 72, 49, 215, 188, 63, 244, 222, 240, 142, 75, 122, 157, 229, 118, 210, 101, 134, 206, 198, 75, 97, 22]
def Ae.exW : List Nat := [26, 225, 11, 89, 79, 9, 226, 106, 126, 144, 46, 203, 208, 96, 6, 145]
def Ae.ex1 : List Nat := [159, 123, 233, 93, 1, 253, 64, 186, 21, 226, 143, 251, 54, 129, 10, 174, 193, 192, 136, 63, 9, 1, 110, 222, 221, 138, 208, 135, 85, 130, 3, 165, 78, 158, 203, 56, 172, 142, 94, 43, 184, 218, 178, 15, 250, 219, 82, 232, 117, 4, 178, 110, 190, 105, 109, 79, 96, 164, 133, 207, 17, 184, 27, 89]
def Ae.ex2 : List Nat := [252, 177, 196, 95, 66, 25, 238, 172, 236, 106, 222, 195, 78, 102, 105, 120, 142, 219, 65, 196, 156, 163, 1, 225, 39, 224, 172, 171, 59, 68, 185, 207, 92, 134, 187, 149, 224, 107, 13, 242, 144, 26, 182, 69, 228, 171, 230, 34, 21, 56, 12, 3, 206, 53, 108, 215, 166, 118, 99, 251, 221, 239, 255, 100]
theorem xor_two (key nonce : List Nat) (b i : Nat) (hi : i < 128) : xorAt key 1 nonce i b = b ^^^ (block key 1 nonce ++ block key 2 nonce).getD i 0 := by
  have h1 : (block key 1 nonce).length = 64 := block_len _ _ _
  unfold xorAt
  have e1 : m32 (1 + 0) = 1 := rfl
  have e2 : m32 (1 + 1) = 2 := rfl
  generalize hB1 : block key 1 nonce = B1 at *
  generalize hB2 : block key 2 nonce = B2 at *
  rcases (by omega : i < 64 ∨ 64 ≤ i) with hh | hh
  · rw [show i / 64 = 0 by omega, show i % 64 = i by omega, e1, hB1, List.getD_eq_getElem?_getD, List.getD_eq_getElem?_getD, List.getElem?_append_left (by omega)]
  · rw [show i / 64 = 1 by omega, show i % 64 = i - 64 by omega, e2, hB2, List.getD_eq_getElem?_getD, List.getD_eq_getElem?_getD, List.getElem?_append_right (by omega), h1]
theorem xors_two (key nonce l : List Nat) (h : l.length ≤ 128) : xors key 1 nonce l = (List.range l.length).map fun i => l.getD i 0 ^^^ (block key 1 nonce ++ block key 2 nonce).getD i 0 :=
  List.map_congr_left fun i hi => xor_two key nonce _ i (Nat.lt_of_lt_of_le (List.mem_range.1 hi) h)
set_option maxRecDepth 100000 in
theorem ex_block1 : block exK 1 exN = ex1 := by decide +kernel
set_option maxRecDepth 100000 in
theorem ex_block2 : block exK 2 exN = ex2 := by decide +kernel
set_option maxRecDepth 100000 in
theorem ex_xor : (List.range exT.length).map (fun i => exT.getD i 0 ^^^ (ex1 ++ ex2).getD i 0) = exO := by decide +kernel
set_option maxRecDepth 100000 in
theorem ex_tag : tagL exK exN exB exO = exW := by decide +kernel
set_option maxRecDepth 100000 in
theorem ex_tag0 : tagL exK exN exB [] ≠ List.replicate 16 0 := by decide +kernel
theorem ex_seal : sealL exK exN exB exT = exO ++ exW := by
  unfold sealL
  rw [xors_two _ _ _ (by decide), ex_block1, ex_block2, ex_xor, ex_tag]
end Go.Proofs.YtebmbapaedlmiaaDoor
