/-
  The document's examples of layer 20, over the plain functions.
-/
import Derived.Test.YtiijnhgafadokaaPathsPure
namespace Go.Proofs.Ytiijnhgafadokaa.Paths
def tok7 : List Int := [7, 0, 0, 0, 0, 0, 0, 0]
def tok8 : List Int := [8, 0, 0, 0, 0, 0, 0, 0]
def live0 : Path := ⟨2, 0, 0, 0, [0, 0, 0, 0, 0, 0, 0, 0]⟩
def s1 : Tab := begins new 0 live0
def s2 : Tab := begins s1 0 live0
def s3 : Tab := begins s2 256 live0
def s4 : Tab := begins s3 3 ⟨1, 0, 0, mom 10, tok7⟩
def s5 : Tab := dueTo (mom 9) s4 256
def s6 : Tab := dueTo (mom 10) s5 256
def s7 : Tab := dueTo (mom 209) s6 256
def s8 : Tab := dueTo (mom 210) s7 256
def s9 : Tab := answer s8 3 tok8
def s10 : Tab := answer s9 3 tok7
def s11 : Tab := answer s10 3 tok7
def s12 : Tab := sample s11 3 180
def s13 : Tab := remove s12 3
def s14 : Tab := remove s13 3
theorem v1 : code new 0 = 0 := by decide +kernel
theorem v2 : code s1 0 = 201 := by decide +kernel
theorem v3 : code s2 256 = 1 := by decide +kernel
theorem v4 : code s3 3 = 0 := by decide +kernel
theorem v5 : liveL s4 256 = [0] := by decide +kernel
theorem v6 : dueL (mom 9) s4 256 = [] := by decide +kernel
theorem v7 : dueL (mom 10) s5 256 = [3] := by decide +kernel
theorem v8 : dueL (mom 209) s6 256 = [] := by decide +kernel
theorem v9 : dueL (mom 210) s7 256 = [3] := by decide +kernel
theorem v10 : answers s8 3 tok8 = false := by decide +kernel
theorem v11 : answers s9 3 tok7 = true := by decide +kernel
theorem v12 : stOf s10 3 = 2 := by decide +kernel
theorem v13 : answers s10 3 tok7 = false := by decide +kernel
theorem v14 : rttOf s12 3 = 110 := by decide +kernel
theorem v15 : rmCode s12 3 = 0 := by decide +kernel
theorem v16 : rmCode s13 3 = 200 := by decide +kernel
theorem v17 : code s14 3 = 201 := by decide +kernel
end Go.Proofs.Ytiijnhgafadokaa.Paths
