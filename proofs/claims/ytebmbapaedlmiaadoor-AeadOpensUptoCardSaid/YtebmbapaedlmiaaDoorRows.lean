/-
  NARROWER THAN 'FOR EVERY INPUT', by the rows' own cells (each row's printed sentence says how): AeadSeals: laid · AeadOpens: laid · AeadBack: laid · AeadTurned: laid · AeadBeside: laid.
  DERIVED. THE GIVEN ROWS OF THIS SEAT. 5 by the template 'for every input the law returns true; each argument reads behind the call as it read before'; 0 by the template 'total and deterministic' (their statements: YtebmbapaedlmiaaDoorTotals.lean).
  GIVEN WITH THE SEED: the statements are not yours to turn. If you find one false, say at which input.
  Laid BY PROGRAM, IN A SANDBOX (cutbox-rows.mjs): the forced cells as the released guide's own fill.sh prints them over the translation 6ed0963b39530420… (all of the seat's roots in one cut). By AI agents, Wed Nov 11 2026. No macro, syntax, notation, axiom, sorry.
-/
import Derived.Test.YtebmbapaedlmiaaDoorChecked
import GoSem.Claim
import GoSem.ClaimJoined
import GoSem.ClaimMapViews
import Derived.JoinedTies
import Derived.KernelRfl
namespace Go.Proofs.YtebmbapaedlmiaaDoor
/- THE CELL 'sum', in the pinned program and in every row, IS THE sha256 OF THE DUMP (.gsa) THAT YtebmbapaedlmiaaDoorProg.lean LOADS. Nothing in Lean hashes anything: it is a label: what it is worth is what the hold of that sum in a sandbox is worth. -/
noncomputable def Tryd.pinned : Pinned := { name := "ytebmbapaedlmiaadoor", sum := "6ed0963b39530420f4d624460a348a523df9d1beb225389f7bf9f361399de146", checked := Tryd.checked }
namespace Rows
def none {H : Type} : Left H := { results := [], args := [] }

/- WHAT THE LISTED PACKAGE-LEVEL VARIABLES READ AS WHEN THE CALL BEGINS. Each datum BY PROGRAM (the guide's laid-datum.mjs) off the statement by which the dump's own 'gosem.cut.vars' lays the variable. In a bare row this is a premise. The card (YtebmbapaedlmiaaDoorCards.lean) ties it to the program's text. -/
def laid_sheave_chacha_head {H : Type} : DataW H := .agg [.lit (.int .u32 1634760805), .lit (.int .u32 857760878), .lit (.int .u32 2036477234), .lit (.int .u32 1797285236)]
def laid_sheave_chacha_round {H : Type} : DataW H := .agg [.agg [.lit (.int .i64 0), .lit (.int .i64 4), .lit (.int .i64 8), .lit (.int .i64 12)], .agg [.lit (.int .i64 1), .lit (.int .i64 5), .lit (.int .i64 9), .lit (.int .i64 13)], .agg [.lit (.int .i64 2), .lit (.int .i64 6), .lit (.int .i64 10), .lit (.int .i64 14)], .agg [.lit (.int .i64 3), .lit (.int .i64 7), .lit (.int .i64 11), .lit (.int .i64 15)], .agg [.lit (.int .i64 0), .lit (.int .i64 5), .lit (.int .i64 10), .lit (.int .i64 15)], .agg [.lit (.int .i64 1), .lit (.int .i64 6), .lit (.int .i64 11), .lit (.int .i64 12)], .agg [.lit (.int .i64 2), .lit (.int .i64 7), .lit (.int .i64 8), .lit (.int .i64 13)], .agg [.lit (.int .i64 3), .lit (.int .i64 4), .lit (.int .i64 9), .lit (.int .i64 14)]]
def laid_sheave_clamp_prime {H : Type} : DataW H := .agg [.lit (.int .u64 18446744073709551611), .lit (.int .u64 18446744073709551615), .lit (.int .u64 3)]

/-- 'sheavelaw07.AeadSeals': WHATEVER THE INPUT: true; the input reads as it did. -/
def aeadSealsSpec : ChangeSpec := { name := "aeadSeals", fn := fun _ => fun
  | [d1, d2] => { results := [.lit (.bool true)], args := [d1, d2] }
  | _ => none }
def aeadSealsRow : OpenClaim := { program := "ytebmbapaedlmiaadoor", sum := "6ed0963b39530420f4d624460a348a523df9d1beb225389f7bf9f361399de146", func := "sheave/sheavelaw07.AeadSeals", spec := "aeadSeals", inPlace := ["math/bits.Add64", "math/bits.Sub64"], named := ["sheave/chacha.head", "sheave/chacha.round", "sheave/clamp.prime"], apart := false, laid := [("sheave/chacha.head", laid_sheave_chacha_head), ("sheave/chacha.round", laid_sheave_chacha_round), ("sheave/clamp.prime", laid_sheave_clamp_prime)] }
def AeadSealsSaid : Prop := aeadSealsRow.holds Tryd.pinned (OpenSpec.ofChange aeadSealsSpec)

/-- ITS FALSE NEIGHBOUR: 'it returns false'. Refute it at one input. -/
def aeadSealsWrong : ChangeSpec := { name := "aeadSeals", fn := fun _ => fun
  | [d1, d2] => { results := [.lit (.bool false)], args := [d1, d2] }
  | _ => none }
def AeadSealsWrongFalsely : Prop := aeadSealsRow.holds Tryd.pinned (OpenSpec.ofChange aeadSealsWrong)

/-- 'sheavelaw07.AeadOpens': WHATEVER THE INPUT: true; the input reads as it did. -/
def aeadOpensSpec : ChangeSpec := { name := "aeadOpens", fn := fun _ => fun
  | [d1, d2] => { results := [.lit (.bool true)], args := [d1, d2] }
  | _ => none }
def aeadOpensRow : OpenClaim := { program := "ytebmbapaedlmiaadoor", sum := "6ed0963b39530420f4d624460a348a523df9d1beb225389f7bf9f361399de146", func := "sheave/sheavelaw07.AeadOpens", spec := "aeadOpens", inPlace := ["math/bits.Add64", "math/bits.Sub64"], named := ["sheave/chacha.head", "sheave/chacha.round", "sheave/clamp.prime"], apart := false, laid := [("sheave/chacha.head", laid_sheave_chacha_head), ("sheave/chacha.round", laid_sheave_chacha_round), ("sheave/clamp.prime", laid_sheave_clamp_prime)] }
def AeadOpensSaid : Prop := aeadOpensRow.holds Tryd.pinned (OpenSpec.ofChange aeadOpensSpec)

/-- ITS FALSE NEIGHBOUR: 'it returns false'. Refute it at one input. -/
def aeadOpensWrong : ChangeSpec := { name := "aeadOpens", fn := fun _ => fun
  | [d1, d2] => { results := [.lit (.bool false)], args := [d1, d2] }
  | _ => none }
def AeadOpensWrongFalsely : Prop := aeadOpensRow.holds Tryd.pinned (OpenSpec.ofChange aeadOpensWrong)

/-- 'sheavelaw07.AeadBack': WHATEVER THE INPUT: true; the input reads as it did. -/
def aeadBackSpec : ChangeSpec := { name := "aeadBack", fn := fun _ => fun
  | [d1, d2] => { results := [.lit (.bool true)], args := [d1, d2] }
  | _ => none }
def aeadBackRow : OpenClaim := { program := "ytebmbapaedlmiaadoor", sum := "6ed0963b39530420f4d624460a348a523df9d1beb225389f7bf9f361399de146", func := "sheave/sheavelaw07.AeadBack", spec := "aeadBack", inPlace := ["math/bits.Add64", "math/bits.Sub64"], named := ["sheave/chacha.head", "sheave/chacha.round", "sheave/clamp.prime"], apart := false, laid := [("sheave/chacha.head", laid_sheave_chacha_head), ("sheave/chacha.round", laid_sheave_chacha_round), ("sheave/clamp.prime", laid_sheave_clamp_prime)] }
def AeadBackSaid : Prop := aeadBackRow.holds Tryd.pinned (OpenSpec.ofChange aeadBackSpec)

/-- ITS FALSE NEIGHBOUR: 'it returns false'. Refute it at one input. -/
def aeadBackWrong : ChangeSpec := { name := "aeadBack", fn := fun _ => fun
  | [d1, d2] => { results := [.lit (.bool false)], args := [d1, d2] }
  | _ => none }
def AeadBackWrongFalsely : Prop := aeadBackRow.holds Tryd.pinned (OpenSpec.ofChange aeadBackWrong)

/-- 'sheavelaw07.AeadTurned': WHATEVER THE INPUT: true; the input reads as it did. -/
def aeadTurnedSpec : ChangeSpec := { name := "aeadTurned", fn := fun _ => fun
  | [d1, d2, d3] => { results := [.lit (.bool true)], args := [d1, d2, d3] }
  | _ => none }
def aeadTurnedRow : OpenClaim := { program := "ytebmbapaedlmiaadoor", sum := "6ed0963b39530420f4d624460a348a523df9d1beb225389f7bf9f361399de146", func := "sheave/sheavelaw07.AeadTurned", spec := "aeadTurned", inPlace := ["math/bits.Add64", "math/bits.Sub64"], named := ["sheave/chacha.head", "sheave/chacha.round", "sheave/clamp.prime"], apart := false, laid := [("sheave/chacha.head", laid_sheave_chacha_head), ("sheave/chacha.round", laid_sheave_chacha_round), ("sheave/clamp.prime", laid_sheave_clamp_prime)] }
def AeadTurnedSaid : Prop := aeadTurnedRow.holds Tryd.pinned (OpenSpec.ofChange aeadTurnedSpec)

/-- ITS FALSE NEIGHBOUR: 'it returns false'. Refute it at one input. -/
def aeadTurnedWrong : ChangeSpec := { name := "aeadTurned", fn := fun _ => fun
  | [d1, d2, d3] => { results := [.lit (.bool false)], args := [d1, d2, d3] }
  | _ => none }
def AeadTurnedWrongFalsely : Prop := aeadTurnedRow.holds Tryd.pinned (OpenSpec.ofChange aeadTurnedWrong)

/-- 'sheavelaw07.AeadBeside': WHATEVER THE INPUT: true; the input reads as it did. -/
def aeadBesideSpec : ChangeSpec := { name := "aeadBeside", fn := fun _ => fun
  | [d1, d2, d3] => { results := [.lit (.bool true)], args := [d1, d2, d3] }
  | _ => none }
def aeadBesideRow : OpenClaim := { program := "ytebmbapaedlmiaadoor", sum := "6ed0963b39530420f4d624460a348a523df9d1beb225389f7bf9f361399de146", func := "sheave/sheavelaw07.AeadBeside", spec := "aeadBeside", inPlace := ["math/bits.Add64", "math/bits.Sub64"], named := ["sheave/chacha.head", "sheave/chacha.round", "sheave/clamp.prime"], apart := false, laid := [("sheave/chacha.head", laid_sheave_chacha_head), ("sheave/chacha.round", laid_sheave_chacha_round), ("sheave/clamp.prime", laid_sheave_clamp_prime)] }
def AeadBesideSaid : Prop := aeadBesideRow.holds Tryd.pinned (OpenSpec.ofChange aeadBesideSpec)

/-- ITS FALSE NEIGHBOUR: 'it returns false'. Refute it at one input. -/
def aeadBesideWrong : ChangeSpec := { name := "aeadBeside", fn := fun _ => fun
  | [d1, d2, d3] => { results := [.lit (.bool false)], args := [d1, d2, d3] }
  | _ => none }
def AeadBesideWrongFalsely : Prop := aeadBesideRow.holds Tryd.pinned (OpenSpec.ofChange aeadBesideWrong)

/- THE SECOND FORM. 'bulk': how many values and letters a reading holds, each counted each time it is reached (what is shared counts as often as it is met; a slice's spare places count too). A statement '..UptoSaid' is the law's where the arguments, and the package variables that the reading takes, are together of bulk at most 1048576: NARROWER than '..Said'. Prove '..Said' where nothing that the law and all that it calls make is longer than what came in: it says more and counts as full. Else prove '..UptoSaid'. A law counts once. -/
mutual
def uptoBulk {H : Type} : DataW H → Nat
  | .lit (.string bytes) => bytes.length + 1
  | .lit _ => 1
  | .nil => 1
  | .ptr d => uptoBulk d + 1
  | .slice elems spare => uptoBulkAll elems + uptoBulkAll spare + 1
  | .agg parts => uptoBulkAll parts + 1
  | .iface _ d => uptoBulk d + 1
  | .map entries => uptoBulkEntries entries + 1
  | .held _ => 1
def uptoBulkAll {H : Type} : List (DataW H) → Nat
  | [] => 0
  | d :: r => uptoBulk d + uptoBulkAll r
def uptoBulkEntries {H : Type} : List (Lit × DataW H) → Nat
  | [] => 0
  | x :: r => uptoBulkEntry x + uptoBulkEntries r
def uptoBulkEntry {H : Type} : Lit × DataW H → Nat
  | (.string bytes, d) => bytes.length + uptoBulk d + 1
  | (_, d) => uptoBulk d + 1
 end
def uptoSmall : (H : Type) → List (DataW H) → Bool := fun _ ds => decide (uptoBulkAll ds ≤ 1048576)
def OpenSpec.upto (s : _root_.Go.ChangeSpec) : _root_.Go.OpenSpec := { _root_.Go.OpenSpec.ofChange s with cond := some uptoSmall }

/-- 'sheavelaw07.AeadSeals', WHERE WHAT IT READS IS OF BULK AT MOST 1048576: true; the input reads as it did. -/
def aeadSealsUptoRow : OpenClaim := { program := "ytebmbapaedlmiaadoor", sum := "6ed0963b39530420f4d624460a348a523df9d1beb225389f7bf9f361399de146", func := "sheave/sheavelaw07.AeadSeals", spec := "aeadSeals", inPlace := ["math/bits.Add64", "math/bits.Sub64"], named := ["sheave/chacha.head", "sheave/chacha.round", "sheave/clamp.prime"], apart := false, laid := [("sheave/chacha.head", laid_sheave_chacha_head), ("sheave/chacha.round", laid_sheave_chacha_round), ("sheave/clamp.prime", laid_sheave_clamp_prime)], narrowed := true }
def AeadSealsUptoSaid : Prop := aeadSealsUptoRow.holds Tryd.pinned (OpenSpec.upto aeadSealsSpec)

/-- 'sheavelaw07.AeadOpens', WHERE WHAT IT READS IS OF BULK AT MOST 1048576: true; the input reads as it did. -/
def aeadOpensUptoRow : OpenClaim := { program := "ytebmbapaedlmiaadoor", sum := "6ed0963b39530420f4d624460a348a523df9d1beb225389f7bf9f361399de146", func := "sheave/sheavelaw07.AeadOpens", spec := "aeadOpens", inPlace := ["math/bits.Add64", "math/bits.Sub64"], named := ["sheave/chacha.head", "sheave/chacha.round", "sheave/clamp.prime"], apart := false, laid := [("sheave/chacha.head", laid_sheave_chacha_head), ("sheave/chacha.round", laid_sheave_chacha_round), ("sheave/clamp.prime", laid_sheave_clamp_prime)], narrowed := true }
def AeadOpensUptoSaid : Prop := aeadOpensUptoRow.holds Tryd.pinned (OpenSpec.upto aeadOpensSpec)

/-- 'sheavelaw07.AeadBack', WHERE WHAT IT READS IS OF BULK AT MOST 1048576: true; the input reads as it did. -/
def aeadBackUptoRow : OpenClaim := { program := "ytebmbapaedlmiaadoor", sum := "6ed0963b39530420f4d624460a348a523df9d1beb225389f7bf9f361399de146", func := "sheave/sheavelaw07.AeadBack", spec := "aeadBack", inPlace := ["math/bits.Add64", "math/bits.Sub64"], named := ["sheave/chacha.head", "sheave/chacha.round", "sheave/clamp.prime"], apart := false, laid := [("sheave/chacha.head", laid_sheave_chacha_head), ("sheave/chacha.round", laid_sheave_chacha_round), ("sheave/clamp.prime", laid_sheave_clamp_prime)], narrowed := true }
def AeadBackUptoSaid : Prop := aeadBackUptoRow.holds Tryd.pinned (OpenSpec.upto aeadBackSpec)

/-- 'sheavelaw07.AeadTurned', WHERE WHAT IT READS IS OF BULK AT MOST 1048576: true; the input reads as it did. -/
def aeadTurnedUptoRow : OpenClaim := { program := "ytebmbapaedlmiaadoor", sum := "6ed0963b39530420f4d624460a348a523df9d1beb225389f7bf9f361399de146", func := "sheave/sheavelaw07.AeadTurned", spec := "aeadTurned", inPlace := ["math/bits.Add64", "math/bits.Sub64"], named := ["sheave/chacha.head", "sheave/chacha.round", "sheave/clamp.prime"], apart := false, laid := [("sheave/chacha.head", laid_sheave_chacha_head), ("sheave/chacha.round", laid_sheave_chacha_round), ("sheave/clamp.prime", laid_sheave_clamp_prime)], narrowed := true }
def AeadTurnedUptoSaid : Prop := aeadTurnedUptoRow.holds Tryd.pinned (OpenSpec.upto aeadTurnedSpec)

/-- 'sheavelaw07.AeadBeside', WHERE WHAT IT READS IS OF BULK AT MOST 1048576: true; the input reads as it did. -/
def aeadBesideUptoRow : OpenClaim := { program := "ytebmbapaedlmiaadoor", sum := "6ed0963b39530420f4d624460a348a523df9d1beb225389f7bf9f361399de146", func := "sheave/sheavelaw07.AeadBeside", spec := "aeadBeside", inPlace := ["math/bits.Add64", "math/bits.Sub64"], named := ["sheave/chacha.head", "sheave/chacha.round", "sheave/clamp.prime"], apart := false, laid := [("sheave/chacha.head", laid_sheave_chacha_head), ("sheave/chacha.round", laid_sheave_chacha_round), ("sheave/clamp.prime", laid_sheave_clamp_prime)], narrowed := true }
def AeadBesideUptoSaid : Prop := aeadBesideUptoRow.holds Tryd.pinned (OpenSpec.upto aeadBesideSpec)

end Rows
end Go.Proofs.YtebmbapaedlmiaaDoor
