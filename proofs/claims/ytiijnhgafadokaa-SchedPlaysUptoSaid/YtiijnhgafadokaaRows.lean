/-
  No cell of these rows narrows 'for every input' (looked for: loops, veiled, ifaces, maps, wideKeys, modest, calm, conditions, laid).
  DERIVED. THE GIVEN ROWS OF THIS SEAT. 12 by the template 'for every input the law returns true; each argument reads behind the call as it read before'; 0 by the template 'total and deterministic' (their statements: YtiijnhgafadokaaTotals.lean).
  GIVEN WITH THE SEED: the statements are not yours to turn. If you find one false, say at which input.
  Laid BY PROGRAM, IN A SANDBOX (cutbox-rows.mjs): the forced cells as the released guide's own fill.sh prints them over the translation dbf1af73e3138017… (all of the seat's roots in one cut). By AI agents, Wed Nov 11 2026. No macro, syntax, notation, axiom, sorry.
-/
import Derived.Test.YtiijnhgafadokaaChecked
import GoSem.Claim
import GoSem.ClaimJoined
import GoSem.ClaimMapViews
import Derived.JoinedTies
import Derived.KernelRfl
namespace Go.Proofs.Ytiijnhgafadokaa
/- THE CELL 'sum', in the pinned program and in every row, IS THE sha256 OF THE DUMP (.gsa) THAT YtiijnhgafadokaaProg.lean LOADS. Nothing in Lean hashes anything: it is a label: what it is worth is what the hold of that sum in a sandbox is worth. -/
noncomputable def Try.pinned : Pinned := { name := "ytiijnhgafadokaa", sum := "dbf1af73e3138017d4a52c38d84c9c0211eb6c1594c0d2282013cb3e1d1fe6eb", checked := Try.checked }
namespace Rows
def none {H : Type} : Left H := { results := [], args := [] }

/-- 'sheavelaw20.PathsOnce': WHATEVER THE INPUT: true; the input reads as it did. -/
def pathsOnceSpec : ChangeSpec := { name := "pathsOnce", fn := fun _ => fun
  | [d] => { results := [.lit (.bool true)], args := [d] }
  | _ => none }
def pathsOnceRow : OpenClaim := { program := "ytiijnhgafadokaa", sum := "dbf1af73e3138017d4a52c38d84c9c0211eb6c1594c0d2282013cb3e1d1fe6eb", func := "sheave/sheavelaw20.PathsOnce", spec := "pathsOnce", apart := false }
def PathsOnceSaid : Prop := pathsOnceRow.holds Try.pinned (OpenSpec.ofChange pathsOnceSpec)

/-- ITS FALSE NEIGHBOUR: 'it returns false'. Refute it at one input. -/
def pathsOnceWrong : ChangeSpec := { name := "pathsOnce", fn := fun _ => fun
  | [d] => { results := [.lit (.bool false)], args := [d] }
  | _ => none }
def PathsOnceWrongFalsely : Prop := pathsOnceRow.holds Try.pinned (OpenSpec.ofChange pathsOnceWrong)

/-- 'sheavelaw20.PathsTries': WHATEVER THE INPUT: true; the input reads as it did. -/
def pathsTriesSpec : ChangeSpec := { name := "pathsTries", fn := fun _ => fun
  | [d1, d2, d3] => { results := [.lit (.bool true)], args := [d1, d2, d3] }
  | _ => none }
def pathsTriesRow : OpenClaim := { program := "ytiijnhgafadokaa", sum := "dbf1af73e3138017d4a52c38d84c9c0211eb6c1594c0d2282013cb3e1d1fe6eb", func := "sheave/sheavelaw20.PathsTries", spec := "pathsTries", apart := false }
def PathsTriesSaid : Prop := pathsTriesRow.holds Try.pinned (OpenSpec.ofChange pathsTriesSpec)

/-- ITS FALSE NEIGHBOUR: 'it returns false'. Refute it at one input. -/
def pathsTriesWrong : ChangeSpec := { name := "pathsTries", fn := fun _ => fun
  | [d1, d2, d3] => { results := [.lit (.bool false)], args := [d1, d2, d3] }
  | _ => none }
def PathsTriesWrongFalsely : Prop := pathsTriesRow.holds Try.pinned (OpenSpec.ofChange pathsTriesWrong)

/-- 'sheavelaw20.PathsEstimates': WHATEVER THE INPUT: true; the input reads as it did. -/
def pathsEstimatesSpec : ChangeSpec := { name := "pathsEstimates", fn := fun _ => fun
  | [d] => { results := [.lit (.bool true)], args := [d] }
  | _ => none }
def pathsEstimatesRow : OpenClaim := { program := "ytiijnhgafadokaa", sum := "dbf1af73e3138017d4a52c38d84c9c0211eb6c1594c0d2282013cb3e1d1fe6eb", func := "sheave/sheavelaw20.PathsEstimates", spec := "pathsEstimates", apart := false }
def PathsEstimatesSaid : Prop := pathsEstimatesRow.holds Try.pinned (OpenSpec.ofChange pathsEstimatesSpec)

/-- ITS FALSE NEIGHBOUR: 'it returns false'. Refute it at one input. -/
def pathsEstimatesWrong : ChangeSpec := { name := "pathsEstimates", fn := fun _ => fun
  | [d] => { results := [.lit (.bool false)], args := [d] }
  | _ => none }
def PathsEstimatesWrongFalsely : Prop := pathsEstimatesRow.holds Try.pinned (OpenSpec.ofChange pathsEstimatesWrong)

/-- 'sheavelaw14.WindowOnce': WHATEVER THE INPUT: true; the input reads as it did. -/
def windowOnceSpec : ChangeSpec := { name := "windowOnce", fn := fun _ => fun
  | [d] => { results := [.lit (.bool true)], args := [d] }
  | _ => none }
def windowOnceRow : OpenClaim := { program := "ytiijnhgafadokaa", sum := "dbf1af73e3138017d4a52c38d84c9c0211eb6c1594c0d2282013cb3e1d1fe6eb", func := "sheave/sheavelaw14.WindowOnce", spec := "windowOnce", apart := false }
def WindowOnceSaid : Prop := windowOnceRow.holds Try.pinned (OpenSpec.ofChange windowOnceSpec)

/-- ITS FALSE NEIGHBOUR: 'it returns false'. Refute it at one input. -/
def windowOnceWrong : ChangeSpec := { name := "windowOnce", fn := fun _ => fun
  | [d] => { results := [.lit (.bool false)], args := [d] }
  | _ => none }
def WindowOnceWrongFalsely : Prop := windowOnceRow.holds Try.pinned (OpenSpec.ofChange windowOnceWrong)

/-- 'sheavelaw14.WindowRows': WHATEVER THE INPUT: true; the input reads as it did. -/
def windowRowsSpec : ChangeSpec := { name := "windowRows", fn := fun _ => fun
  | [d1, d2] => { results := [.lit (.bool true)], args := [d1, d2] }
  | _ => none }
def windowRowsRow : OpenClaim := { program := "ytiijnhgafadokaa", sum := "dbf1af73e3138017d4a52c38d84c9c0211eb6c1594c0d2282013cb3e1d1fe6eb", func := "sheave/sheavelaw14.WindowRows", spec := "windowRows", apart := false }
def WindowRowsSaid : Prop := windowRowsRow.holds Try.pinned (OpenSpec.ofChange windowRowsSpec)

/-- ITS FALSE NEIGHBOUR: 'it returns false'. Refute it at one input. -/
def windowRowsWrong : ChangeSpec := { name := "windowRows", fn := fun _ => fun
  | [d1, d2] => { results := [.lit (.bool false)], args := [d1, d2] }
  | _ => none }
def WindowRowsWrongFalsely : Prop := windowRowsRow.holds Try.pinned (OpenSpec.ofChange windowRowsWrong)

/-- 'sheavelaw14.WindowOrder': WHATEVER THE INPUT: true; the input reads as it did. -/
def windowOrderSpec : ChangeSpec := { name := "windowOrder", fn := fun _ => fun
  | [d1, d2] => { results := [.lit (.bool true)], args := [d1, d2] }
  | _ => none }
def windowOrderRow : OpenClaim := { program := "ytiijnhgafadokaa", sum := "dbf1af73e3138017d4a52c38d84c9c0211eb6c1594c0d2282013cb3e1d1fe6eb", func := "sheave/sheavelaw14.WindowOrder", spec := "windowOrder", apart := false }
def WindowOrderSaid : Prop := windowOrderRow.holds Try.pinned (OpenSpec.ofChange windowOrderSpec)

/-- ITS FALSE NEIGHBOUR: 'it returns false'. Refute it at one input. -/
def windowOrderWrong : ChangeSpec := { name := "windowOrder", fn := fun _ => fun
  | [d1, d2] => { results := [.lit (.bool false)], args := [d1, d2] }
  | _ => none }
def WindowOrderWrongFalsely : Prop := windowOrderRow.holds Try.pinned (OpenSpec.ofChange windowOrderWrong)

/-- 'sheavelaw14.WindowPlays': WHATEVER THE INPUT: true; the input reads as it did. -/
def windowPlaysSpec : ChangeSpec := { name := "windowPlays", fn := fun _ => fun
  | [d1, d2, d3] => { results := [.lit (.bool true)], args := [d1, d2, d3] }
  | _ => none }
def windowPlaysRow : OpenClaim := { program := "ytiijnhgafadokaa", sum := "dbf1af73e3138017d4a52c38d84c9c0211eb6c1594c0d2282013cb3e1d1fe6eb", func := "sheave/sheavelaw14.WindowPlays", spec := "windowPlays", apart := false }
def WindowPlaysSaid : Prop := windowPlaysRow.holds Try.pinned (OpenSpec.ofChange windowPlaysSpec)

/-- ITS FALSE NEIGHBOUR: 'it returns false'. Refute it at one input. -/
def windowPlaysWrong : ChangeSpec := { name := "windowPlays", fn := fun _ => fun
  | [d1, d2, d3] => { results := [.lit (.bool false)], args := [d1, d2, d3] }
  | _ => none }
def WindowPlaysWrongFalsely : Prop := windowPlaysRow.holds Try.pinned (OpenSpec.ofChange windowPlaysWrong)

/-- 'sheavelaw21.SchedTurns': WHATEVER THE INPUT: true; the input reads as it did. -/
def schedTurnsSpec : ChangeSpec := { name := "schedTurns", fn := fun _ => fun
  | [d1, d2] => { results := [.lit (.bool true)], args := [d1, d2] }
  | _ => none }
def schedTurnsRow : OpenClaim := { program := "ytiijnhgafadokaa", sum := "dbf1af73e3138017d4a52c38d84c9c0211eb6c1594c0d2282013cb3e1d1fe6eb", func := "sheave/sheavelaw21.SchedTurns", spec := "schedTurns", unfollowed := true, recurses := true, apart := false }
def SchedTurnsSaid : Prop := schedTurnsRow.holds Try.pinned (OpenSpec.ofChange schedTurnsSpec)

/-- ITS FALSE NEIGHBOUR: 'it returns false'. Refute it at one input. -/
def schedTurnsWrong : ChangeSpec := { name := "schedTurns", fn := fun _ => fun
  | [d1, d2] => { results := [.lit (.bool false)], args := [d1, d2] }
  | _ => none }
def SchedTurnsWrongFalsely : Prop := schedTurnsRow.holds Try.pinned (OpenSpec.ofChange schedTurnsWrong)

/-- 'sheavelaw21.SchedGrows': WHATEVER THE INPUT: true; the input reads as it did. -/
def schedGrowsSpec : ChangeSpec := { name := "schedGrows", fn := fun _ => fun
  | [d] => { results := [.lit (.bool true)], args := [d] }
  | _ => none }
def schedGrowsRow : OpenClaim := { program := "ytiijnhgafadokaa", sum := "dbf1af73e3138017d4a52c38d84c9c0211eb6c1594c0d2282013cb3e1d1fe6eb", func := "sheave/sheavelaw21.SchedGrows", spec := "schedGrows", unfollowed := true, recurses := true, apart := false }
def SchedGrowsSaid : Prop := schedGrowsRow.holds Try.pinned (OpenSpec.ofChange schedGrowsSpec)

/-- ITS FALSE NEIGHBOUR: 'it returns false'. Refute it at one input. -/
def schedGrowsWrong : ChangeSpec := { name := "schedGrows", fn := fun _ => fun
  | [d] => { results := [.lit (.bool false)], args := [d] }
  | _ => none }
def SchedGrowsWrongFalsely : Prop := schedGrowsRow.holds Try.pinned (OpenSpec.ofChange schedGrowsWrong)

/-- 'sheavelaw21.SchedFastest': WHATEVER THE INPUT: true; the input reads as it did. -/
def schedFastestSpec : ChangeSpec := { name := "schedFastest", fn := fun _ => fun
  | [d] => { results := [.lit (.bool true)], args := [d] }
  | _ => none }
def schedFastestRow : OpenClaim := { program := "ytiijnhgafadokaa", sum := "dbf1af73e3138017d4a52c38d84c9c0211eb6c1594c0d2282013cb3e1d1fe6eb", func := "sheave/sheavelaw21.SchedFastest", spec := "schedFastest", unfollowed := true, recurses := true, apart := false }
def SchedFastestSaid : Prop := schedFastestRow.holds Try.pinned (OpenSpec.ofChange schedFastestSpec)

/-- ITS FALSE NEIGHBOUR: 'it returns false'. Refute it at one input. -/
def schedFastestWrong : ChangeSpec := { name := "schedFastest", fn := fun _ => fun
  | [d] => { results := [.lit (.bool false)], args := [d] }
  | _ => none }
def SchedFastestWrongFalsely : Prop := schedFastestRow.holds Try.pinned (OpenSpec.ofChange schedFastestWrong)

/-- 'sheavelaw21.SchedOnce': WHATEVER THE INPUT: true; the input reads as it did. -/
def schedOnceSpec : ChangeSpec := { name := "schedOnce", fn := fun _ => fun
  | [d] => { results := [.lit (.bool true)], args := [d] }
  | _ => none }
def schedOnceRow : OpenClaim := { program := "ytiijnhgafadokaa", sum := "dbf1af73e3138017d4a52c38d84c9c0211eb6c1594c0d2282013cb3e1d1fe6eb", func := "sheave/sheavelaw21.SchedOnce", spec := "schedOnce", unfollowed := true, recurses := true, apart := false }
def SchedOnceSaid : Prop := schedOnceRow.holds Try.pinned (OpenSpec.ofChange schedOnceSpec)

/-- ITS FALSE NEIGHBOUR: 'it returns false'. Refute it at one input. -/
def schedOnceWrong : ChangeSpec := { name := "schedOnce", fn := fun _ => fun
  | [d] => { results := [.lit (.bool false)], args := [d] }
  | _ => none }
def SchedOnceWrongFalsely : Prop := schedOnceRow.holds Try.pinned (OpenSpec.ofChange schedOnceWrong)

/-- 'sheavelaw21.SchedPlays': WHATEVER THE INPUT: true; the input reads as it did. -/
def schedPlaysSpec : ChangeSpec := { name := "schedPlays", fn := fun _ => fun
  | [d1, d2] => { results := [.lit (.bool true)], args := [d1, d2] }
  | _ => none }
def schedPlaysRow : OpenClaim := { program := "ytiijnhgafadokaa", sum := "dbf1af73e3138017d4a52c38d84c9c0211eb6c1594c0d2282013cb3e1d1fe6eb", func := "sheave/sheavelaw21.SchedPlays", spec := "schedPlays", unfollowed := true, recurses := true, apart := false }
def SchedPlaysSaid : Prop := schedPlaysRow.holds Try.pinned (OpenSpec.ofChange schedPlaysSpec)

/-- ITS FALSE NEIGHBOUR: 'it returns false'. Refute it at one input. -/
def schedPlaysWrong : ChangeSpec := { name := "schedPlays", fn := fun _ => fun
  | [d1, d2] => { results := [.lit (.bool false)], args := [d1, d2] }
  | _ => none }
def SchedPlaysWrongFalsely : Prop := schedPlaysRow.holds Try.pinned (OpenSpec.ofChange schedPlaysWrong)

/- THE SECOND FORM. 'bulk': how many values and letters a reading holds, each counted each time it is reached (what is shared counts as often as it is met; a slice's spare places count too). A statement '..UptoSaid' is the law's where the arguments, and the package variables that the reading takes, are together of bulk at most 1048576: NARROWER than '..Said'. Prove '..Said' where nothing that the law and all that it calls make is longer than what came in: it says more and counts as full. Else prove '..UptoSaid'. A law counts once. -/
mutual
def uptoBulk {H : Type} : DataW H → Nat
  | .lit (.string bytes) => bytes.length + 1
  | .lit _ => 1
  | .nil => 1
  | .ptr d => uptoBulk d + 1
  | .slice elems spare => uptoBulkAll elems + uptoBulkAll spare + 1
  | .agg parts => uptoBulkAll parts + 1
  | .iface _ d => uptoBulk d + 1
  | .map entries => uptoBulkEntries entries + 1
  | .held _ => 1
def uptoBulkAll {H : Type} : List (DataW H) → Nat
  | [] => 0
  | d :: r => uptoBulk d + uptoBulkAll r
def uptoBulkEntries {H : Type} : List (Lit × DataW H) → Nat
  | [] => 0
  | x :: r => uptoBulkEntry x + uptoBulkEntries r
def uptoBulkEntry {H : Type} : Lit × DataW H → Nat
  | (.string bytes, d) => bytes.length + uptoBulk d + 1
  | (_, d) => uptoBulk d + 1
 end
def uptoSmall : (H : Type) → List (DataW H) → Bool := fun _ ds => decide (uptoBulkAll ds ≤ 1048576)
def OpenSpec.upto (s : _root_.Go.ChangeSpec) : _root_.Go.OpenSpec := { _root_.Go.OpenSpec.ofChange s with cond := some uptoSmall }

/-- 'sheavelaw20.PathsOnce', WHERE WHAT IT READS IS OF BULK AT MOST 1048576: true; the input reads as it did. -/
def pathsOnceUptoRow : OpenClaim := { program := "ytiijnhgafadokaa", sum := "dbf1af73e3138017d4a52c38d84c9c0211eb6c1594c0d2282013cb3e1d1fe6eb", func := "sheave/sheavelaw20.PathsOnce", spec := "pathsOnce", apart := false, narrowed := true }
def PathsOnceUptoSaid : Prop := pathsOnceUptoRow.holds Try.pinned (OpenSpec.upto pathsOnceSpec)

/-- 'sheavelaw20.PathsTries', WHERE WHAT IT READS IS OF BULK AT MOST 1048576: true; the input reads as it did. -/
def pathsTriesUptoRow : OpenClaim := { program := "ytiijnhgafadokaa", sum := "dbf1af73e3138017d4a52c38d84c9c0211eb6c1594c0d2282013cb3e1d1fe6eb", func := "sheave/sheavelaw20.PathsTries", spec := "pathsTries", apart := false, narrowed := true }
def PathsTriesUptoSaid : Prop := pathsTriesUptoRow.holds Try.pinned (OpenSpec.upto pathsTriesSpec)

/-- 'sheavelaw20.PathsEstimates', WHERE WHAT IT READS IS OF BULK AT MOST 1048576: true; the input reads as it did. -/
def pathsEstimatesUptoRow : OpenClaim := { program := "ytiijnhgafadokaa", sum := "dbf1af73e3138017d4a52c38d84c9c0211eb6c1594c0d2282013cb3e1d1fe6eb", func := "sheave/sheavelaw20.PathsEstimates", spec := "pathsEstimates", apart := false, narrowed := true }
def PathsEstimatesUptoSaid : Prop := pathsEstimatesUptoRow.holds Try.pinned (OpenSpec.upto pathsEstimatesSpec)

/-- 'sheavelaw14.WindowOnce', WHERE WHAT IT READS IS OF BULK AT MOST 1048576: true; the input reads as it did. -/
def windowOnceUptoRow : OpenClaim := { program := "ytiijnhgafadokaa", sum := "dbf1af73e3138017d4a52c38d84c9c0211eb6c1594c0d2282013cb3e1d1fe6eb", func := "sheave/sheavelaw14.WindowOnce", spec := "windowOnce", apart := false, narrowed := true }
def WindowOnceUptoSaid : Prop := windowOnceUptoRow.holds Try.pinned (OpenSpec.upto windowOnceSpec)

/-- 'sheavelaw14.WindowRows', WHERE WHAT IT READS IS OF BULK AT MOST 1048576: true; the input reads as it did. -/
def windowRowsUptoRow : OpenClaim := { program := "ytiijnhgafadokaa", sum := "dbf1af73e3138017d4a52c38d84c9c0211eb6c1594c0d2282013cb3e1d1fe6eb", func := "sheave/sheavelaw14.WindowRows", spec := "windowRows", apart := false, narrowed := true }
def WindowRowsUptoSaid : Prop := windowRowsUptoRow.holds Try.pinned (OpenSpec.upto windowRowsSpec)

/-- 'sheavelaw14.WindowOrder', WHERE WHAT IT READS IS OF BULK AT MOST 1048576: true; the input reads as it did. -/
def windowOrderUptoRow : OpenClaim := { program := "ytiijnhgafadokaa", sum := "dbf1af73e3138017d4a52c38d84c9c0211eb6c1594c0d2282013cb3e1d1fe6eb", func := "sheave/sheavelaw14.WindowOrder", spec := "windowOrder", apart := false, narrowed := true }
def WindowOrderUptoSaid : Prop := windowOrderUptoRow.holds Try.pinned (OpenSpec.upto windowOrderSpec)

/-- 'sheavelaw14.WindowPlays', WHERE WHAT IT READS IS OF BULK AT MOST 1048576: true; the input reads as it did. -/
def windowPlaysUptoRow : OpenClaim := { program := "ytiijnhgafadokaa", sum := "dbf1af73e3138017d4a52c38d84c9c0211eb6c1594c0d2282013cb3e1d1fe6eb", func := "sheave/sheavelaw14.WindowPlays", spec := "windowPlays", apart := false, narrowed := true }
def WindowPlaysUptoSaid : Prop := windowPlaysUptoRow.holds Try.pinned (OpenSpec.upto windowPlaysSpec)

/-- 'sheavelaw21.SchedTurns', WHERE WHAT IT READS IS OF BULK AT MOST 1048576: true; the input reads as it did. -/
def schedTurnsUptoRow : OpenClaim := { program := "ytiijnhgafadokaa", sum := "dbf1af73e3138017d4a52c38d84c9c0211eb6c1594c0d2282013cb3e1d1fe6eb", func := "sheave/sheavelaw21.SchedTurns", spec := "schedTurns", unfollowed := true, recurses := true, apart := false, narrowed := true }
def SchedTurnsUptoSaid : Prop := schedTurnsUptoRow.holds Try.pinned (OpenSpec.upto schedTurnsSpec)

/-- 'sheavelaw21.SchedGrows', WHERE WHAT IT READS IS OF BULK AT MOST 1048576: true; the input reads as it did. -/
def schedGrowsUptoRow : OpenClaim := { program := "ytiijnhgafadokaa", sum := "dbf1af73e3138017d4a52c38d84c9c0211eb6c1594c0d2282013cb3e1d1fe6eb", func := "sheave/sheavelaw21.SchedGrows", spec := "schedGrows", unfollowed := true, recurses := true, apart := false, narrowed := true }
def SchedGrowsUptoSaid : Prop := schedGrowsUptoRow.holds Try.pinned (OpenSpec.upto schedGrowsSpec)

/-- 'sheavelaw21.SchedFastest', WHERE WHAT IT READS IS OF BULK AT MOST 1048576: true; the input reads as it did. -/
def schedFastestUptoRow : OpenClaim := { program := "ytiijnhgafadokaa", sum := "dbf1af73e3138017d4a52c38d84c9c0211eb6c1594c0d2282013cb3e1d1fe6eb", func := "sheave/sheavelaw21.SchedFastest", spec := "schedFastest", unfollowed := true, recurses := true, apart := false, narrowed := true }
def SchedFastestUptoSaid : Prop := schedFastestUptoRow.holds Try.pinned (OpenSpec.upto schedFastestSpec)

/-- 'sheavelaw21.SchedOnce', WHERE WHAT IT READS IS OF BULK AT MOST 1048576: true; the input reads as it did. -/
def schedOnceUptoRow : OpenClaim := { program := "ytiijnhgafadokaa", sum := "dbf1af73e3138017d4a52c38d84c9c0211eb6c1594c0d2282013cb3e1d1fe6eb", func := "sheave/sheavelaw21.SchedOnce", spec := "schedOnce", unfollowed := true, recurses := true, apart := false, narrowed := true }
def SchedOnceUptoSaid : Prop := schedOnceUptoRow.holds Try.pinned (OpenSpec.upto schedOnceSpec)

/-- 'sheavelaw21.SchedPlays', WHERE WHAT IT READS IS OF BULK AT MOST 1048576: true; the input reads as it did. -/
def schedPlaysUptoRow : OpenClaim := { program := "ytiijnhgafadokaa", sum := "dbf1af73e3138017d4a52c38d84c9c0211eb6c1594c0d2282013cb3e1d1fe6eb", func := "sheave/sheavelaw21.SchedPlays", spec := "schedPlays", unfollowed := true, recurses := true, apart := false, narrowed := true }
def SchedPlaysUptoSaid : Prop := schedPlaysUptoRow.holds Try.pinned (OpenSpec.upto schedPlaysSpec)

end Rows
end Go.Proofs.Ytiijnhgafadokaa
