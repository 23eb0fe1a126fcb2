/-
  No cell of these rows narrows 'for every input' (looked for: loops, veiled, ifaces, maps, wideKeys, modest, calm, conditions, laid).
  DERIVED. THE GIVEN ROWS OF THIS SEAT. 11 by the template 'for every input the law returns true; each argument reads behind the call as it read before'; 0 by the template 'total and deterministic' (their statements: YtlkbfacdaelbfaaTotals.lean).
  GIVEN WITH THE SEED: the statements are not yours to turn. If you find one false, say at which input.
  Laid BY PROGRAM, IN A SANDBOX (cutbox-rows.mjs): the forced cells as the released guide's own fill.sh prints them over the translation 4e0ddc008f66b15a… (all of the seat's roots in one cut). By AI agents, Wed Nov 11 2026. No macro, syntax, notation, axiom, sorry.
-/
import Derived.Test.YtlkbfacdaelbfaaChecked
import GoSem.Claim
import GoSem.ClaimJoined
import GoSem.ClaimMapViews
import Derived.JoinedTies
import Derived.KernelRfl
namespace Go.Proofs.Ytlkbfacdaelbfaa
/- THE CELL 'sum', in the pinned program and in every row, IS THE sha256 OF THE DUMP (.gsa) THAT YtlkbfacdaelbfaaProg.lean LOADS. Nothing in Lean hashes anything: it is a label: what it is worth is what the hold of that sum in a sandbox is worth. -/
noncomputable def Try.pinned : Pinned := { name := "ytlkbfacdaelbfaa", sum := "4e0ddc008f66b15a3a604cf78eee2719bca2326ac7510aa4a0be9d80cce134bc", checked := Try.checked }
namespace Rows
def none {H : Type} : Left H := { results := [], args := [] }

/-- 'sheavelaw17.RangesOrder': WHATEVER THE INPUT: true; the input reads as it did. -/
def rangesOrderSpec : ChangeSpec := { name := "rangesOrder", fn := fun _ => fun
  | [d1, d2] => { results := [.lit (.bool true)], args := [d1, d2] }
  | _ => none }
def rangesOrderRow : OpenClaim := { program := "ytlkbfacdaelbfaa", sum := "4e0ddc008f66b15a3a604cf78eee2719bca2326ac7510aa4a0be9d80cce134bc", func := "sheave/sheavelaw17.RangesOrder", spec := "rangesOrder", inPlace := ["slices.overlaps[sheave/api.Range]"], unfollowed := true, recurses := true, apart := false }
def RangesOrderSaid : Prop := rangesOrderRow.holds Try.pinned (OpenSpec.ofChange rangesOrderSpec)

/-- ITS FALSE NEIGHBOUR: 'it returns false'. Refute it at one input. -/
def rangesOrderWrong : ChangeSpec := { name := "rangesOrder", fn := fun _ => fun
  | [d1, d2] => { results := [.lit (.bool false)], args := [d1, d2] }
  | _ => none }
def RangesOrderWrongFalsely : Prop := rangesOrderRow.holds Try.pinned (OpenSpec.ofChange rangesOrderWrong)

/-- 'sheavelaw17.RangesGaps': WHATEVER THE INPUT: true; the input reads as it did. -/
def rangesGapsSpec : ChangeSpec := { name := "rangesGaps", fn := fun _ => fun
  | [d1, d2, d3] => { results := [.lit (.bool true)], args := [d1, d2, d3] }
  | _ => none }
def rangesGapsRow : OpenClaim := { program := "ytlkbfacdaelbfaa", sum := "4e0ddc008f66b15a3a604cf78eee2719bca2326ac7510aa4a0be9d80cce134bc", func := "sheave/sheavelaw17.RangesGaps", spec := "rangesGaps", inPlace := ["slices.overlaps[sheave/api.Range]"], unfollowed := true, recurses := true, apart := false }
def RangesGapsSaid : Prop := rangesGapsRow.holds Try.pinned (OpenSpec.ofChange rangesGapsSpec)

/-- ITS FALSE NEIGHBOUR: 'it returns false'. Refute it at one input. -/
def rangesGapsWrong : ChangeSpec := { name := "rangesGaps", fn := fun _ => fun
  | [d1, d2, d3] => { results := [.lit (.bool false)], args := [d1, d2, d3] }
  | _ => none }
def RangesGapsWrongFalsely : Prop := rangesGapsRow.holds Try.pinned (OpenSpec.ofChange rangesGapsWrong)

/-- 'sheavelaw17.RangesPlays': WHATEVER THE INPUT: true; the input reads as it did. -/
def rangesPlaysSpec : ChangeSpec := { name := "rangesPlays", fn := fun _ => fun
  | [d] => { results := [.lit (.bool true)], args := [d] }
  | _ => none }
def rangesPlaysRow : OpenClaim := { program := "ytlkbfacdaelbfaa", sum := "4e0ddc008f66b15a3a604cf78eee2719bca2326ac7510aa4a0be9d80cce134bc", func := "sheave/sheavelaw17.RangesPlays", spec := "rangesPlays", inPlace := ["slices.overlaps[sheave/api.Range]"], unfollowed := true, recurses := true, apart := false }
def RangesPlaysSaid : Prop := rangesPlaysRow.holds Try.pinned (OpenSpec.ofChange rangesPlaysSpec)

/-- ITS FALSE NEIGHBOUR: 'it returns false'. Refute it at one input. -/
def rangesPlaysWrong : ChangeSpec := { name := "rangesPlays", fn := fun _ => fun
  | [d] => { results := [.lit (.bool false)], args := [d] }
  | _ => none }
def RangesPlaysWrongFalsely : Prop := rangesPlaysRow.holds Try.pinned (OpenSpec.ofChange rangesPlaysWrong)

/-- 'sheavelaw19.InboxOrder': WHATEVER THE INPUT: true; the input reads as it did. -/
def inboxOrderSpec : ChangeSpec := { name := "inboxOrder", fn := fun _ => fun
  | [d1, d2, d3] => { results := [.lit (.bool true)], args := [d1, d2, d3] }
  | _ => none }
def inboxOrderRow : OpenClaim := { program := "ytlkbfacdaelbfaa", sum := "4e0ddc008f66b15a3a604cf78eee2719bca2326ac7510aa4a0be9d80cce134bc", func := "sheave/sheavelaw19.InboxOrder", spec := "inboxOrder", inPlace := ["slices.overlaps[sheave/api.Range]"], unfollowed := true, recurses := true, apart := false }
def InboxOrderSaid : Prop := inboxOrderRow.holds Try.pinned (OpenSpec.ofChange inboxOrderSpec)

/-- ITS FALSE NEIGHBOUR: 'it returns false'. Refute it at one input. -/
def inboxOrderWrong : ChangeSpec := { name := "inboxOrder", fn := fun _ => fun
  | [d1, d2, d3] => { results := [.lit (.bool false)], args := [d1, d2, d3] }
  | _ => none }
def InboxOrderWrongFalsely : Prop := inboxOrderRow.holds Try.pinned (OpenSpec.ofChange inboxOrderWrong)

/-- 'sheavelaw19.InboxBounds': WHATEVER THE INPUT: true; the input reads as it did. -/
def inboxBoundsSpec : ChangeSpec := { name := "inboxBounds", fn := fun _ => fun
  | [d1, d2] => { results := [.lit (.bool true)], args := [d1, d2] }
  | _ => none }
def inboxBoundsRow : OpenClaim := { program := "ytlkbfacdaelbfaa", sum := "4e0ddc008f66b15a3a604cf78eee2719bca2326ac7510aa4a0be9d80cce134bc", func := "sheave/sheavelaw19.InboxBounds", spec := "inboxBounds", inPlace := ["slices.overlaps[sheave/api.Range]"], unfollowed := true, recurses := true, apart := false }
def InboxBoundsSaid : Prop := inboxBoundsRow.holds Try.pinned (OpenSpec.ofChange inboxBoundsSpec)

/-- ITS FALSE NEIGHBOUR: 'it returns false'. Refute it at one input. -/
def inboxBoundsWrong : ChangeSpec := { name := "inboxBounds", fn := fun _ => fun
  | [d1, d2] => { results := [.lit (.bool false)], args := [d1, d2] }
  | _ => none }
def InboxBoundsWrongFalsely : Prop := inboxBoundsRow.holds Try.pinned (OpenSpec.ofChange inboxBoundsWrong)

/-- 'sheavelaw19.InboxCounts': WHATEVER THE INPUT: true; the input reads as it did. -/
def inboxCountsSpec : ChangeSpec := { name := "inboxCounts", fn := fun _ => fun
  | [d] => { results := [.lit (.bool true)], args := [d] }
  | _ => none }
def inboxCountsRow : OpenClaim := { program := "ytlkbfacdaelbfaa", sum := "4e0ddc008f66b15a3a604cf78eee2719bca2326ac7510aa4a0be9d80cce134bc", func := "sheave/sheavelaw19.InboxCounts", spec := "inboxCounts", inPlace := ["slices.overlaps[sheave/api.Range]"], unfollowed := true, recurses := true, apart := false }
def InboxCountsSaid : Prop := inboxCountsRow.holds Try.pinned (OpenSpec.ofChange inboxCountsSpec)

/-- ITS FALSE NEIGHBOUR: 'it returns false'. Refute it at one input. -/
def inboxCountsWrong : ChangeSpec := { name := "inboxCounts", fn := fun _ => fun
  | [d] => { results := [.lit (.bool false)], args := [d] }
  | _ => none }
def InboxCountsWrongFalsely : Prop := inboxCountsRow.holds Try.pinned (OpenSpec.ofChange inboxCountsWrong)

/-- 'sheavelaw18.OutboxArrives': WHATEVER THE INPUT: true; the input reads as it did. -/
def outboxArrivesSpec : ChangeSpec := { name := "outboxArrives", fn := fun _ => fun
  | [d1, d2, d3] => { results := [.lit (.bool true)], args := [d1, d2, d3] }
  | _ => none }
def outboxArrivesRow : OpenClaim := { program := "ytlkbfacdaelbfaa", sum := "4e0ddc008f66b15a3a604cf78eee2719bca2326ac7510aa4a0be9d80cce134bc", func := "sheave/sheavelaw18.OutboxArrives", spec := "outboxArrives", inPlace := ["slices.overlaps[sheave/api.Range]"], unfollowed := true, recurses := true, apart := false }
def OutboxArrivesSaid : Prop := outboxArrivesRow.holds Try.pinned (OpenSpec.ofChange outboxArrivesSpec)

/-- ITS FALSE NEIGHBOUR: 'it returns false'. Refute it at one input. -/
def outboxArrivesWrong : ChangeSpec := { name := "outboxArrives", fn := fun _ => fun
  | [d1, d2, d3] => { results := [.lit (.bool false)], args := [d1, d2, d3] }
  | _ => none }
def OutboxArrivesWrongFalsely : Prop := outboxArrivesRow.holds Try.pinned (OpenSpec.ofChange outboxArrivesWrong)

/-- 'sheavelaw18.OutboxBytes': WHATEVER THE INPUT: true; the input reads as it did. -/
def outboxBytesSpec : ChangeSpec := { name := "outboxBytes", fn := fun _ => fun
  | [d1, d2] => { results := [.lit (.bool true)], args := [d1, d2] }
  | _ => none }
def outboxBytesRow : OpenClaim := { program := "ytlkbfacdaelbfaa", sum := "4e0ddc008f66b15a3a604cf78eee2719bca2326ac7510aa4a0be9d80cce134bc", func := "sheave/sheavelaw18.OutboxBytes", spec := "outboxBytes", inPlace := ["slices.overlaps[sheave/api.Range]"], unfollowed := true, recurses := true, apart := false }
def OutboxBytesSaid : Prop := outboxBytesRow.holds Try.pinned (OpenSpec.ofChange outboxBytesSpec)

/-- ITS FALSE NEIGHBOUR: 'it returns false'. Refute it at one input. -/
def outboxBytesWrong : ChangeSpec := { name := "outboxBytes", fn := fun _ => fun
  | [d1, d2] => { results := [.lit (.bool false)], args := [d1, d2] }
  | _ => none }
def OutboxBytesWrongFalsely : Prop := outboxBytesRow.holds Try.pinned (OpenSpec.ofChange outboxBytesWrong)

/-- 'sheavelaw19.InboxPlays': WHATEVER THE INPUT: true; the input reads as it did. -/
def inboxPlaysSpec : ChangeSpec := { name := "inboxPlays", fn := fun _ => fun
  | [d1, d2] => { results := [.lit (.bool true)], args := [d1, d2] }
  | _ => none }
def inboxPlaysRow : OpenClaim := { program := "ytlkbfacdaelbfaa", sum := "4e0ddc008f66b15a3a604cf78eee2719bca2326ac7510aa4a0be9d80cce134bc", func := "sheave/sheavelaw19.InboxPlays", spec := "inboxPlays", inPlace := ["slices.overlaps[sheave/api.Range]"], unfollowed := true, recurses := true, apart := false }
def InboxPlaysSaid : Prop := inboxPlaysRow.holds Try.pinned (OpenSpec.ofChange inboxPlaysSpec)

/-- ITS FALSE NEIGHBOUR: 'it returns false'. Refute it at one input. -/
def inboxPlaysWrong : ChangeSpec := { name := "inboxPlays", fn := fun _ => fun
  | [d1, d2] => { results := [.lit (.bool false)], args := [d1, d2] }
  | _ => none }
def InboxPlaysWrongFalsely : Prop := inboxPlaysRow.holds Try.pinned (OpenSpec.ofChange inboxPlaysWrong)

/-- 'sheavelaw18.OutboxLimits': WHATEVER THE INPUT: true; the input reads as it did. -/
def outboxLimitsSpec : ChangeSpec := { name := "outboxLimits", fn := fun _ => fun
  | [d1, d2] => { results := [.lit (.bool true)], args := [d1, d2] }
  | _ => none }
def outboxLimitsRow : OpenClaim := { program := "ytlkbfacdaelbfaa", sum := "4e0ddc008f66b15a3a604cf78eee2719bca2326ac7510aa4a0be9d80cce134bc", func := "sheave/sheavelaw18.OutboxLimits", spec := "outboxLimits", inPlace := ["slices.overlaps[sheave/api.Range]"], unfollowed := true, recurses := true, apart := false }
def OutboxLimitsSaid : Prop := outboxLimitsRow.holds Try.pinned (OpenSpec.ofChange outboxLimitsSpec)

/-- ITS FALSE NEIGHBOUR: 'it returns false'. Refute it at one input. -/
def outboxLimitsWrong : ChangeSpec := { name := "outboxLimits", fn := fun _ => fun
  | [d1, d2] => { results := [.lit (.bool false)], args := [d1, d2] }
  | _ => none }
def OutboxLimitsWrongFalsely : Prop := outboxLimitsRow.holds Try.pinned (OpenSpec.ofChange outboxLimitsWrong)

/-- 'sheavelaw18.OutboxPlays': WHATEVER THE INPUT: true; the input reads as it did. -/
def outboxPlaysSpec : ChangeSpec := { name := "outboxPlays", fn := fun _ => fun
  | [d1, d2] => { results := [.lit (.bool true)], args := [d1, d2] }
  | _ => none }
def outboxPlaysRow : OpenClaim := { program := "ytlkbfacdaelbfaa", sum := "4e0ddc008f66b15a3a604cf78eee2719bca2326ac7510aa4a0be9d80cce134bc", func := "sheave/sheavelaw18.OutboxPlays", spec := "outboxPlays", inPlace := ["slices.overlaps[sheave/api.Range]"], unfollowed := true, recurses := true, apart := false }
def OutboxPlaysSaid : Prop := outboxPlaysRow.holds Try.pinned (OpenSpec.ofChange outboxPlaysSpec)

/-- ITS FALSE NEIGHBOUR: 'it returns false'. Refute it at one input. -/
def outboxPlaysWrong : ChangeSpec := { name := "outboxPlays", fn := fun _ => fun
  | [d1, d2] => { results := [.lit (.bool false)], args := [d1, d2] }
  | _ => none }
def OutboxPlaysWrongFalsely : Prop := outboxPlaysRow.holds Try.pinned (OpenSpec.ofChange outboxPlaysWrong)

/- THE SECOND FORM. 'bulk': how many values and letters a reading holds, each counted each time it is reached (what is shared counts as often as it is met; a slice's spare places count too). A statement '..UptoSaid' is the law's where the arguments, and the package variables that the reading takes, are together of bulk at most 1048576: NARROWER than '..Said'. Prove '..Said' where nothing that the law and all that it calls make is longer than what came in: it says more and counts as full. Else prove '..UptoSaid'. A law counts once. -/
mutual
def uptoBulk {H : Type} : DataW H → Nat
  | .lit (.string bytes) => bytes.length + 1
  | .lit _ => 1
  | .nil => 1
  | .ptr d => uptoBulk d + 1
  | .slice elems spare => uptoBulkAll elems + uptoBulkAll spare + 1
  | .agg parts => uptoBulkAll parts + 1
  | .iface _ d => uptoBulk d + 1
  | .map entries => uptoBulkEntries entries + 1
  | .held _ => 1
def uptoBulkAll {H : Type} : List (DataW H) → Nat
  | [] => 0
  | d :: r => uptoBulk d + uptoBulkAll r
def uptoBulkEntries {H : Type} : List (Lit × DataW H) → Nat
  | [] => 0
  | x :: r => uptoBulkEntry x + uptoBulkEntries r
def uptoBulkEntry {H : Type} : Lit × DataW H → Nat
  | (.string bytes, d) => bytes.length + uptoBulk d + 1
  | (_, d) => uptoBulk d + 1
 end
def uptoSmall : (H : Type) → List (DataW H) → Bool := fun _ ds => decide (uptoBulkAll ds ≤ 1048576)
def OpenSpec.upto (s : _root_.Go.ChangeSpec) : _root_.Go.OpenSpec := { _root_.Go.OpenSpec.ofChange s with cond := some uptoSmall }

/-- 'sheavelaw17.RangesOrder', WHERE WHAT IT READS IS OF BULK AT MOST 1048576: true; the input reads as it did. -/
def rangesOrderUptoRow : OpenClaim := { program := "ytlkbfacdaelbfaa", sum := "4e0ddc008f66b15a3a604cf78eee2719bca2326ac7510aa4a0be9d80cce134bc", func := "sheave/sheavelaw17.RangesOrder", spec := "rangesOrder", inPlace := ["slices.overlaps[sheave/api.Range]"], unfollowed := true, recurses := true, apart := false, narrowed := true }
def RangesOrderUptoSaid : Prop := rangesOrderUptoRow.holds Try.pinned (OpenSpec.upto rangesOrderSpec)

/-- 'sheavelaw17.RangesGaps', WHERE WHAT IT READS IS OF BULK AT MOST 1048576: true; the input reads as it did. -/
def rangesGapsUptoRow : OpenClaim := { program := "ytlkbfacdaelbfaa", sum := "4e0ddc008f66b15a3a604cf78eee2719bca2326ac7510aa4a0be9d80cce134bc", func := "sheave/sheavelaw17.RangesGaps", spec := "rangesGaps", inPlace := ["slices.overlaps[sheave/api.Range]"], unfollowed := true, recurses := true, apart := false, narrowed := true }
def RangesGapsUptoSaid : Prop := rangesGapsUptoRow.holds Try.pinned (OpenSpec.upto rangesGapsSpec)

/-- 'sheavelaw17.RangesPlays', WHERE WHAT IT READS IS OF BULK AT MOST 1048576: true; the input reads as it did. -/
def rangesPlaysUptoRow : OpenClaim := { program := "ytlkbfacdaelbfaa", sum := "4e0ddc008f66b15a3a604cf78eee2719bca2326ac7510aa4a0be9d80cce134bc", func := "sheave/sheavelaw17.RangesPlays", spec := "rangesPlays", inPlace := ["slices.overlaps[sheave/api.Range]"], unfollowed := true, recurses := true, apart := false, narrowed := true }
def RangesPlaysUptoSaid : Prop := rangesPlaysUptoRow.holds Try.pinned (OpenSpec.upto rangesPlaysSpec)

/-- 'sheavelaw19.InboxOrder', WHERE WHAT IT READS IS OF BULK AT MOST 1048576: true; the input reads as it did. -/
def inboxOrderUptoRow : OpenClaim := { program := "ytlkbfacdaelbfaa", sum := "4e0ddc008f66b15a3a604cf78eee2719bca2326ac7510aa4a0be9d80cce134bc", func := "sheave/sheavelaw19.InboxOrder", spec := "inboxOrder", inPlace := ["slices.overlaps[sheave/api.Range]"], unfollowed := true, recurses := true, apart := false, narrowed := true }
def InboxOrderUptoSaid : Prop := inboxOrderUptoRow.holds Try.pinned (OpenSpec.upto inboxOrderSpec)

/-- 'sheavelaw19.InboxBounds', WHERE WHAT IT READS IS OF BULK AT MOST 1048576: true; the input reads as it did. -/
def inboxBoundsUptoRow : OpenClaim := { program := "ytlkbfacdaelbfaa", sum := "4e0ddc008f66b15a3a604cf78eee2719bca2326ac7510aa4a0be9d80cce134bc", func := "sheave/sheavelaw19.InboxBounds", spec := "inboxBounds", inPlace := ["slices.overlaps[sheave/api.Range]"], unfollowed := true, recurses := true, apart := false, narrowed := true }
def InboxBoundsUptoSaid : Prop := inboxBoundsUptoRow.holds Try.pinned (OpenSpec.upto inboxBoundsSpec)

/-- 'sheavelaw19.InboxCounts', WHERE WHAT IT READS IS OF BULK AT MOST 1048576: true; the input reads as it did. -/
def inboxCountsUptoRow : OpenClaim := { program := "ytlkbfacdaelbfaa", sum := "4e0ddc008f66b15a3a604cf78eee2719bca2326ac7510aa4a0be9d80cce134bc", func := "sheave/sheavelaw19.InboxCounts", spec := "inboxCounts", inPlace := ["slices.overlaps[sheave/api.Range]"], unfollowed := true, recurses := true, apart := false, narrowed := true }
def InboxCountsUptoSaid : Prop := inboxCountsUptoRow.holds Try.pinned (OpenSpec.upto inboxCountsSpec)

/-- 'sheavelaw18.OutboxArrives', WHERE WHAT IT READS IS OF BULK AT MOST 1048576: true; the input reads as it did. -/
def outboxArrivesUptoRow : OpenClaim := { program := "ytlkbfacdaelbfaa", sum := "4e0ddc008f66b15a3a604cf78eee2719bca2326ac7510aa4a0be9d80cce134bc", func := "sheave/sheavelaw18.OutboxArrives", spec := "outboxArrives", inPlace := ["slices.overlaps[sheave/api.Range]"], unfollowed := true, recurses := true, apart := false, narrowed := true }
def OutboxArrivesUptoSaid : Prop := outboxArrivesUptoRow.holds Try.pinned (OpenSpec.upto outboxArrivesSpec)

/-- 'sheavelaw18.OutboxBytes', WHERE WHAT IT READS IS OF BULK AT MOST 1048576: true; the input reads as it did. -/
def outboxBytesUptoRow : OpenClaim := { program := "ytlkbfacdaelbfaa", sum := "4e0ddc008f66b15a3a604cf78eee2719bca2326ac7510aa4a0be9d80cce134bc", func := "sheave/sheavelaw18.OutboxBytes", spec := "outboxBytes", inPlace := ["slices.overlaps[sheave/api.Range]"], unfollowed := true, recurses := true, apart := false, narrowed := true }
def OutboxBytesUptoSaid : Prop := outboxBytesUptoRow.holds Try.pinned (OpenSpec.upto outboxBytesSpec)

/-- 'sheavelaw19.InboxPlays', WHERE WHAT IT READS IS OF BULK AT MOST 1048576: true; the input reads as it did. -/
def inboxPlaysUptoRow : OpenClaim := { program := "ytlkbfacdaelbfaa", sum := "4e0ddc008f66b15a3a604cf78eee2719bca2326ac7510aa4a0be9d80cce134bc", func := "sheave/sheavelaw19.InboxPlays", spec := "inboxPlays", inPlace := ["slices.overlaps[sheave/api.Range]"], unfollowed := true, recurses := true, apart := false, narrowed := true }
def InboxPlaysUptoSaid : Prop := inboxPlaysUptoRow.holds Try.pinned (OpenSpec.upto inboxPlaysSpec)

/-- 'sheavelaw18.OutboxLimits', WHERE WHAT IT READS IS OF BULK AT MOST 1048576: true; the input reads as it did. -/
def outboxLimitsUptoRow : OpenClaim := { program := "ytlkbfacdaelbfaa", sum := "4e0ddc008f66b15a3a604cf78eee2719bca2326ac7510aa4a0be9d80cce134bc", func := "sheave/sheavelaw18.OutboxLimits", spec := "outboxLimits", inPlace := ["slices.overlaps[sheave/api.Range]"], unfollowed := true, recurses := true, apart := false, narrowed := true }
def OutboxLimitsUptoSaid : Prop := outboxLimitsUptoRow.holds Try.pinned (OpenSpec.upto outboxLimitsSpec)

/-- 'sheavelaw18.OutboxPlays', WHERE WHAT IT READS IS OF BULK AT MOST 1048576: true; the input reads as it did. -/
def outboxPlaysUptoRow : OpenClaim := { program := "ytlkbfacdaelbfaa", sum := "4e0ddc008f66b15a3a604cf78eee2719bca2326ac7510aa4a0be9d80cce134bc", func := "sheave/sheavelaw18.OutboxPlays", spec := "outboxPlays", inPlace := ["slices.overlaps[sheave/api.Range]"], unfollowed := true, recurses := true, apart := false, narrowed := true }
def OutboxPlaysUptoSaid : Prop := outboxPlaysUptoRow.holds Try.pinned (OpenSpec.upto outboxPlaysSpec)

end Rows
end Go.Proofs.Ytlkbfacdaelbfaa
