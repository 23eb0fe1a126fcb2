/-
  DERIVED. GIVEN WITH THE SEED: THE CARDS: each row of YtebmbapaedlmiaaDoorRows.lean that lists a variable, with what it lists TIED to the program's text (the seventh form; the later family's looks); each row that meets fmt, with fmt's text TOLD by the authors' own Lean function (tested against real Go, not proved from fmt's source: count such statements apart). THE CARD IS WHAT COUNTS. Prove the row's statement (the work); the ties are given (YtebmbapaedlmiaaDoorTie.lean); close each card by the builder's one call (the guide's Derived/Test/ToyasCard.lean, 'card_holds'). Laid BY PROGRAM, IN A SANDBOX (cutbox-door.mjs). By AI agents, Wed Nov 11 2026. No macro, syntax, notation, axiom, sorry.
-/
import Derived.Test.YtebmbapaedlmiaaDoorRows
import GoSem.ClaimSeven
namespace Go.Proofs.YtebmbapaedlmiaaDoor
namespace Rows

/-- THE TIED CARD OF 'sheavelaw07.AeadSeals'. -/
def aeadSealsCard : Claim7 := { stood := { row := aeadSealsRow, standIns := [], harness := (true, "fde2b43e3a0a1e458acf17c42b34c48c5999fd1c0f32fcbb3643fef18c6c1848"), looks := false }, kinds := [], alts := [], laidByText := true, laidKinds := [.data, .data, .data], laidTests := true, laidLooks := .later }
def AeadSealsCardSaid : Prop := Claim7.holds Tryd.pinned (.plain (OpenSpec.ofChange aeadSealsSpec)) aeadSealsCard

/-- THE TIED CARD OF 'sheavelaw07.AeadOpens'. -/
def aeadOpensCard : Claim7 := { stood := { row := aeadOpensRow, standIns := [], harness := (true, "fde2b43e3a0a1e458acf17c42b34c48c5999fd1c0f32fcbb3643fef18c6c1848"), looks := false }, kinds := [], alts := [], laidByText := true, laidKinds := [.data, .data, .data], laidTests := true, laidLooks := .later }
def AeadOpensCardSaid : Prop := Claim7.holds Tryd.pinned (.plain (OpenSpec.ofChange aeadOpensSpec)) aeadOpensCard

/-- THE TIED CARD OF 'sheavelaw07.AeadBack'. -/
def aeadBackCard : Claim7 := { stood := { row := aeadBackRow, standIns := [], harness := (true, "fde2b43e3a0a1e458acf17c42b34c48c5999fd1c0f32fcbb3643fef18c6c1848"), looks := false }, kinds := [], alts := [], laidByText := true, laidKinds := [.data, .data, .data], laidTests := true, laidLooks := .later }
def AeadBackCardSaid : Prop := Claim7.holds Tryd.pinned (.plain (OpenSpec.ofChange aeadBackSpec)) aeadBackCard

/-- THE TIED CARD OF 'sheavelaw07.AeadTurned'. -/
def aeadTurnedCard : Claim7 := { stood := { row := aeadTurnedRow, standIns := [], harness := (true, "fde2b43e3a0a1e458acf17c42b34c48c5999fd1c0f32fcbb3643fef18c6c1848"), looks := false }, kinds := [], alts := [], laidByText := true, laidKinds := [.data, .data, .data], laidTests := true, laidLooks := .later }
def AeadTurnedCardSaid : Prop := Claim7.holds Tryd.pinned (.plain (OpenSpec.ofChange aeadTurnedSpec)) aeadTurnedCard

/-- THE TIED CARD OF 'sheavelaw07.AeadBeside'. -/
def aeadBesideCard : Claim7 := { stood := { row := aeadBesideRow, standIns := [], harness := (true, "fde2b43e3a0a1e458acf17c42b34c48c5999fd1c0f32fcbb3643fef18c6c1848"), looks := false }, kinds := [], alts := [], laidByText := true, laidKinds := [.data, .data, .data], laidTests := true, laidLooks := .later }
def AeadBesideCardSaid : Prop := Claim7.holds Tryd.pinned (.plain (OpenSpec.ofChange aeadBesideSpec)) aeadBesideCard

/-- THE SECOND FORM's CARD OF 'sheavelaw07.AeadSeals'. -/
def aeadSealsUptoCard : Claim7 := { stood := { row := aeadSealsUptoRow, standIns := [], harness := (true, "fde2b43e3a0a1e458acf17c42b34c48c5999fd1c0f32fcbb3643fef18c6c1848"), looks := false }, kinds := [], alts := [], laidByText := true, laidKinds := [.data, .data, .data], laidTests := true, laidLooks := .later }
def AeadSealsUptoCardSaid : Prop := Claim7.holds Tryd.pinned (.plain (OpenSpec.upto aeadSealsSpec)) aeadSealsUptoCard

/-- THE SECOND FORM's CARD OF 'sheavelaw07.AeadOpens'. -/
def aeadOpensUptoCard : Claim7 := { stood := { row := aeadOpensUptoRow, standIns := [], harness := (true, "fde2b43e3a0a1e458acf17c42b34c48c5999fd1c0f32fcbb3643fef18c6c1848"), looks := false }, kinds := [], alts := [], laidByText := true, laidKinds := [.data, .data, .data], laidTests := true, laidLooks := .later }
def AeadOpensUptoCardSaid : Prop := Claim7.holds Tryd.pinned (.plain (OpenSpec.upto aeadOpensSpec)) aeadOpensUptoCard

/-- THE SECOND FORM's CARD OF 'sheavelaw07.AeadBack'. -/
def aeadBackUptoCard : Claim7 := { stood := { row := aeadBackUptoRow, standIns := [], harness := (true, "fde2b43e3a0a1e458acf17c42b34c48c5999fd1c0f32fcbb3643fef18c6c1848"), looks := false }, kinds := [], alts := [], laidByText := true, laidKinds := [.data, .data, .data], laidTests := true, laidLooks := .later }
def AeadBackUptoCardSaid : Prop := Claim7.holds Tryd.pinned (.plain (OpenSpec.upto aeadBackSpec)) aeadBackUptoCard

/-- THE SECOND FORM's CARD OF 'sheavelaw07.AeadTurned'. -/
def aeadTurnedUptoCard : Claim7 := { stood := { row := aeadTurnedUptoRow, standIns := [], harness := (true, "fde2b43e3a0a1e458acf17c42b34c48c5999fd1c0f32fcbb3643fef18c6c1848"), looks := false }, kinds := [], alts := [], laidByText := true, laidKinds := [.data, .data, .data], laidTests := true, laidLooks := .later }
def AeadTurnedUptoCardSaid : Prop := Claim7.holds Tryd.pinned (.plain (OpenSpec.upto aeadTurnedSpec)) aeadTurnedUptoCard

/-- THE SECOND FORM's CARD OF 'sheavelaw07.AeadBeside'. -/
def aeadBesideUptoCard : Claim7 := { stood := { row := aeadBesideUptoRow, standIns := [], harness := (true, "fde2b43e3a0a1e458acf17c42b34c48c5999fd1c0f32fcbb3643fef18c6c1848"), looks := false }, kinds := [], alts := [], laidByText := true, laidKinds := [.data, .data, .data], laidTests := true, laidLooks := .later }
def AeadBesideUptoCardSaid : Prop := Claim7.holds Tryd.pinned (.plain (OpenSpec.upto aeadBesideSpec)) aeadBesideUptoCard
end Rows
end Go.Proofs.YtebmbapaedlmiaaDoor
