/-
  DERIVED. GIVEN WITH THE SEED: THE CARDS: each row of YtmpdeebjhmgpgaaGreatDoorRows.lean that lists a variable, with what it lists TIED to the program's text (the seventh form; the later family's looks); each row that meets fmt, with fmt's text TOLD by the authors' own Lean function (tested against real Go, not proved from fmt's source: count such statements apart). THE CARD IS WHAT COUNTS. Prove the row's statement (the work); the ties are given (YtmpdeebjhmgpgaaGreatDoorTie.lean); close each card by the builder's one call (the guide's Derived/Test/ToyasCard.lean, 'card_holds'). Laid BY PROGRAM, IN A SANDBOX (cutbox-door.mjs). By AI agents, Wed Nov 11 2026. No macro, syntax, notation, axiom, sorry.
-/
import Derived.Test.YtmpdeebjhmgpgaaGreatDoorRows
import GoSem.ClaimSeven
namespace Go.Proofs.YtmpdeebjhmgpgaaGreatDoor
namespace Rows

/-- THE TIED CARD OF 'veneerlaw20.ScriptDecodes'. -/
def scriptDecodesCard : Claim7 := { stood := { row := scriptDecodesRow, standIns := [], harness := (true, "601e9abd6826068a1a6600ee56a0400b6a7d6e6cf01fbda9fbb0b55fad4c2788"), looks := true }, kinds := [], alts := [], laidByText := true, laidKinds := [.data, .data, .data, .data, .pinned], laidTests := true, laidLooks := .later }
def ScriptDecodesCardSaid : Prop := Claim7.holds Tryz.pinned (.plain (OpenSpec.ofChange scriptDecodesSpec)) scriptDecodesCard

/-- THE TIED CARD OF 'veneerlaw20.ScriptEncodes'. -/
def scriptEncodesCard : Claim7 := { stood := { row := scriptEncodesRow, standIns := [], harness := (true, "601e9abd6826068a1a6600ee56a0400b6a7d6e6cf01fbda9fbb0b55fad4c2788"), looks := true }, kinds := [], alts := [], laidByText := true, laidKinds := [.data, .data, .data, .data, .pinned], laidTests := true, laidLooks := .later }
def ScriptEncodesCardSaid : Prop := Claim7.holds Tryz.pinned (.plain (OpenSpec.ofChange scriptEncodesSpec)) scriptEncodesCard

/-- THE TIED CARD OF 'veneerlaw20.ScriptBack'. -/
def scriptBackCard : Claim7 := { stood := { row := scriptBackRow, standIns := [], harness := (true, "601e9abd6826068a1a6600ee56a0400b6a7d6e6cf01fbda9fbb0b55fad4c2788"), looks := true }, kinds := [], alts := [], laidByText := true, laidKinds := [.data, .data, .data, .data, .pinned], laidTests := true, laidLooks := .later }
def ScriptBackCardSaid : Prop := Claim7.holds Tryz.pinned (.plain (OpenSpec.ofChange scriptBackSpec)) scriptBackCard

/-- THE TIED CARD OF 'veneerlaw20.ScriptAhead'. -/
def scriptAheadCard : Claim7 := { stood := { row := scriptAheadRow, standIns := [], harness := (true, "601e9abd6826068a1a6600ee56a0400b6a7d6e6cf01fbda9fbb0b55fad4c2788"), looks := true }, kinds := [], alts := [], laidByText := true, laidKinds := [.data, .data, .data, .data, .pinned], laidTests := true, laidLooks := .later }
def ScriptAheadCardSaid : Prop := Claim7.holds Tryz.pinned (.plain (OpenSpec.ofChange scriptAheadSpec)) scriptAheadCard

/-- THE TIED CARD OF 'veneerlaw20.ScriptDeals'. -/
def scriptDealsCard : Claim7 := { stood := { row := scriptDealsRow, standIns := [], harness := (true, "601e9abd6826068a1a6600ee56a0400b6a7d6e6cf01fbda9fbb0b55fad4c2788"), looks := true }, kinds := [], alts := [], laidByText := true, laidKinds := [.data, .data, .data, .data, .pinned], laidTests := true, laidLooks := .later }
def ScriptDealsCardSaid : Prop := Claim7.holds Tryz.pinned (.plain (OpenSpec.ofChange scriptDealsSpec)) scriptDealsCard

/-- THE TIED CARD OF 'veneerlaw20.ScriptPlays'. -/
def scriptPlaysCard : Claim7 := { stood := { row := scriptPlaysRow, standIns := [], harness := (true, "601e9abd6826068a1a6600ee56a0400b6a7d6e6cf01fbda9fbb0b55fad4c2788"), looks := true }, kinds := [], alts := [], laidByText := true, laidKinds := [.data, .data, .data, .data, .pinned], laidTests := true, laidLooks := .later }
def ScriptPlaysCardSaid : Prop := Claim7.holds Tryz.pinned (.plain (OpenSpec.ofChange scriptPlaysSpec)) scriptPlaysCard

/-- THE SECOND FORM's CARD OF 'veneerlaw20.ScriptDecodes'. -/
def scriptDecodesUptoCard : Claim7 := { stood := { row := scriptDecodesUptoRow, standIns := [], harness := (true, "601e9abd6826068a1a6600ee56a0400b6a7d6e6cf01fbda9fbb0b55fad4c2788"), looks := true }, kinds := [], alts := [], laidByText := true, laidKinds := [.data, .data, .data, .data, .pinned], laidTests := true, laidLooks := .later }
def ScriptDecodesUptoCardSaid : Prop := Claim7.holds Tryz.pinned (.plain (OpenSpec.upto scriptDecodesSpec)) scriptDecodesUptoCard

/-- THE SECOND FORM's CARD OF 'veneerlaw20.ScriptEncodes'. -/
def scriptEncodesUptoCard : Claim7 := { stood := { row := scriptEncodesUptoRow, standIns := [], harness := (true, "601e9abd6826068a1a6600ee56a0400b6a7d6e6cf01fbda9fbb0b55fad4c2788"), looks := true }, kinds := [], alts := [], laidByText := true, laidKinds := [.data, .data, .data, .data, .pinned], laidTests := true, laidLooks := .later }
def ScriptEncodesUptoCardSaid : Prop := Claim7.holds Tryz.pinned (.plain (OpenSpec.upto scriptEncodesSpec)) scriptEncodesUptoCard

/-- THE SECOND FORM's CARD OF 'veneerlaw20.ScriptBack'. -/
def scriptBackUptoCard : Claim7 := { stood := { row := scriptBackUptoRow, standIns := [], harness := (true, "601e9abd6826068a1a6600ee56a0400b6a7d6e6cf01fbda9fbb0b55fad4c2788"), looks := true }, kinds := [], alts := [], laidByText := true, laidKinds := [.data, .data, .data, .data, .pinned], laidTests := true, laidLooks := .later }
def ScriptBackUptoCardSaid : Prop := Claim7.holds Tryz.pinned (.plain (OpenSpec.upto scriptBackSpec)) scriptBackUptoCard

/-- THE SECOND FORM's CARD OF 'veneerlaw20.ScriptAhead'. -/
def scriptAheadUptoCard : Claim7 := { stood := { row := scriptAheadUptoRow, standIns := [], harness := (true, "601e9abd6826068a1a6600ee56a0400b6a7d6e6cf01fbda9fbb0b55fad4c2788"), looks := true }, kinds := [], alts := [], laidByText := true, laidKinds := [.data, .data, .data, .data, .pinned], laidTests := true, laidLooks := .later }
def ScriptAheadUptoCardSaid : Prop := Claim7.holds Tryz.pinned (.plain (OpenSpec.upto scriptAheadSpec)) scriptAheadUptoCard

/-- THE SECOND FORM's CARD OF 'veneerlaw20.ScriptDeals'. -/
def scriptDealsUptoCard : Claim7 := { stood := { row := scriptDealsUptoRow, standIns := [], harness := (true, "601e9abd6826068a1a6600ee56a0400b6a7d6e6cf01fbda9fbb0b55fad4c2788"), looks := true }, kinds := [], alts := [], laidByText := true, laidKinds := [.data, .data, .data, .data, .pinned], laidTests := true, laidLooks := .later }
def ScriptDealsUptoCardSaid : Prop := Claim7.holds Tryz.pinned (.plain (OpenSpec.upto scriptDealsSpec)) scriptDealsUptoCard

/-- THE SECOND FORM's CARD OF 'veneerlaw20.ScriptPlays'. -/
def scriptPlaysUptoCard : Claim7 := { stood := { row := scriptPlaysUptoRow, standIns := [], harness := (true, "601e9abd6826068a1a6600ee56a0400b6a7d6e6cf01fbda9fbb0b55fad4c2788"), looks := true }, kinds := [], alts := [], laidByText := true, laidKinds := [.data, .data, .data, .data, .pinned], laidTests := true, laidLooks := .later }
def ScriptPlaysUptoCardSaid : Prop := Claim7.holds Tryz.pinned (.plain (OpenSpec.upto scriptPlaysSpec)) scriptPlaysUptoCard
end Rows
end Go.Proofs.YtmpdeebjhmgpgaaGreatDoor
