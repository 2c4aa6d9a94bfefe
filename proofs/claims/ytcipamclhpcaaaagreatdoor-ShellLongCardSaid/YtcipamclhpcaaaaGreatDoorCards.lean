/-
  DERIVED. GIVEN WITH THE SEED: THE CARDS: each row of YtcipamclhpcaaaaGreatDoorRows.lean that lists a variable, with what it lists TIED to the program's text (the seventh form; the later family's looks); each row that meets fmt, with fmt's text TOLD by the authors' own Lean function (tested against real Go, not proved from fmt's source: count such statements apart). THE CARD IS WHAT COUNTS. Prove the row's statement (the work); the ties are given (YtcipamclhpcaaaaGreatDoorTie.lean); close each card by the builder's one call (the guide's Derived/Test/ToyasCard.lean, 'card_holds'). Laid BY PROGRAM, IN A SANDBOX (cutbox-door.mjs). By AI agents, Wed Nov 11 2026. No macro, syntax, notation, axiom, sorry.
-/
import Derived.Test.YtcipamclhpcaaaaGreatDoorRows
import GoSem.ClaimSeven
namespace Go.Proofs.YtcipamclhpcaaaaGreatDoor
namespace Rows

/-- THE TIED CARD OF 'stepstonelaw26.PlayNames'. -/
def playNamesCard : Claim7 := { stood := { row := playNamesRow, standIns := [], harness := (true, "6973daad96ceec1caa9cc9050160ec60db34f499c694825fcc4f5e5f5aca9dc2"), looks := true }, kinds := [], alts := [], laidByText := true, laidKinds := [.data], laidTests := true, laidLooks := .later }
def PlayNamesCardSaid : Prop := Claim7.holds Tryz.pinned (.plain (OpenSpec.ofChange playNamesSpec)) playNamesCard

/-- THE TIED CARD OF 'stepstonelaw27.ShellNumbers'. -/
def shellNumbersCard : Claim7 := { stood := { row := shellNumbersRow, standIns := [], harness := (true, "6973daad96ceec1caa9cc9050160ec60db34f499c694825fcc4f5e5f5aca9dc2"), looks := true }, kinds := [], alts := [], laidByText := true, laidKinds := [.pinned, .data, .data, .sentinel, .sentinel, .data, .data, .data], laidTests := true, laidLooks := .later }
def ShellNumbersCardSaid : Prop := Claim7.holds Tryz.pinned (.plain (OpenSpec.ofChange shellNumbersSpec)) shellNumbersCard

/-- THE TIED CARD OF 'stepstonelaw27.ShellLong'. -/
def shellLongCard : Claim7 := { stood := { row := shellLongRow, standIns := [], harness := (true, "6973daad96ceec1caa9cc9050160ec60db34f499c694825fcc4f5e5f5aca9dc2"), looks := true }, kinds := [], alts := [], laidByText := true, laidKinds := [.pinned, .data, .data, .sentinel, .sentinel, .data, .data, .data], laidTests := true, laidLooks := .later }
def ShellLongCardSaid : Prop := Claim7.holds Tryz.pinned (.plain (OpenSpec.ofChange shellLongSpec)) shellLongCard

/-- THE SECOND FORM's CARD OF 'stepstonelaw26.PlayNames'. -/
def playNamesUptoCard : Claim7 := { stood := { row := playNamesUptoRow, standIns := [], harness := (true, "6973daad96ceec1caa9cc9050160ec60db34f499c694825fcc4f5e5f5aca9dc2"), looks := true }, kinds := [], alts := [], laidByText := true, laidKinds := [.data], laidTests := true, laidLooks := .later }
def PlayNamesUptoCardSaid : Prop := Claim7.holds Tryz.pinned (.plain (OpenSpec.upto playNamesSpec)) playNamesUptoCard

/-- THE SECOND FORM's CARD OF 'stepstonelaw27.ShellNumbers'. -/
def shellNumbersUptoCard : Claim7 := { stood := { row := shellNumbersUptoRow, standIns := [], harness := (true, "6973daad96ceec1caa9cc9050160ec60db34f499c694825fcc4f5e5f5aca9dc2"), looks := true }, kinds := [], alts := [], laidByText := true, laidKinds := [.pinned, .data, .data, .sentinel, .sentinel, .data, .data, .data], laidTests := true, laidLooks := .later }
def ShellNumbersUptoCardSaid : Prop := Claim7.holds Tryz.pinned (.plain (OpenSpec.upto shellNumbersSpec)) shellNumbersUptoCard

/-- THE SECOND FORM's CARD OF 'stepstonelaw27.ShellLong'. -/
def shellLongUptoCard : Claim7 := { stood := { row := shellLongUptoRow, standIns := [], harness := (true, "6973daad96ceec1caa9cc9050160ec60db34f499c694825fcc4f5e5f5aca9dc2"), looks := true }, kinds := [], alts := [], laidByText := true, laidKinds := [.pinned, .data, .data, .sentinel, .sentinel, .data, .data, .data], laidTests := true, laidLooks := .later }
def ShellLongUptoCardSaid : Prop := Claim7.holds Tryz.pinned (.plain (OpenSpec.upto shellLongSpec)) shellLongUptoCard
end Rows
end Go.Proofs.YtcipamclhpcaaaaGreatDoor
