/-
  DERIVED. GIVEN WITH THE SEED: THE CARDS: each row of YtffefjmpmgkfoaaGreatDoorRows.lean that lists a variable, with what it lists TIED to the program's text (the seventh form; the later family's looks); each row that meets fmt, with fmt's text TOLD by the authors' own Lean function (tested against real Go, not proved from fmt's source: count such statements apart). THE CARD IS WHAT COUNTS. Prove the row's statement (the work); the ties are given (YtffefjmpmgkfoaaGreatDoorTie.lean); close each card by the builder's one call (the guide's Derived/Test/ToyasCard.lean, 'card_holds'). Laid BY PROGRAM, IN A SANDBOX (cutbox-door.mjs). By AI agents, Wed Nov 11 2026. No macro, syntax, notation, axiom, sorry.
-/
import Derived.Test.YtffefjmpmgkfoaaGreatDoorRows
import GoSem.ClaimSeven
namespace Go.Proofs.YtffefjmpmgkfoaaGreatDoor
namespace Rows

/-- THE TIED CARD OF 'espalierlaw.ValuePrint'. -/
def valuePrintCard : Claim7 := { stood := { row := valuePrintRow, standIns := [], harness := (true, "8145b04ef7b6a73a07f410d7af075f7821c8c9749169d6619b05b50981a933af"), looks := true }, kinds := [], alts := [], laidByText := true, laidKinds := [.data, .data, .data, .data, .sentinel, .sentinel, .pinned], laidTests := true, laidLooks := .later }
def ValuePrintCardSaid : Prop := Claim7.holds Tryz.pinned (.plain (OpenSpec.ofChange valuePrintSpec)) valuePrintCard

/-- THE TIED CARD OF 'espalierlaw.PortPrint'. -/
def portPrintCard : Claim7 := { stood := { row := portPrintRow, standIns := [], harness := (true, "8145b04ef7b6a73a07f410d7af075f7821c8c9749169d6619b05b50981a933af"), looks := true }, kinds := [], alts := [], laidByText := true, laidKinds := [.data, .data, .data, .data, .sentinel, .sentinel, .pinned], laidTests := true, laidLooks := .later }
def PortPrintCardSaid : Prop := Claim7.holds Tryz.pinned (.plain (OpenSpec.ofChange portPrintSpec)) portPrintCard

/-- THE SECOND FORM's CARD OF 'espalierlaw.ValuePrint'. -/
def valuePrintUptoCard : Claim7 := { stood := { row := valuePrintUptoRow, standIns := [], harness := (true, "8145b04ef7b6a73a07f410d7af075f7821c8c9749169d6619b05b50981a933af"), looks := true }, kinds := [], alts := [], laidByText := true, laidKinds := [.data, .data, .data, .data, .sentinel, .sentinel, .pinned], laidTests := true, laidLooks := .later }
def ValuePrintUptoCardSaid : Prop := Claim7.holds Tryz.pinned (.plain (OpenSpec.upto valuePrintSpec)) valuePrintUptoCard

/-- THE SECOND FORM's CARD OF 'espalierlaw.PortPrint'. -/
def portPrintUptoCard : Claim7 := { stood := { row := portPrintUptoRow, standIns := [], harness := (true, "8145b04ef7b6a73a07f410d7af075f7821c8c9749169d6619b05b50981a933af"), looks := true }, kinds := [], alts := [], laidByText := true, laidKinds := [.data, .data, .data, .data, .sentinel, .sentinel, .pinned], laidTests := true, laidLooks := .later }
def PortPrintUptoCardSaid : Prop := Claim7.holds Tryz.pinned (.plain (OpenSpec.upto portPrintSpec)) portPrintUptoCard
end Rows
end Go.Proofs.YtffefjmpmgkfoaaGreatDoor
