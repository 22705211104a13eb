/-
  DERIVED. GIVEN WITH THE SEED: THE CARDS: each row of YtbimcdakgbdiiaaGreatDoorRows.lean that lists a variable, with what it lists TIED to the program's text (the seventh form; the later family's looks); each row that meets fmt, with fmt's text TOLD by the authors' own Lean function (tested against real Go, not proved from fmt's source: count such statements apart). THE CARD IS WHAT COUNTS. Prove the row's statement (the work); the ties are given (YtbimcdakgbdiiaaGreatDoorTie.lean); close each card by the builder's one call (the guide's Derived/Test/ToyasCard.lean, 'card_holds'). Laid BY PROGRAM, IN A SANDBOX (cutbox-door.mjs). By AI agents, Wed Nov 11 2026. No macro, syntax, notation, axiom, sorry.
-/
import Derived.Test.YtbimcdakgbdiiaaGreatDoorRows
import GoSem.ClaimSeven
namespace Go.Proofs.YtbimcdakgbdiiaaGreatDoor
namespace Rows

/-- THE TIED CARD OF 'espalierlaw.PortBack'. -/
def portBackCard : Claim7 := { stood := { row := portBackRow, standIns := [], harness := (true, "dcf6b1524031104f2c6615a411310f0fd9af12286b337ef9fd38a9b6d679d8aa"), looks := true }, kinds := [], alts := [], laidByText := true, laidKinds := [.data, .data, .data, .data, .sentinel, .sentinel, .pinned], laidTests := true, laidLooks := .later }
def PortBackCardSaid : Prop := Claim7.holds Tryz.pinned (.plain (OpenSpec.ofChange portBackSpec)) portBackCard

/-- THE TIED CARD OF 'espalierlaw.PortLines'. -/
def portLinesCard : Claim7 := { stood := { row := portLinesRow, standIns := [], harness := (true, "dcf6b1524031104f2c6615a411310f0fd9af12286b337ef9fd38a9b6d679d8aa"), looks := true }, kinds := [], alts := [], laidByText := true, laidKinds := [.data, .data, .data, .data, .sentinel, .sentinel, .pinned], laidTests := true, laidLooks := .later }
def PortLinesCardSaid : Prop := Claim7.holds Tryz.pinned (.plain (OpenSpec.ofChange portLinesSpec)) portLinesCard

/-- THE SECOND FORM's CARD OF 'espalierlaw.PortBack'. -/
def portBackUptoCard : Claim7 := { stood := { row := portBackUptoRow, standIns := [], harness := (true, "dcf6b1524031104f2c6615a411310f0fd9af12286b337ef9fd38a9b6d679d8aa"), looks := true }, kinds := [], alts := [], laidByText := true, laidKinds := [.data, .data, .data, .data, .sentinel, .sentinel, .pinned], laidTests := true, laidLooks := .later }
def PortBackUptoCardSaid : Prop := Claim7.holds Tryz.pinned (.plain (OpenSpec.upto portBackSpec)) portBackUptoCard

/-- THE SECOND FORM's CARD OF 'espalierlaw.PortLines'. -/
def portLinesUptoCard : Claim7 := { stood := { row := portLinesUptoRow, standIns := [], harness := (true, "dcf6b1524031104f2c6615a411310f0fd9af12286b337ef9fd38a9b6d679d8aa"), looks := true }, kinds := [], alts := [], laidByText := true, laidKinds := [.data, .data, .data, .data, .sentinel, .sentinel, .pinned], laidTests := true, laidLooks := .later }
def PortLinesUptoCardSaid : Prop := Claim7.holds Tryz.pinned (.plain (OpenSpec.upto portLinesSpec)) portLinesUptoCard
end Rows
end Go.Proofs.YtbimcdakgbdiiaaGreatDoor
