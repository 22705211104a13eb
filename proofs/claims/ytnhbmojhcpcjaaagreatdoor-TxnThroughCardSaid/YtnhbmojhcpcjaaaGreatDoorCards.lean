/-
  DERIVED. GIVEN WITH THE SEED: THE CARDS: each row of YtnhbmojhcpcjaaaGreatDoorRows.lean that lists a variable, with what it lists TIED to the program's text (the seventh form; the later family's looks); each row that meets fmt, with fmt's text TOLD by the authors' own Lean function (tested against real Go, not proved from fmt's source: count such statements apart). THE CARD IS WHAT COUNTS. Prove the row's statement (the work); the ties are given (YtnhbmojhcpcjaaaGreatDoorTie.lean); close each card by the builder's one call (the guide's Derived/Test/ToyasCard.lean, 'card_holds'). Laid BY PROGRAM, IN A SANDBOX (cutbox-door.mjs). By AI agents, Wed Nov 11 2026. No macro, syntax, notation, axiom, sorry.
-/
import Derived.Test.YtnhbmojhcpcjaaaGreatDoorRows
import GoSem.ClaimSeven
namespace Go.Proofs.YtnhbmojhcpcjaaaGreatDoor
namespace Rows

/-- THE TIED CARD OF 'espalierlaw.TxnThrough'. -/
def txnThroughCard : Claim7 := { stood := { row := txnThroughRow, standIns := [], harness := (true, "a6d1621b98446bf21d3681a1d147b042c42cf9482642ae5896de6aa1b0741fec"), looks := false }, kinds := [], alts := [], laidByText := true, laidKinds := [.data, .pinned], laidTests := true, laidLooks := .later }
def TxnThroughCardSaid : Prop := Claim7.holds Tryz.pinned (.plain (OpenSpec.ofChange txnThroughSpec)) txnThroughCard

/-- THE TIED CARD OF 'espalierlaw.TxnTurns'. -/
def txnTurnsCard : Claim7 := { stood := { row := txnTurnsRow, standIns := [], harness := (true, "a6d1621b98446bf21d3681a1d147b042c42cf9482642ae5896de6aa1b0741fec"), looks := false }, kinds := [], alts := [], laidByText := true, laidKinds := [.data, .pinned], laidTests := true, laidLooks := .later }
def TxnTurnsCardSaid : Prop := Claim7.holds Tryz.pinned (.plain (OpenSpec.ofChange txnTurnsSpec)) txnTurnsCard

/-- THE TIED CARD OF 'espalierlaw.TxnBetween'. -/
def txnBetweenCard : Claim7 := { stood := { row := txnBetweenRow, standIns := [], harness := (true, "a6d1621b98446bf21d3681a1d147b042c42cf9482642ae5896de6aa1b0741fec"), looks := false }, kinds := [], alts := [], laidByText := true, laidKinds := [.data, .pinned], laidTests := true, laidLooks := .later }
def TxnBetweenCardSaid : Prop := Claim7.holds Tryz.pinned (.plain (OpenSpec.ofChange txnBetweenSpec)) txnBetweenCard

/-- THE TIED CARD OF 'espalierlaw.TxnTurn'. -/
def txnTurnCard : Claim7 := { stood := { row := txnTurnRow, standIns := [], harness := (true, "a6d1621b98446bf21d3681a1d147b042c42cf9482642ae5896de6aa1b0741fec"), looks := false }, kinds := [], alts := [], laidByText := true, laidKinds := [.data, .pinned], laidTests := true, laidLooks := .later }
def TxnTurnCardSaid : Prop := Claim7.holds Tryz.pinned (.plain (OpenSpec.ofChange txnTurnSpec)) txnTurnCard

/-- THE SECOND FORM's CARD OF 'espalierlaw.TxnThrough'. -/
def txnThroughUptoCard : Claim7 := { stood := { row := txnThroughUptoRow, standIns := [], harness := (true, "a6d1621b98446bf21d3681a1d147b042c42cf9482642ae5896de6aa1b0741fec"), looks := false }, kinds := [], alts := [], laidByText := true, laidKinds := [.data, .pinned], laidTests := true, laidLooks := .later }
def TxnThroughUptoCardSaid : Prop := Claim7.holds Tryz.pinned (.plain (OpenSpec.upto txnThroughSpec)) txnThroughUptoCard

/-- THE SECOND FORM's CARD OF 'espalierlaw.TxnTurns'. -/
def txnTurnsUptoCard : Claim7 := { stood := { row := txnTurnsUptoRow, standIns := [], harness := (true, "a6d1621b98446bf21d3681a1d147b042c42cf9482642ae5896de6aa1b0741fec"), looks := false }, kinds := [], alts := [], laidByText := true, laidKinds := [.data, .pinned], laidTests := true, laidLooks := .later }
def TxnTurnsUptoCardSaid : Prop := Claim7.holds Tryz.pinned (.plain (OpenSpec.upto txnTurnsSpec)) txnTurnsUptoCard

/-- THE SECOND FORM's CARD OF 'espalierlaw.TxnBetween'. -/
def txnBetweenUptoCard : Claim7 := { stood := { row := txnBetweenUptoRow, standIns := [], harness := (true, "a6d1621b98446bf21d3681a1d147b042c42cf9482642ae5896de6aa1b0741fec"), looks := false }, kinds := [], alts := [], laidByText := true, laidKinds := [.data, .pinned], laidTests := true, laidLooks := .later }
def TxnBetweenUptoCardSaid : Prop := Claim7.holds Tryz.pinned (.plain (OpenSpec.upto txnBetweenSpec)) txnBetweenUptoCard

/-- THE SECOND FORM's CARD OF 'espalierlaw.TxnTurn'. -/
def txnTurnUptoCard : Claim7 := { stood := { row := txnTurnUptoRow, standIns := [], harness := (true, "a6d1621b98446bf21d3681a1d147b042c42cf9482642ae5896de6aa1b0741fec"), looks := false }, kinds := [], alts := [], laidByText := true, laidKinds := [.data, .pinned], laidTests := true, laidLooks := .later }
def TxnTurnUptoCardSaid : Prop := Claim7.holds Tryz.pinned (.plain (OpenSpec.upto txnTurnSpec)) txnTurnUptoCard
end Rows
end Go.Proofs.YtnhbmojhcpcjaaaGreatDoor
