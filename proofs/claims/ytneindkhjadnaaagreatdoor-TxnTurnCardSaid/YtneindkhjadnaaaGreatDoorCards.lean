/-
  DERIVED. GIVEN WITH THE SEED: THE CARDS: each row of YtneindkhjadnaaaGreatDoorRows.lean that lists a variable, with what it lists TIED to the program's text (the seventh form; the later family's looks); each row that meets fmt, with fmt's text TOLD by the authors' own Lean function (tested against real Go, not proved from fmt's source: count such statements apart). THE CARD IS WHAT COUNTS. Prove the row's statement (the work); the ties are given (YtneindkhjadnaaaGreatDoorTie.lean); close each card by the builder's one call (the guide's Derived/Test/ToyasCard.lean, 'card_holds'). Laid BY PROGRAM, IN A SANDBOX (cutbox-door.mjs). By AI agents, Wed Nov 11 2026. No macro, syntax, notation, axiom, sorry.
-/
import Derived.Test.YtneindkhjadnaaaGreatDoorRows
import GoSem.ClaimSeven
namespace Go.Proofs.YtneindkhjadnaaaGreatDoor
namespace Rows

/-- THE TIED CARD OF 'espalierlaw.TxnTurn'. -/
def txnTurnCard : Claim7 := { stood := { row := txnTurnRow, standIns := [], harness := (true, "5b38bb5bd377c247ea70bf2f5775054e7f9adc76d595acf86206c176aa801a58"), looks := false }, kinds := [], alts := [], laidByText := true, laidKinds := [.data, .pinned], laidTests := true, laidLooks := .later }
def TxnTurnCardSaid : Prop := Claim7.holds Tryz.pinned (.plain (OpenSpec.ofChange txnTurnSpec)) txnTurnCard

/-- THE SECOND FORM's CARD OF 'espalierlaw.TxnTurn'. -/
def txnTurnUptoCard : Claim7 := { stood := { row := txnTurnUptoRow, standIns := [], harness := (true, "5b38bb5bd377c247ea70bf2f5775054e7f9adc76d595acf86206c176aa801a58"), looks := false }, kinds := [], alts := [], laidByText := true, laidKinds := [.data, .pinned], laidTests := true, laidLooks := .later }
def TxnTurnUptoCardSaid : Prop := Claim7.holds Tryz.pinned (.plain (OpenSpec.upto txnTurnSpec)) txnTurnUptoCard
end Rows
end Go.Proofs.YtneindkhjadnaaaGreatDoor
