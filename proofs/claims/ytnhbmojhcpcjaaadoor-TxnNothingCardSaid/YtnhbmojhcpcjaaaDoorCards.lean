/-
  DERIVED. GIVEN WITH THE SEED: THE CARDS: each row of YtnhbmojhcpcjaaaDoorRows.lean that lists a variable, with what it lists TIED to the program's text (the seventh form; the later family's looks); each row that meets fmt, with fmt's text TOLD by the authors' own Lean function (tested against real Go, not proved from fmt's source: count such statements apart). THE CARD IS WHAT COUNTS. Prove the row's statement (the work); the ties are given (YtnhbmojhcpcjaaaDoorTie.lean); close each card by the builder's one call (the guide's Derived/Test/ToyasCard.lean, 'card_holds'). Laid BY PROGRAM, IN A SANDBOX (cutbox-door.mjs). By AI agents, Wed Nov 11 2026. No macro, syntax, notation, axiom, sorry.
-/
import Derived.Test.YtnhbmojhcpcjaaaDoorRows
import GoSem.ClaimSeven
namespace Go.Proofs.YtnhbmojhcpcjaaaDoor
namespace Rows

/-- THE TIED CARD OF 'espalierlaw.TxnNothing'. -/
def txnNothingCard : Claim7 := { stood := { row := txnNothingRow, standIns := [], harness := (true, "87d09bedbadc9387924ab90e94f87e1226a6413f28744181d31962c8a09177f4"), looks := false }, kinds := [], alts := [], laidByText := true, laidKinds := [.data, .pinned], laidTests := true, laidLooks := .later }
def TxnNothingCardSaid : Prop := Claim7.holds Tryd.pinned (.plain (OpenSpec.ofChange txnNothingSpec)) txnNothingCard

/-- THE SECOND FORM's CARD OF 'espalierlaw.TxnNothing'. -/
def txnNothingUptoCard : Claim7 := { stood := { row := txnNothingUptoRow, standIns := [], harness := (true, "87d09bedbadc9387924ab90e94f87e1226a6413f28744181d31962c8a09177f4"), looks := false }, kinds := [], alts := [], laidByText := true, laidKinds := [.data, .pinned], laidTests := true, laidLooks := .later }
def TxnNothingUptoCardSaid : Prop := Claim7.holds Tryd.pinned (.plain (OpenSpec.upto txnNothingSpec)) txnNothingUptoCard
end Rows
end Go.Proofs.YtnhbmojhcpcjaaaDoor
