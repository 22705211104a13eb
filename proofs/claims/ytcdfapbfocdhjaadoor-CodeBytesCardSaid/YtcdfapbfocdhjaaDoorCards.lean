/-
  DERIVED. GIVEN WITH THE SEED: THE CARDS: each row of YtcdfapbfocdhjaaDoorRows.lean that lists a variable, with what it lists TIED to the program's text (the seventh form; the later family's looks); each row that meets fmt, with fmt's text TOLD by the authors' own Lean function (tested against real Go, not proved from fmt's source: count such statements apart). THE CARD IS WHAT COUNTS. Prove the row's statement (the work); the ties are given (YtcdfapbfocdhjaaDoorTie.lean); close each card by the builder's one call (the guide's Derived/Test/ToyasCard.lean, 'card_holds'). Laid BY PROGRAM, IN A SANDBOX (cutbox-door.mjs). By AI agents, Wed Nov 11 2026. No macro, syntax, notation, axiom, sorry.
-/
import Derived.Test.YtcdfapbfocdhjaaDoorRows
import GoSem.ClaimSeven
namespace Go.Proofs.YtcdfapbfocdhjaaDoor
namespace Rows

/-- THE TIED CARD OF 'espalierlaw.CodeBytes'. -/
def codeBytesCard : Claim7 := { stood := { row := codeBytesRow, standIns := [], harness := (true, "13bb298ccaf69d7e668aa590a9e0a1eeb79610f5fafa1aedfd67acd8820a99b3"), looks := false }, kinds := [], alts := [], laidByText := true, laidKinds := [.data, .sentinel, .pinned], laidTests := true, laidLooks := .later }
def CodeBytesCardSaid : Prop := Claim7.holds Tryd.pinned (.plain (OpenSpec.ofChange codeBytesSpec)) codeBytesCard

/-- THE SECOND FORM's CARD OF 'espalierlaw.CodeBytes'. -/
def codeBytesUptoCard : Claim7 := { stood := { row := codeBytesUptoRow, standIns := [], harness := (true, "13bb298ccaf69d7e668aa590a9e0a1eeb79610f5fafa1aedfd67acd8820a99b3"), looks := false }, kinds := [], alts := [], laidByText := true, laidKinds := [.data, .sentinel, .pinned], laidTests := true, laidLooks := .later }
def CodeBytesUptoCardSaid : Prop := Claim7.holds Tryd.pinned (.plain (OpenSpec.upto codeBytesSpec)) codeBytesUptoCard
end Rows
end Go.Proofs.YtcdfapbfocdhjaaDoor
