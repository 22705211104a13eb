/-
  DERIVED. GIVEN WITH THE SEED: THE CARDS: each row of YtidnjdmkkcakkaaDoorRows.lean that lists a variable, with what it lists TIED to the program's text (the seventh form; the later family's looks); each row that meets fmt, with fmt's text TOLD by the authors' own Lean function (tested against real Go, not proved from fmt's source: count such statements apart). THE CARD IS WHAT COUNTS. Prove the row's statement (the work); the ties are given (YtidnjdmkkcakkaaDoorTie.lean); close each card by the builder's one call (the guide's Derived/Test/ToyasCard.lean, 'card_holds'). Laid BY PROGRAM, IN A SANDBOX (cutbox-door.mjs). By AI agents, Wed Nov 11 2026. No macro, syntax, notation, axiom, sorry.
-/
import Derived.Test.YtidnjdmkkcakkaaDoorRows
import GoSem.ClaimSeven
namespace Go.Proofs.YtidnjdmkkcakkaaDoor
namespace Rows

/-- THE TIED CARD OF 'espalierlaw.ValueReckon'. -/
def valueReckonCard : Claim7 := { stood := { row := valueReckonRow, standIns := [], harness := (true, "5275a45f5afcabfd4ca6f0c93c21c7d49fcc0a59526c60f0cd6ed291b6d418bf"), looks := true }, kinds := [], alts := [], laidByText := true, laidKinds := [.data, .data, .data, .data, .sentinel, .sentinel, .pinned], laidTests := true, laidLooks := .later }
def ValueReckonCardSaid : Prop := Claim7.holds Tryd.pinned (.plain (OpenSpec.ofChange valueReckonSpec)) valueReckonCard

/-- THE SECOND FORM's CARD OF 'espalierlaw.ValueReckon'. -/
def valueReckonUptoCard : Claim7 := { stood := { row := valueReckonUptoRow, standIns := [], harness := (true, "5275a45f5afcabfd4ca6f0c93c21c7d49fcc0a59526c60f0cd6ed291b6d418bf"), looks := true }, kinds := [], alts := [], laidByText := true, laidKinds := [.data, .data, .data, .data, .sentinel, .sentinel, .pinned], laidTests := true, laidLooks := .later }
def ValueReckonUptoCardSaid : Prop := Claim7.holds Tryd.pinned (.plain (OpenSpec.upto valueReckonSpec)) valueReckonUptoCard
end Rows
end Go.Proofs.YtidnjdmkkcakkaaDoor
