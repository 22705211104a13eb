/-
  DERIVED. GIVEN WITH THE SEED: THE CARDS: each row of YtlheengcpaepnaaDoorRows.lean that lists a variable, with what it lists TIED to the program's text (the seventh form; the later family's looks); each row that meets fmt, with fmt's text TOLD by the authors' own Lean function (tested against real Go, not proved from fmt's source: count such statements apart). THE CARD IS WHAT COUNTS. Prove the row's statement (the work); the ties are given (YtlheengcpaepnaaDoorTie.lean); close each card by the builder's one call (the guide's Derived/Test/ToyasCard.lean, 'card_holds'). Laid BY PROGRAM, IN A SANDBOX (cutbox-door.mjs). By AI agents, Wed Nov 11 2026. No macro, syntax, notation, axiom, sorry.
-/
import Derived.Test.YtlheengcpaepnaaDoorRows
import GoSem.ClaimSeven
namespace Go.Proofs.YtlheengcpaepnaaDoor
namespace Rows

/-- THE TIED CARD OF 'espalierlaw.ValueCheck'. -/
def valueCheckCard : Claim7 := { stood := { row := valueCheckRow, standIns := [], harness := (true, "b989a69a5ac23ad0f78b9277aa111cb0bff69006bfda429bc10e069828e3d2cd"), looks := true }, kinds := [], alts := [], laidByText := true, laidKinds := [.data, .data, .data, .data, .sentinel, .sentinel, .pinned], laidTests := true, laidLooks := .later }
def ValueCheckCardSaid : Prop := Claim7.holds Tryd.pinned (.plain (OpenSpec.ofChange valueCheckSpec)) valueCheckCard

/-- THE SECOND FORM's CARD OF 'espalierlaw.ValueCheck'. -/
def valueCheckUptoCard : Claim7 := { stood := { row := valueCheckUptoRow, standIns := [], harness := (true, "b989a69a5ac23ad0f78b9277aa111cb0bff69006bfda429bc10e069828e3d2cd"), looks := true }, kinds := [], alts := [], laidByText := true, laidKinds := [.data, .data, .data, .data, .sentinel, .sentinel, .pinned], laidTests := true, laidLooks := .later }
def ValueCheckUptoCardSaid : Prop := Claim7.holds Tryd.pinned (.plain (OpenSpec.upto valueCheckSpec)) valueCheckUptoCard
end Rows
end Go.Proofs.YtlheengcpaepnaaDoor
