/-
  DERIVED. GIVEN WITH THE SEED: THE CARDS: each row of YtjecnkdkhniflaaDoorRows.lean that lists a variable, with what it lists TIED to the program's text (the seventh form; the later family's looks); each row that meets fmt, with fmt's text TOLD by the authors' own Lean function (tested against real Go, not proved from fmt's source: count such statements apart). THE CARD IS WHAT COUNTS. Prove the row's statement (the work); the ties are given (YtjecnkdkhniflaaDoorTie.lean); close each card by the builder's one call (the guide's Derived/Test/ToyasCard.lean, 'card_holds'). Laid BY PROGRAM, IN A SANDBOX (cutbox-door.mjs). By AI agents, Wed Nov 11 2026. No macro, syntax, notation, axiom, sorry.
-/
import Derived.Test.YtjecnkdkhniflaaDoorRows
import GoSem.ClaimSeven
namespace Go.Proofs.YtjecnkdkhniflaaDoor
namespace Rows

/-- THE TIED CARD OF 'espalierlaw.ReachTurns'. -/
def reachTurnsCard : Claim7 := { stood := { row := reachTurnsRow, standIns := [], harness := (true, "c45710c13faced29b08bfcd0335cf21cb16ecc9b294b8d37b6f587cb2ea8efdd"), looks := false }, kinds := [], alts := [], laidByText := true, laidKinds := [.data, .pinned], laidTests := true, laidLooks := .later }
def ReachTurnsCardSaid : Prop := Claim7.holds Tryd.pinned (.plain (OpenSpec.ofChange reachTurnsSpec)) reachTurnsCard

/-- THE TIED CARD OF 'espalierlaw.ReachPath'. -/
def reachPathCard : Claim7 := { stood := { row := reachPathRow, standIns := [], harness := (true, "c45710c13faced29b08bfcd0335cf21cb16ecc9b294b8d37b6f587cb2ea8efdd"), looks := false }, kinds := [], alts := [], laidByText := true, laidKinds := [.data, .pinned], laidTests := true, laidLooks := .later }
def ReachPathCardSaid : Prop := Claim7.holds Tryd.pinned (.plain (OpenSpec.ofChange reachPathSpec)) reachPathCard

/-- THE SECOND FORM's CARD OF 'espalierlaw.ReachTurns'. -/
def reachTurnsUptoCard : Claim7 := { stood := { row := reachTurnsUptoRow, standIns := [], harness := (true, "c45710c13faced29b08bfcd0335cf21cb16ecc9b294b8d37b6f587cb2ea8efdd"), looks := false }, kinds := [], alts := [], laidByText := true, laidKinds := [.data, .pinned], laidTests := true, laidLooks := .later }
def ReachTurnsUptoCardSaid : Prop := Claim7.holds Tryd.pinned (.plain (OpenSpec.upto reachTurnsSpec)) reachTurnsUptoCard

/-- THE SECOND FORM's CARD OF 'espalierlaw.ReachPath'. -/
def reachPathUptoCard : Claim7 := { stood := { row := reachPathUptoRow, standIns := [], harness := (true, "c45710c13faced29b08bfcd0335cf21cb16ecc9b294b8d37b6f587cb2ea8efdd"), looks := false }, kinds := [], alts := [], laidByText := true, laidKinds := [.data, .pinned], laidTests := true, laidLooks := .later }
def ReachPathUptoCardSaid : Prop := Claim7.holds Tryd.pinned (.plain (OpenSpec.upto reachPathSpec)) reachPathUptoCard
end Rows
end Go.Proofs.YtjecnkdkhniflaaDoor
