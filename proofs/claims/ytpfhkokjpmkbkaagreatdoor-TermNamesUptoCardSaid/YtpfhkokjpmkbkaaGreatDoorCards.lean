/-
  DERIVED. GIVEN WITH THE SEED: THE CARDS: each row of YtpfhkokjpmkbkaaGreatDoorRows.lean that lists a variable, with what it lists TIED to the program's text (the seventh form; the later family's looks); each row that meets fmt, with fmt's text TOLD by the authors' own Lean function (tested against real Go, not proved from fmt's source: count such statements apart). THE CARD IS WHAT COUNTS. Prove the row's statement (the work); the ties are given (YtpfhkokjpmkbkaaGreatDoorTie.lean); close each card by the builder's one call (the guide's Derived/Test/ToyasCard.lean, 'card_holds'). Laid BY PROGRAM, IN A SANDBOX (cutbox-door.mjs). By AI agents, Wed Nov 11 2026. No macro, syntax, notation, axiom, sorry.
-/
import Derived.Test.YtpfhkokjpmkbkaaGreatDoorRows
import GoSem.ClaimSeven
namespace Go.Proofs.YtpfhkokjpmkbkaaGreatDoor
namespace Rows

/-- THE TIED CARD OF 'espalierlaw.TermNames'. -/
def termNamesCard : Claim7 := { stood := { row := termNamesRow, standIns := [], harness := (true, "30f2041bb88b113865467f12ddd8b2762c2bdc3a0446f015f51a479b648fbd4f"), looks := false }, kinds := [], alts := [], laidByText := true, laidKinds := [.data, .pinned], laidTests := true, laidLooks := .later }
def TermNamesCardSaid : Prop := Claim7.holds Tryz.pinned (.plain (OpenSpec.ofChange termNamesSpec)) termNamesCard

/-- THE SECOND FORM's CARD OF 'espalierlaw.TermNames'. -/
def termNamesUptoCard : Claim7 := { stood := { row := termNamesUptoRow, standIns := [], harness := (true, "30f2041bb88b113865467f12ddd8b2762c2bdc3a0446f015f51a479b648fbd4f"), looks := false }, kinds := [], alts := [], laidByText := true, laidKinds := [.data, .pinned], laidTests := true, laidLooks := .later }
def TermNamesUptoCardSaid : Prop := Claim7.holds Tryz.pinned (.plain (OpenSpec.upto termNamesSpec)) termNamesUptoCard
end Rows
end Go.Proofs.YtpfhkokjpmkbkaaGreatDoor
