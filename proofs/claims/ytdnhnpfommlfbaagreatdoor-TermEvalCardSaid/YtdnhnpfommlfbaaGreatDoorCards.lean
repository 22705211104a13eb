/-
  DERIVED. GIVEN WITH THE SEED: THE CARDS: each row of YtdnhnpfommlfbaaGreatDoorRows.lean that lists a variable, with what it lists TIED to the program's text (the seventh form; the later family's looks); each row that meets fmt, with fmt's text TOLD by the authors' own Lean function (tested against real Go, not proved from fmt's source: count such statements apart). THE CARD IS WHAT COUNTS. Prove the row's statement (the work); the ties are given (YtdnhnpfommlfbaaGreatDoorTie.lean); close each card by the builder's one call (the guide's Derived/Test/ToyasCard.lean, 'card_holds'). Laid BY PROGRAM, IN A SANDBOX (cutbox-door.mjs). By AI agents, Wed Nov 11 2026. No macro, syntax, notation, axiom, sorry.
-/
import Derived.Test.YtdnhnpfommlfbaaGreatDoorRows
import GoSem.ClaimSeven
namespace Go.Proofs.YtdnhnpfommlfbaaGreatDoor
namespace Rows

/-- THE TIED CARD OF 'espalierlaw.TermEval'. -/
def termEvalCard : Claim7 := { stood := { row := termEvalRow, standIns := [], harness := (true, "74adab114d92711add14639573717ee1d38f0ac256a5135de4667f64245b35f1"), looks := false }, kinds := [], alts := [], laidByText := true, laidKinds := [.data, .pinned], laidTests := true, laidLooks := .later }
def TermEvalCardSaid : Prop := Claim7.holds Tryz.pinned (.plain (OpenSpec.ofChange termEvalSpec)) termEvalCard

/-- THE TIED CARD OF 'espalierlaw.TermNames'. -/
def termNamesCard : Claim7 := { stood := { row := termNamesRow, standIns := [], harness := (true, "74adab114d92711add14639573717ee1d38f0ac256a5135de4667f64245b35f1"), looks := false }, kinds := [], alts := [], laidByText := true, laidKinds := [.data, .pinned], laidTests := true, laidLooks := .later }
def TermNamesCardSaid : Prop := Claim7.holds Tryz.pinned (.plain (OpenSpec.ofChange termNamesSpec)) termNamesCard

/-- THE SECOND FORM's CARD OF 'espalierlaw.TermEval'. -/
def termEvalUptoCard : Claim7 := { stood := { row := termEvalUptoRow, standIns := [], harness := (true, "74adab114d92711add14639573717ee1d38f0ac256a5135de4667f64245b35f1"), looks := false }, kinds := [], alts := [], laidByText := true, laidKinds := [.data, .pinned], laidTests := true, laidLooks := .later }
def TermEvalUptoCardSaid : Prop := Claim7.holds Tryz.pinned (.plain (OpenSpec.upto termEvalSpec)) termEvalUptoCard

/-- THE SECOND FORM's CARD OF 'espalierlaw.TermNames'. -/
def termNamesUptoCard : Claim7 := { stood := { row := termNamesUptoRow, standIns := [], harness := (true, "74adab114d92711add14639573717ee1d38f0ac256a5135de4667f64245b35f1"), looks := false }, kinds := [], alts := [], laidByText := true, laidKinds := [.data, .pinned], laidTests := true, laidLooks := .later }
def TermNamesUptoCardSaid : Prop := Claim7.holds Tryz.pinned (.plain (OpenSpec.upto termNamesSpec)) termNamesUptoCard
end Rows
end Go.Proofs.YtdnhnpfommlfbaaGreatDoor
