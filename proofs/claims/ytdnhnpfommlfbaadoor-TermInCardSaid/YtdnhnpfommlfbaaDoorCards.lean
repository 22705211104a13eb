/-
  DERIVED. GIVEN WITH THE SEED: THE CARDS: each row of YtdnhnpfommlfbaaDoorRows.lean that lists a variable, with what it lists TIED to the program's text (the seventh form; the later family's looks); each row that meets fmt, with fmt's text TOLD by the authors' own Lean function (tested against real Go, not proved from fmt's source: count such statements apart). THE CARD IS WHAT COUNTS. Prove the row's statement (the work); the ties are given (YtdnhnpfommlfbaaDoorTie.lean); close each card by the builder's one call (the guide's Derived/Test/ToyasCard.lean, 'card_holds'). Laid BY PROGRAM, IN A SANDBOX (cutbox-door.mjs). By AI agents, Wed Nov 11 2026. No macro, syntax, notation, axiom, sorry.
-/
import Derived.Test.YtdnhnpfommlfbaaDoorRows
import GoSem.ClaimSeven
namespace Go.Proofs.YtdnhnpfommlfbaaDoor
namespace Rows

/-- THE TIED CARD OF 'espalierlaw.TermKleene'. -/
def termKleeneCard : Claim7 := { stood := { row := termKleeneRow, standIns := [], harness := (true, "1e528a4afe86d290b420b34bca1d24e9cd835e31503bfdaccecd5fb2b7cd09cd"), looks := false }, kinds := [], alts := [], laidByText := true, laidKinds := [.data, .pinned], laidTests := true, laidLooks := .later }
def TermKleeneCardSaid : Prop := Claim7.holds Tryd.pinned (.plain (OpenSpec.ofChange termKleeneSpec)) termKleeneCard

/-- THE TIED CARD OF 'espalierlaw.TermIn'. -/
def termInCard : Claim7 := { stood := { row := termInRow, standIns := [], harness := (true, "1e528a4afe86d290b420b34bca1d24e9cd835e31503bfdaccecd5fb2b7cd09cd"), looks := false }, kinds := [], alts := [], laidByText := true, laidKinds := [.data, .pinned], laidTests := true, laidLooks := .later }
def TermInCardSaid : Prop := Claim7.holds Tryd.pinned (.plain (OpenSpec.ofChange termInSpec)) termInCard

/-- THE TIED CARD OF 'espalierlaw.TermTwice'. -/
def termTwiceCard : Claim7 := { stood := { row := termTwiceRow, standIns := [], harness := (true, "1e528a4afe86d290b420b34bca1d24e9cd835e31503bfdaccecd5fb2b7cd09cd"), looks := false }, kinds := [], alts := [], laidByText := true, laidKinds := [.data, .pinned], laidTests := true, laidLooks := .later }
def TermTwiceCardSaid : Prop := Claim7.holds Tryd.pinned (.plain (OpenSpec.ofChange termTwiceSpec)) termTwiceCard

/-- THE SECOND FORM's CARD OF 'espalierlaw.TermKleene'. -/
def termKleeneUptoCard : Claim7 := { stood := { row := termKleeneUptoRow, standIns := [], harness := (true, "1e528a4afe86d290b420b34bca1d24e9cd835e31503bfdaccecd5fb2b7cd09cd"), looks := false }, kinds := [], alts := [], laidByText := true, laidKinds := [.data, .pinned], laidTests := true, laidLooks := .later }
def TermKleeneUptoCardSaid : Prop := Claim7.holds Tryd.pinned (.plain (OpenSpec.upto termKleeneSpec)) termKleeneUptoCard

/-- THE SECOND FORM's CARD OF 'espalierlaw.TermIn'. -/
def termInUptoCard : Claim7 := { stood := { row := termInUptoRow, standIns := [], harness := (true, "1e528a4afe86d290b420b34bca1d24e9cd835e31503bfdaccecd5fb2b7cd09cd"), looks := false }, kinds := [], alts := [], laidByText := true, laidKinds := [.data, .pinned], laidTests := true, laidLooks := .later }
def TermInUptoCardSaid : Prop := Claim7.holds Tryd.pinned (.plain (OpenSpec.upto termInSpec)) termInUptoCard

/-- THE SECOND FORM's CARD OF 'espalierlaw.TermTwice'. -/
def termTwiceUptoCard : Claim7 := { stood := { row := termTwiceUptoRow, standIns := [], harness := (true, "1e528a4afe86d290b420b34bca1d24e9cd835e31503bfdaccecd5fb2b7cd09cd"), looks := false }, kinds := [], alts := [], laidByText := true, laidKinds := [.data, .pinned], laidTests := true, laidLooks := .later }
def TermTwiceUptoCardSaid : Prop := Claim7.holds Tryd.pinned (.plain (OpenSpec.upto termTwiceSpec)) termTwiceUptoCard
end Rows
end Go.Proofs.YtdnhnpfommlfbaaDoor
