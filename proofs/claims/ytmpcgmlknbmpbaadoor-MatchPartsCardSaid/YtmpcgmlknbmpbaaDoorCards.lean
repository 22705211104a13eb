/-
  DERIVED. GIVEN WITH THE SEED: THE CARDS: each row of YtmpcgmlknbmpbaaDoorRows.lean that lists a variable, with what it lists TIED to the program's text (the seventh form; the later family's looks); each row that meets fmt, with fmt's text TOLD by the authors' own Lean function (tested against real Go, not proved from fmt's source: count such statements apart). THE CARD IS WHAT COUNTS. Prove the row's statement (the work); the ties are given (YtmpcgmlknbmpbaaDoorTie.lean); close each card by the builder's one call (the guide's Derived/Test/ToyasCard.lean, 'card_holds'). Laid BY PROGRAM, IN A SANDBOX (cutbox-door.mjs). By AI agents, Wed Nov 11 2026. No macro, syntax, notation, axiom, sorry.
-/
import Derived.Test.YtmpcgmlknbmpbaaDoorRows
import GoSem.ClaimSeven
namespace Go.Proofs.YtmpcgmlknbmpbaaDoor
namespace Rows

/-- THE TIED CARD OF 'espalierlaw.ReachCloses'. -/
def reachClosesCard : Claim7 := { stood := { row := reachClosesRow, standIns := [], harness := (true, "4b1f0246c835177894bfdf76bae5f321297b35b3204b2ca337c2dc2e3ffedcf3"), looks := false }, kinds := [], alts := [], laidByText := true, laidKinds := [.data, .pinned], laidTests := true, laidLooks := .later }
def ReachClosesCardSaid : Prop := Claim7.holds Tryd.pinned (.plain (OpenSpec.ofChange reachClosesSpec)) reachClosesCard

/-- THE TIED CARD OF 'espalierlaw.MatchParts'. -/
def matchPartsCard : Claim7 := { stood := { row := matchPartsRow, standIns := [], harness := (true, "4b1f0246c835177894bfdf76bae5f321297b35b3204b2ca337c2dc2e3ffedcf3"), looks := false }, kinds := [], alts := [], laidByText := true, laidKinds := [.data, .pinned], laidTests := true, laidLooks := .later }
def MatchPartsCardSaid : Prop := Claim7.holds Tryd.pinned (.plain (OpenSpec.ofChange matchPartsSpec)) matchPartsCard

/-- THE SECOND FORM's CARD OF 'espalierlaw.ReachCloses'. -/
def reachClosesUptoCard : Claim7 := { stood := { row := reachClosesUptoRow, standIns := [], harness := (true, "4b1f0246c835177894bfdf76bae5f321297b35b3204b2ca337c2dc2e3ffedcf3"), looks := false }, kinds := [], alts := [], laidByText := true, laidKinds := [.data, .pinned], laidTests := true, laidLooks := .later }
def ReachClosesUptoCardSaid : Prop := Claim7.holds Tryd.pinned (.plain (OpenSpec.upto reachClosesSpec)) reachClosesUptoCard

/-- THE SECOND FORM's CARD OF 'espalierlaw.MatchParts'. -/
def matchPartsUptoCard : Claim7 := { stood := { row := matchPartsUptoRow, standIns := [], harness := (true, "4b1f0246c835177894bfdf76bae5f321297b35b3204b2ca337c2dc2e3ffedcf3"), looks := false }, kinds := [], alts := [], laidByText := true, laidKinds := [.data, .pinned], laidTests := true, laidLooks := .later }
def MatchPartsUptoCardSaid : Prop := Claim7.holds Tryd.pinned (.plain (OpenSpec.upto matchPartsSpec)) matchPartsUptoCard
end Rows
end Go.Proofs.YtmpcgmlknbmpbaaDoor
