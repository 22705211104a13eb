/-
  DERIVED. GIVEN WITH THE SEED: THE CARDS: each row of YtbbffefjgmcmnaaDoorRows.lean that lists a variable, with what it lists TIED to the program's text (the seventh form; the later family's looks); each row that meets fmt, with fmt's text TOLD by the authors' own Lean function (tested against real Go, not proved from fmt's source: count such statements apart). THE CARD IS WHAT COUNTS. Prove the row's statement (the work); the ties are given (YtbbffefjgmcmnaaDoorTie.lean); close each card by the builder's one call (the guide's Derived/Test/ToyasCard.lean, 'card_holds'). Laid BY PROGRAM, IN A SANDBOX (cutbox-door.mjs). By AI agents, Wed Nov 11 2026. No macro, syntax, notation, axiom, sorry.
-/
import Derived.Test.YtbbffefjgmcmnaaDoorRows
import GoSem.ClaimSeven
namespace Go.Proofs.YtbbffefjgmcmnaaDoor
namespace Rows

/-- THE TIED CARD OF 'espalierlaw.GraphNames'. -/
def graphNamesCard : Claim7 := { stood := { row := graphNamesRow, standIns := [], harness := (true, "4033c24e14a828c269c15a1f3a6f896fa6519266503e6ff3be6befba8b22897f"), looks := false }, kinds := [], alts := [], laidByText := true, laidKinds := [.data, .pinned], laidTests := true, laidLooks := .later }
def GraphNamesCardSaid : Prop := Claim7.holds Tryd.pinned (.plain (OpenSpec.ofChange graphNamesSpec)) graphNamesCard

/-- THE TIED CARD OF 'espalierlaw.GraphCheck'. -/
def graphCheckCard : Claim7 := { stood := { row := graphCheckRow, standIns := [], harness := (true, "4033c24e14a828c269c15a1f3a6f896fa6519266503e6ff3be6befba8b22897f"), looks := false }, kinds := [], alts := [], laidByText := true, laidKinds := [.data, .pinned], laidTests := true, laidLooks := .later }
def GraphCheckCardSaid : Prop := Claim7.holds Tryd.pinned (.plain (OpenSpec.ofChange graphCheckSpec)) graphCheckCard

/-- THE TIED CARD OF 'espalierlaw.GraphProp'. -/
def graphPropCard : Claim7 := { stood := { row := graphPropRow, standIns := [], harness := (true, "4033c24e14a828c269c15a1f3a6f896fa6519266503e6ff3be6befba8b22897f"), looks := false }, kinds := [], alts := [], laidByText := true, laidKinds := [.data, .pinned], laidTests := true, laidLooks := .later }
def GraphPropCardSaid : Prop := Claim7.holds Tryd.pinned (.plain (OpenSpec.ofChange graphPropSpec)) graphPropCard

/-- THE TIED CARD OF 'espalierlaw.GraphAround'. -/
def graphAroundCard : Claim7 := { stood := { row := graphAroundRow, standIns := [], harness := (true, "4033c24e14a828c269c15a1f3a6f896fa6519266503e6ff3be6befba8b22897f"), looks := false }, kinds := [], alts := [], laidByText := true, laidKinds := [.data, .pinned], laidTests := true, laidLooks := .later }
def GraphAroundCardSaid : Prop := Claim7.holds Tryd.pinned (.plain (OpenSpec.ofChange graphAroundSpec)) graphAroundCard

/-- THE TIED CARD OF 'espalierlaw.TermKleene'. -/
def termKleeneCard : Claim7 := { stood := { row := termKleeneRow, standIns := [], harness := (true, "4033c24e14a828c269c15a1f3a6f896fa6519266503e6ff3be6befba8b22897f"), looks := false }, kinds := [], alts := [], laidByText := true, laidKinds := [.data, .pinned], laidTests := true, laidLooks := .later }
def TermKleeneCardSaid : Prop := Claim7.holds Tryd.pinned (.plain (OpenSpec.ofChange termKleeneSpec)) termKleeneCard

/-- THE TIED CARD OF 'espalierlaw.TermIn'. -/
def termInCard : Claim7 := { stood := { row := termInRow, standIns := [], harness := (true, "4033c24e14a828c269c15a1f3a6f896fa6519266503e6ff3be6befba8b22897f"), looks := false }, kinds := [], alts := [], laidByText := true, laidKinds := [.data, .pinned], laidTests := true, laidLooks := .later }
def TermInCardSaid : Prop := Claim7.holds Tryd.pinned (.plain (OpenSpec.ofChange termInSpec)) termInCard

/-- THE TIED CARD OF 'espalierlaw.TermTwice'. -/
def termTwiceCard : Claim7 := { stood := { row := termTwiceRow, standIns := [], harness := (true, "4033c24e14a828c269c15a1f3a6f896fa6519266503e6ff3be6befba8b22897f"), looks := false }, kinds := [], alts := [], laidByText := true, laidKinds := [.data, .pinned], laidTests := true, laidLooks := .later }
def TermTwiceCardSaid : Prop := Claim7.holds Tryd.pinned (.plain (OpenSpec.ofChange termTwiceSpec)) termTwiceCard

/-- THE TIED CARD OF 'espalierlaw.BagCheck'. -/
def bagCheckCard : Claim7 := { stood := { row := bagCheckRow, standIns := [], harness := (true, "4033c24e14a828c269c15a1f3a6f896fa6519266503e6ff3be6befba8b22897f"), looks := false }, kinds := [], alts := [], laidByText := true, laidKinds := [.data, .pinned], laidTests := true, laidLooks := .later }
def BagCheckCardSaid : Prop := Claim7.holds Tryd.pinned (.plain (OpenSpec.ofChange bagCheckSpec)) bagCheckCard

/-- THE SECOND FORM's CARD OF 'espalierlaw.GraphNames'. -/
def graphNamesUptoCard : Claim7 := { stood := { row := graphNamesUptoRow, standIns := [], harness := (true, "4033c24e14a828c269c15a1f3a6f896fa6519266503e6ff3be6befba8b22897f"), looks := false }, kinds := [], alts := [], laidByText := true, laidKinds := [.data, .pinned], laidTests := true, laidLooks := .later }
def GraphNamesUptoCardSaid : Prop := Claim7.holds Tryd.pinned (.plain (OpenSpec.upto graphNamesSpec)) graphNamesUptoCard

/-- THE SECOND FORM's CARD OF 'espalierlaw.GraphCheck'. -/
def graphCheckUptoCard : Claim7 := { stood := { row := graphCheckUptoRow, standIns := [], harness := (true, "4033c24e14a828c269c15a1f3a6f896fa6519266503e6ff3be6befba8b22897f"), looks := false }, kinds := [], alts := [], laidByText := true, laidKinds := [.data, .pinned], laidTests := true, laidLooks := .later }
def GraphCheckUptoCardSaid : Prop := Claim7.holds Tryd.pinned (.plain (OpenSpec.upto graphCheckSpec)) graphCheckUptoCard

/-- THE SECOND FORM's CARD OF 'espalierlaw.GraphProp'. -/
def graphPropUptoCard : Claim7 := { stood := { row := graphPropUptoRow, standIns := [], harness := (true, "4033c24e14a828c269c15a1f3a6f896fa6519266503e6ff3be6befba8b22897f"), looks := false }, kinds := [], alts := [], laidByText := true, laidKinds := [.data, .pinned], laidTests := true, laidLooks := .later }
def GraphPropUptoCardSaid : Prop := Claim7.holds Tryd.pinned (.plain (OpenSpec.upto graphPropSpec)) graphPropUptoCard

/-- THE SECOND FORM's CARD OF 'espalierlaw.GraphAround'. -/
def graphAroundUptoCard : Claim7 := { stood := { row := graphAroundUptoRow, standIns := [], harness := (true, "4033c24e14a828c269c15a1f3a6f896fa6519266503e6ff3be6befba8b22897f"), looks := false }, kinds := [], alts := [], laidByText := true, laidKinds := [.data, .pinned], laidTests := true, laidLooks := .later }
def GraphAroundUptoCardSaid : Prop := Claim7.holds Tryd.pinned (.plain (OpenSpec.upto graphAroundSpec)) graphAroundUptoCard

/-- THE SECOND FORM's CARD OF 'espalierlaw.TermKleene'. -/
def termKleeneUptoCard : Claim7 := { stood := { row := termKleeneUptoRow, standIns := [], harness := (true, "4033c24e14a828c269c15a1f3a6f896fa6519266503e6ff3be6befba8b22897f"), looks := false }, kinds := [], alts := [], laidByText := true, laidKinds := [.data, .pinned], laidTests := true, laidLooks := .later }
def TermKleeneUptoCardSaid : Prop := Claim7.holds Tryd.pinned (.plain (OpenSpec.upto termKleeneSpec)) termKleeneUptoCard

/-- THE SECOND FORM's CARD OF 'espalierlaw.TermIn'. -/
def termInUptoCard : Claim7 := { stood := { row := termInUptoRow, standIns := [], harness := (true, "4033c24e14a828c269c15a1f3a6f896fa6519266503e6ff3be6befba8b22897f"), looks := false }, kinds := [], alts := [], laidByText := true, laidKinds := [.data, .pinned], laidTests := true, laidLooks := .later }
def TermInUptoCardSaid : Prop := Claim7.holds Tryd.pinned (.plain (OpenSpec.upto termInSpec)) termInUptoCard

/-- THE SECOND FORM's CARD OF 'espalierlaw.TermTwice'. -/
def termTwiceUptoCard : Claim7 := { stood := { row := termTwiceUptoRow, standIns := [], harness := (true, "4033c24e14a828c269c15a1f3a6f896fa6519266503e6ff3be6befba8b22897f"), looks := false }, kinds := [], alts := [], laidByText := true, laidKinds := [.data, .pinned], laidTests := true, laidLooks := .later }
def TermTwiceUptoCardSaid : Prop := Claim7.holds Tryd.pinned (.plain (OpenSpec.upto termTwiceSpec)) termTwiceUptoCard

/-- THE SECOND FORM's CARD OF 'espalierlaw.BagCheck'. -/
def bagCheckUptoCard : Claim7 := { stood := { row := bagCheckUptoRow, standIns := [], harness := (true, "4033c24e14a828c269c15a1f3a6f896fa6519266503e6ff3be6befba8b22897f"), looks := false }, kinds := [], alts := [], laidByText := true, laidKinds := [.data, .pinned], laidTests := true, laidLooks := .later }
def BagCheckUptoCardSaid : Prop := Claim7.holds Tryd.pinned (.plain (OpenSpec.upto bagCheckSpec)) bagCheckUptoCard
end Rows
end Go.Proofs.YtbbffefjgmcmnaaDoor
