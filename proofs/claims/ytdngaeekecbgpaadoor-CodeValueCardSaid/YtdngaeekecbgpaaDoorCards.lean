/-
  DERIVED. GIVEN WITH THE SEED: THE CARDS: each row of YtdngaeekecbgpaaDoorRows.lean that lists a variable, with what it lists TIED to the program's text (the seventh form; the later family's looks); each row that meets fmt, with fmt's text TOLD by the authors' own Lean function (tested against real Go, not proved from fmt's source: count such statements apart). THE CARD IS WHAT COUNTS. Prove the row's statement (the work); the ties are given (YtdngaeekecbgpaaDoorTie.lean); close each card by the builder's one call (the guide's Derived/Test/ToyasCard.lean, 'card_holds'). Laid BY PROGRAM, IN A SANDBOX (cutbox-door.mjs). By AI agents, Wed Nov 11 2026. No macro, syntax, notation, axiom, sorry.
-/
import Derived.Test.YtdngaeekecbgpaaDoorRows
import GoSem.ClaimSeven
namespace Go.Proofs.YtdngaeekecbgpaaDoor
namespace Rows

/-- THE TIED CARD OF 'espalierlaw.CodeInts'. -/
def codeIntsCard : Claim7 := { stood := { row := codeIntsRow, standIns := [], harness := (true, "0602ed7980d4eca8e0b88fe250a7107c6b921b553603e704e693436d923de49b"), looks := false }, kinds := [], alts := [], laidByText := true, laidKinds := [.data, .pinned], laidTests := true, laidLooks := .later }
def CodeIntsCardSaid : Prop := Claim7.holds Tryd.pinned (.plain (OpenSpec.ofChange codeIntsSpec)) codeIntsCard

/-- THE TIED CARD OF 'espalierlaw.CodeTorn'. -/
def codeTornCard : Claim7 := { stood := { row := codeTornRow, standIns := [], harness := (true, "0602ed7980d4eca8e0b88fe250a7107c6b921b553603e704e693436d923de49b"), looks := false }, kinds := [], alts := [], laidByText := true, laidKinds := [.data, .pinned], laidTests := true, laidLooks := .later }
def CodeTornCardSaid : Prop := Claim7.holds Tryd.pinned (.plain (OpenSpec.ofChange codeTornSpec)) codeTornCard

/-- THE TIED CARD OF 'espalierlaw.CodeFrame'. -/
def codeFrameCard : Claim7 := { stood := { row := codeFrameRow, standIns := [], harness := (true, "0602ed7980d4eca8e0b88fe250a7107c6b921b553603e704e693436d923de49b"), looks := false }, kinds := [], alts := [], laidByText := true, laidKinds := [.data, .pinned], laidTests := true, laidLooks := .later }
def CodeFrameCardSaid : Prop := Claim7.holds Tryd.pinned (.plain (OpenSpec.ofChange codeFrameSpec)) codeFrameCard

/-- THE TIED CARD OF 'espalierlaw.CodeValue'. -/
def codeValueCard : Claim7 := { stood := { row := codeValueRow, standIns := [], harness := (true, "0602ed7980d4eca8e0b88fe250a7107c6b921b553603e704e693436d923de49b"), looks := false }, kinds := [], alts := [], laidByText := true, laidKinds := [.data, .pinned], laidTests := true, laidLooks := .later }
def CodeValueCardSaid : Prop := Claim7.holds Tryd.pinned (.plain (OpenSpec.ofChange codeValueSpec)) codeValueCard

/-- THE TIED CARD OF 'espalierlaw.CodeBack'. -/
def codeBackCard : Claim7 := { stood := { row := codeBackRow, standIns := [], harness := (true, "0602ed7980d4eca8e0b88fe250a7107c6b921b553603e704e693436d923de49b"), looks := false }, kinds := [], alts := [], laidByText := true, laidKinds := [.data, .pinned], laidTests := true, laidLooks := .later }
def CodeBackCardSaid : Prop := Claim7.holds Tryd.pinned (.plain (OpenSpec.ofChange codeBackSpec)) codeBackCard

/-- THE TIED CARD OF 'espalierlaw.CodeSplits'. -/
def codeSplitsCard : Claim7 := { stood := { row := codeSplitsRow, standIns := [], harness := (true, "0602ed7980d4eca8e0b88fe250a7107c6b921b553603e704e693436d923de49b"), looks := false }, kinds := [], alts := [], laidByText := true, laidKinds := [.data, .pinned], laidTests := true, laidLooks := .later }
def CodeSplitsCardSaid : Prop := Claim7.holds Tryd.pinned (.plain (OpenSpec.ofChange codeSplitsSpec)) codeSplitsCard

/-- THE TIED CARD OF 'espalierlaw.CodeBytes'. -/
def codeBytesCard : Claim7 := { stood := { row := codeBytesRow, standIns := [], harness := (true, "0602ed7980d4eca8e0b88fe250a7107c6b921b553603e704e693436d923de49b"), looks := false }, kinds := [], alts := [], laidByText := true, laidKinds := [.data, .sentinel, .pinned], laidTests := true, laidLooks := .later }
def CodeBytesCardSaid : Prop := Claim7.holds Tryd.pinned (.plain (OpenSpec.ofChange codeBytesSpec)) codeBytesCard

/-- THE SECOND FORM's CARD OF 'espalierlaw.CodeInts'. -/
def codeIntsUptoCard : Claim7 := { stood := { row := codeIntsUptoRow, standIns := [], harness := (true, "0602ed7980d4eca8e0b88fe250a7107c6b921b553603e704e693436d923de49b"), looks := false }, kinds := [], alts := [], laidByText := true, laidKinds := [.data, .pinned], laidTests := true, laidLooks := .later }
def CodeIntsUptoCardSaid : Prop := Claim7.holds Tryd.pinned (.plain (OpenSpec.upto codeIntsSpec)) codeIntsUptoCard

/-- THE SECOND FORM's CARD OF 'espalierlaw.CodeTorn'. -/
def codeTornUptoCard : Claim7 := { stood := { row := codeTornUptoRow, standIns := [], harness := (true, "0602ed7980d4eca8e0b88fe250a7107c6b921b553603e704e693436d923de49b"), looks := false }, kinds := [], alts := [], laidByText := true, laidKinds := [.data, .pinned], laidTests := true, laidLooks := .later }
def CodeTornUptoCardSaid : Prop := Claim7.holds Tryd.pinned (.plain (OpenSpec.upto codeTornSpec)) codeTornUptoCard

/-- THE SECOND FORM's CARD OF 'espalierlaw.CodeFrame'. -/
def codeFrameUptoCard : Claim7 := { stood := { row := codeFrameUptoRow, standIns := [], harness := (true, "0602ed7980d4eca8e0b88fe250a7107c6b921b553603e704e693436d923de49b"), looks := false }, kinds := [], alts := [], laidByText := true, laidKinds := [.data, .pinned], laidTests := true, laidLooks := .later }
def CodeFrameUptoCardSaid : Prop := Claim7.holds Tryd.pinned (.plain (OpenSpec.upto codeFrameSpec)) codeFrameUptoCard

/-- THE SECOND FORM's CARD OF 'espalierlaw.CodeValue'. -/
def codeValueUptoCard : Claim7 := { stood := { row := codeValueUptoRow, standIns := [], harness := (true, "0602ed7980d4eca8e0b88fe250a7107c6b921b553603e704e693436d923de49b"), looks := false }, kinds := [], alts := [], laidByText := true, laidKinds := [.data, .pinned], laidTests := true, laidLooks := .later }
def CodeValueUptoCardSaid : Prop := Claim7.holds Tryd.pinned (.plain (OpenSpec.upto codeValueSpec)) codeValueUptoCard

/-- THE SECOND FORM's CARD OF 'espalierlaw.CodeBack'. -/
def codeBackUptoCard : Claim7 := { stood := { row := codeBackUptoRow, standIns := [], harness := (true, "0602ed7980d4eca8e0b88fe250a7107c6b921b553603e704e693436d923de49b"), looks := false }, kinds := [], alts := [], laidByText := true, laidKinds := [.data, .pinned], laidTests := true, laidLooks := .later }
def CodeBackUptoCardSaid : Prop := Claim7.holds Tryd.pinned (.plain (OpenSpec.upto codeBackSpec)) codeBackUptoCard

/-- THE SECOND FORM's CARD OF 'espalierlaw.CodeSplits'. -/
def codeSplitsUptoCard : Claim7 := { stood := { row := codeSplitsUptoRow, standIns := [], harness := (true, "0602ed7980d4eca8e0b88fe250a7107c6b921b553603e704e693436d923de49b"), looks := false }, kinds := [], alts := [], laidByText := true, laidKinds := [.data, .pinned], laidTests := true, laidLooks := .later }
def CodeSplitsUptoCardSaid : Prop := Claim7.holds Tryd.pinned (.plain (OpenSpec.upto codeSplitsSpec)) codeSplitsUptoCard

/-- THE SECOND FORM's CARD OF 'espalierlaw.CodeBytes'. -/
def codeBytesUptoCard : Claim7 := { stood := { row := codeBytesUptoRow, standIns := [], harness := (true, "0602ed7980d4eca8e0b88fe250a7107c6b921b553603e704e693436d923de49b"), looks := false }, kinds := [], alts := [], laidByText := true, laidKinds := [.data, .sentinel, .pinned], laidTests := true, laidLooks := .later }
def CodeBytesUptoCardSaid : Prop := Claim7.holds Tryd.pinned (.plain (OpenSpec.upto codeBytesSpec)) codeBytesUptoCard
end Rows
end Go.Proofs.YtdngaeekecbgpaaDoor
