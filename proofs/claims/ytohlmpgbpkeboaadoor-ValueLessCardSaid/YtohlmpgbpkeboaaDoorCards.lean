/-
  DERIVED. GIVEN WITH THE SEED: THE CARDS: each row of YtohlmpgbpkeboaaDoorRows.lean that lists a variable, with what it lists TIED to the program's text (the seventh form; the later family's looks); each row that meets fmt, with fmt's text TOLD by the authors' own Lean function (tested against real Go, not proved from fmt's source: count such statements apart). THE CARD IS WHAT COUNTS. Prove the row's statement (the work); the ties are given (YtohlmpgbpkeboaaDoorTie.lean); close each card by the builder's one call (the guide's Derived/Test/ToyasCard.lean, 'card_holds'). Laid BY PROGRAM, IN A SANDBOX (cutbox-door.mjs). By AI agents, Wed Nov 11 2026. No macro, syntax, notation, axiom, sorry.
-/
import Derived.Test.YtohlmpgbpkeboaaDoorRows
import GoSem.ClaimSeven
namespace Go.Proofs.YtohlmpgbpkeboaaDoor
namespace Rows

/-- THE TIED CARD OF 'espalierlaw.ValueOrder'. -/
def valueOrderCard : Claim7 := { stood := { row := valueOrderRow, standIns := [], harness := (true, "57797fcd9bb2fa9f802abe29968164a59b1d47a998856b64a43089258189f6e2"), looks := true }, kinds := [], alts := [], laidByText := true, laidKinds := [.data, .data, .data, .data, .sentinel, .sentinel, .pinned], laidTests := true, laidLooks := .later }
def ValueOrderCardSaid : Prop := Claim7.holds Tryd.pinned (.plain (OpenSpec.ofChange valueOrderSpec)) valueOrderCard

/-- THE TIED CARD OF 'espalierlaw.ValueOrders'. -/
def valueOrdersCard : Claim7 := { stood := { row := valueOrdersRow, standIns := [], harness := (true, "57797fcd9bb2fa9f802abe29968164a59b1d47a998856b64a43089258189f6e2"), looks := true }, kinds := [], alts := [], laidByText := true, laidKinds := [.data, .data, .data, .data, .sentinel, .sentinel, .pinned], laidTests := true, laidLooks := .later }
def ValueOrdersCardSaid : Prop := Claim7.holds Tryd.pinned (.plain (OpenSpec.ofChange valueOrdersSpec)) valueOrdersCard

/-- THE TIED CARD OF 'espalierlaw.ValueLess'. -/
def valueLessCard : Claim7 := { stood := { row := valueLessRow, standIns := [], harness := (true, "57797fcd9bb2fa9f802abe29968164a59b1d47a998856b64a43089258189f6e2"), looks := true }, kinds := [], alts := [], laidByText := true, laidKinds := [.data, .data, .data, .data, .sentinel, .sentinel, .pinned], laidTests := true, laidLooks := .later }
def ValueLessCardSaid : Prop := Claim7.holds Tryd.pinned (.plain (OpenSpec.ofChange valueLessSpec)) valueLessCard

/-- THE TIED CARD OF 'espalierlaw.ValueBack'. -/
def valueBackCard : Claim7 := { stood := { row := valueBackRow, standIns := [], harness := (true, "57797fcd9bb2fa9f802abe29968164a59b1d47a998856b64a43089258189f6e2"), looks := true }, kinds := [], alts := [], laidByText := true, laidKinds := [.data, .data, .data, .data, .sentinel, .sentinel, .pinned], laidTests := true, laidLooks := .later }
def ValueBackCardSaid : Prop := Claim7.holds Tryd.pinned (.plain (OpenSpec.ofChange valueBackSpec)) valueBackCard

/-- THE TIED CARD OF 'espalierlaw.ValueRing'. -/
def valueRingCard : Claim7 := { stood := { row := valueRingRow, standIns := [], harness := (true, "57797fcd9bb2fa9f802abe29968164a59b1d47a998856b64a43089258189f6e2"), looks := true }, kinds := [], alts := [], laidByText := true, laidKinds := [.data, .data, .data, .data, .sentinel, .sentinel, .pinned], laidTests := true, laidLooks := .later }
def ValueRingCardSaid : Prop := Claim7.holds Tryd.pinned (.plain (OpenSpec.ofChange valueRingSpec)) valueRingCard

/-- THE SECOND FORM's CARD OF 'espalierlaw.ValueOrder'. -/
def valueOrderUptoCard : Claim7 := { stood := { row := valueOrderUptoRow, standIns := [], harness := (true, "57797fcd9bb2fa9f802abe29968164a59b1d47a998856b64a43089258189f6e2"), looks := true }, kinds := [], alts := [], laidByText := true, laidKinds := [.data, .data, .data, .data, .sentinel, .sentinel, .pinned], laidTests := true, laidLooks := .later }
def ValueOrderUptoCardSaid : Prop := Claim7.holds Tryd.pinned (.plain (OpenSpec.upto valueOrderSpec)) valueOrderUptoCard

/-- THE SECOND FORM's CARD OF 'espalierlaw.ValueOrders'. -/
def valueOrdersUptoCard : Claim7 := { stood := { row := valueOrdersUptoRow, standIns := [], harness := (true, "57797fcd9bb2fa9f802abe29968164a59b1d47a998856b64a43089258189f6e2"), looks := true }, kinds := [], alts := [], laidByText := true, laidKinds := [.data, .data, .data, .data, .sentinel, .sentinel, .pinned], laidTests := true, laidLooks := .later }
def ValueOrdersUptoCardSaid : Prop := Claim7.holds Tryd.pinned (.plain (OpenSpec.upto valueOrdersSpec)) valueOrdersUptoCard

/-- THE SECOND FORM's CARD OF 'espalierlaw.ValueLess'. -/
def valueLessUptoCard : Claim7 := { stood := { row := valueLessUptoRow, standIns := [], harness := (true, "57797fcd9bb2fa9f802abe29968164a59b1d47a998856b64a43089258189f6e2"), looks := true }, kinds := [], alts := [], laidByText := true, laidKinds := [.data, .data, .data, .data, .sentinel, .sentinel, .pinned], laidTests := true, laidLooks := .later }
def ValueLessUptoCardSaid : Prop := Claim7.holds Tryd.pinned (.plain (OpenSpec.upto valueLessSpec)) valueLessUptoCard

/-- THE SECOND FORM's CARD OF 'espalierlaw.ValueBack'. -/
def valueBackUptoCard : Claim7 := { stood := { row := valueBackUptoRow, standIns := [], harness := (true, "57797fcd9bb2fa9f802abe29968164a59b1d47a998856b64a43089258189f6e2"), looks := true }, kinds := [], alts := [], laidByText := true, laidKinds := [.data, .data, .data, .data, .sentinel, .sentinel, .pinned], laidTests := true, laidLooks := .later }
def ValueBackUptoCardSaid : Prop := Claim7.holds Tryd.pinned (.plain (OpenSpec.upto valueBackSpec)) valueBackUptoCard

/-- THE SECOND FORM's CARD OF 'espalierlaw.ValueRing'. -/
def valueRingUptoCard : Claim7 := { stood := { row := valueRingUptoRow, standIns := [], harness := (true, "57797fcd9bb2fa9f802abe29968164a59b1d47a998856b64a43089258189f6e2"), looks := true }, kinds := [], alts := [], laidByText := true, laidKinds := [.data, .data, .data, .data, .sentinel, .sentinel, .pinned], laidTests := true, laidLooks := .later }
def ValueRingUptoCardSaid : Prop := Claim7.holds Tryd.pinned (.plain (OpenSpec.upto valueRingSpec)) valueRingUptoCard
end Rows
end Go.Proofs.YtohlmpgbpkeboaaDoor
