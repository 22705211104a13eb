/-
  DERIVED. GIVEN WITH THE SEED: THE CARDS: each row of YtheaknjhanchbaaDoorRows.lean that lists a variable, with what it lists TIED to the program's text (the seventh form; the later family's looks); each row that meets fmt, with fmt's text TOLD by the authors' own Lean function (tested against real Go, not proved from fmt's source: count such statements apart). THE CARD IS WHAT COUNTS. Prove the row's statement (the work); the ties are given (YtheaknjhanchbaaDoorTie.lean); close each card by the builder's one call (the guide's Derived/Test/ToyasCard.lean, 'card_holds'). Laid BY PROGRAM, IN A SANDBOX (cutbox-door.mjs). By AI agents, Wed Nov 11 2026. No macro, syntax, notation, axiom, sorry.
-/
import Derived.Test.YtheaknjhanchbaaDoorRows
import GoSem.ClaimSeven
namespace Go.Proofs.YtheaknjhanchbaaDoor
namespace Rows

/-- THE TIED CARD OF 'espalierlaw.BagOf'. -/
def bagOfCard : Claim7 := { stood := { row := bagOfRow, standIns := [], harness := (true, "29b12e814e64f74348bd231971bee0477a6a066ba7351de1b769ba7ecda367c2"), looks := false }, kinds := [], alts := [], laidByText := true, laidKinds := [.data, .pinned], laidTests := true, laidLooks := .later }
def BagOfCardSaid : Prop := Claim7.holds Tryd.pinned (.plain (OpenSpec.ofChange bagOfSpec)) bagOfCard

/-- THE TIED CARD OF 'espalierlaw.BagJoin'. -/
def bagJoinCard : Claim7 := { stood := { row := bagJoinRow, standIns := [], harness := (true, "29b12e814e64f74348bd231971bee0477a6a066ba7351de1b769ba7ecda367c2"), looks := false }, kinds := [], alts := [], laidByText := true, laidKinds := [.data, .pinned], laidTests := true, laidLooks := .later }
def BagJoinCardSaid : Prop := Claim7.holds Tryd.pinned (.plain (OpenSpec.ofChange bagJoinSpec)) bagJoinCard

/-- THE TIED CARD OF 'espalierlaw.BagPick'. -/
def bagPickCard : Claim7 := { stood := { row := bagPickRow, standIns := [], harness := (true, "29b12e814e64f74348bd231971bee0477a6a066ba7351de1b769ba7ecda367c2"), looks := false }, kinds := [], alts := [], laidByText := true, laidKinds := [.data, .pinned], laidTests := true, laidLooks := .later }
def BagPickCardSaid : Prop := Claim7.holds Tryd.pinned (.plain (OpenSpec.ofChange bagPickSpec)) bagPickCard

/-- THE TIED CARD OF 'espalierlaw.BagAdd'. -/
def bagAddCard : Claim7 := { stood := { row := bagAddRow, standIns := [], harness := (true, "29b12e814e64f74348bd231971bee0477a6a066ba7351de1b769ba7ecda367c2"), looks := false }, kinds := [], alts := [], laidByText := true, laidKinds := [.data, .pinned], laidTests := true, laidLooks := .later }
def BagAddCardSaid : Prop := Claim7.holds Tryd.pinned (.plain (OpenSpec.ofChange bagAddSpec)) bagAddCard

/-- THE TIED CARD OF 'espalierlaw.GuestTake'. -/
def guestTakeCard : Claim7 := { stood := { row := guestTakeRow, standIns := [], harness := (true, "29b12e814e64f74348bd231971bee0477a6a066ba7351de1b769ba7ecda367c2"), looks := false }, kinds := [], alts := [], laidByText := true, laidKinds := [.data, .pinned], laidTests := true, laidLooks := .later }
def GuestTakeCardSaid : Prop := Claim7.holds Tryd.pinned (.plain (OpenSpec.ofChange guestTakeSpec)) guestTakeCard

/-- THE SECOND FORM's CARD OF 'espalierlaw.BagOf'. -/
def bagOfUptoCard : Claim7 := { stood := { row := bagOfUptoRow, standIns := [], harness := (true, "29b12e814e64f74348bd231971bee0477a6a066ba7351de1b769ba7ecda367c2"), looks := false }, kinds := [], alts := [], laidByText := true, laidKinds := [.data, .pinned], laidTests := true, laidLooks := .later }
def BagOfUptoCardSaid : Prop := Claim7.holds Tryd.pinned (.plain (OpenSpec.upto bagOfSpec)) bagOfUptoCard

/-- THE SECOND FORM's CARD OF 'espalierlaw.BagJoin'. -/
def bagJoinUptoCard : Claim7 := { stood := { row := bagJoinUptoRow, standIns := [], harness := (true, "29b12e814e64f74348bd231971bee0477a6a066ba7351de1b769ba7ecda367c2"), looks := false }, kinds := [], alts := [], laidByText := true, laidKinds := [.data, .pinned], laidTests := true, laidLooks := .later }
def BagJoinUptoCardSaid : Prop := Claim7.holds Tryd.pinned (.plain (OpenSpec.upto bagJoinSpec)) bagJoinUptoCard

/-- THE SECOND FORM's CARD OF 'espalierlaw.BagPick'. -/
def bagPickUptoCard : Claim7 := { stood := { row := bagPickUptoRow, standIns := [], harness := (true, "29b12e814e64f74348bd231971bee0477a6a066ba7351de1b769ba7ecda367c2"), looks := false }, kinds := [], alts := [], laidByText := true, laidKinds := [.data, .pinned], laidTests := true, laidLooks := .later }
def BagPickUptoCardSaid : Prop := Claim7.holds Tryd.pinned (.plain (OpenSpec.upto bagPickSpec)) bagPickUptoCard

/-- THE SECOND FORM's CARD OF 'espalierlaw.BagAdd'. -/
def bagAddUptoCard : Claim7 := { stood := { row := bagAddUptoRow, standIns := [], harness := (true, "29b12e814e64f74348bd231971bee0477a6a066ba7351de1b769ba7ecda367c2"), looks := false }, kinds := [], alts := [], laidByText := true, laidKinds := [.data, .pinned], laidTests := true, laidLooks := .later }
def BagAddUptoCardSaid : Prop := Claim7.holds Tryd.pinned (.plain (OpenSpec.upto bagAddSpec)) bagAddUptoCard

/-- THE SECOND FORM's CARD OF 'espalierlaw.GuestTake'. -/
def guestTakeUptoCard : Claim7 := { stood := { row := guestTakeUptoRow, standIns := [], harness := (true, "29b12e814e64f74348bd231971bee0477a6a066ba7351de1b769ba7ecda367c2"), looks := false }, kinds := [], alts := [], laidByText := true, laidKinds := [.data, .pinned], laidTests := true, laidLooks := .later }
def GuestTakeUptoCardSaid : Prop := Claim7.holds Tryd.pinned (.plain (OpenSpec.upto guestTakeSpec)) guestTakeUptoCard
end Rows
end Go.Proofs.YtheaknjhanchbaaDoor
