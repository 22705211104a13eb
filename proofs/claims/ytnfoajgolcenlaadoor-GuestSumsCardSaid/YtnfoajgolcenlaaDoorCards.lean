/-
  DERIVED. GIVEN WITH THE SEED: THE CARDS: each row of YtnfoajgolcenlaaDoorRows.lean that lists a variable, with what it lists TIED to the program's text (the seventh form; the later family's looks); each row that meets fmt, with fmt's text TOLD by the authors' own Lean function (tested against real Go, not proved from fmt's source: count such statements apart). THE CARD IS WHAT COUNTS. Prove the row's statement (the work); the ties are given (YtnfoajgolcenlaaDoorTie.lean); close each card by the builder's one call (the guide's Derived/Test/ToyasCard.lean, 'card_holds'). Laid BY PROGRAM, IN A SANDBOX (cutbox-door.mjs). By AI agents, Wed Nov 11 2026. No macro, syntax, notation, axiom, sorry.
-/
import Derived.Test.YtnfoajgolcenlaaDoorRows
import GoSem.ClaimSeven
namespace Go.Proofs.YtnfoajgolcenlaaDoor
namespace Rows

/-- THE TIED CARD OF 'espalierlaw.GrantSee'. -/
def grantSeeCard : Claim7 := { stood := { row := grantSeeRow, standIns := [], harness := (true, "8545adfc95fb83fffafa37e3b165774b7ffe8a2dd67925396ad892ed92275991"), looks := false }, kinds := [], alts := [], laidByText := true, laidKinds := [.data, .pinned], laidTests := true, laidLooks := .later }
def GrantSeeCardSaid : Prop := Claim7.holds Tryd.pinned (.plain (OpenSpec.ofChange grantSeeSpec)) grantSeeCard

/-- THE TIED CARD OF 'espalierlaw.GrantMay'. -/
def grantMayCard : Claim7 := { stood := { row := grantMayRow, standIns := [], harness := (true, "8545adfc95fb83fffafa37e3b165774b7ffe8a2dd67925396ad892ed92275991"), looks := false }, kinds := [], alts := [], laidByText := true, laidKinds := [.data, .pinned], laidTests := true, laidLooks := .later }
def GrantMayCardSaid : Prop := Claim7.holds Tryd.pinned (.plain (OpenSpec.ofChange grantMaySpec)) grantMayCard

/-- THE TIED CARD OF 'espalierlaw.GrantTwice'. -/
def grantTwiceCard : Claim7 := { stood := { row := grantTwiceRow, standIns := [], harness := (true, "8545adfc95fb83fffafa37e3b165774b7ffe8a2dd67925396ad892ed92275991"), looks := false }, kinds := [], alts := [], laidByText := true, laidKinds := [.data, .pinned], laidTests := true, laidLooks := .later }
def GrantTwiceCardSaid : Prop := Claim7.holds Tryd.pinned (.plain (OpenSpec.ofChange grantTwiceSpec)) grantTwiceCard

/-- THE TIED CARD OF 'espalierlaw.BagCheck'. -/
def bagCheckCard : Claim7 := { stood := { row := bagCheckRow, standIns := [], harness := (true, "8545adfc95fb83fffafa37e3b165774b7ffe8a2dd67925396ad892ed92275991"), looks := false }, kinds := [], alts := [], laidByText := true, laidKinds := [.data, .pinned], laidTests := true, laidLooks := .later }
def BagCheckCardSaid : Prop := Claim7.holds Tryd.pinned (.plain (OpenSpec.ofChange bagCheckSpec)) bagCheckCard

/-- THE TIED CARD OF 'espalierlaw.GuestTell'. -/
def guestTellCard : Claim7 := { stood := { row := guestTellRow, standIns := [], harness := (true, "8545adfc95fb83fffafa37e3b165774b7ffe8a2dd67925396ad892ed92275991"), looks := false }, kinds := [], alts := [], laidByText := true, laidKinds := [.data, .pinned], laidTests := true, laidLooks := .later }
def GuestTellCardSaid : Prop := Claim7.holds Tryd.pinned (.plain (OpenSpec.ofChange guestTellSpec)) guestTellCard

/-- THE TIED CARD OF 'espalierlaw.GraphEnds'. -/
def graphEndsCard : Claim7 := { stood := { row := graphEndsRow, standIns := [], harness := (true, "8545adfc95fb83fffafa37e3b165774b7ffe8a2dd67925396ad892ed92275991"), looks := false }, kinds := [], alts := [], laidByText := true, laidKinds := [.data, .pinned], laidTests := true, laidLooks := .later }
def GraphEndsCardSaid : Prop := Claim7.holds Tryd.pinned (.plain (OpenSpec.ofChange graphEndsSpec)) graphEndsCard

/-- THE TIED CARD OF 'espalierlaw.GuestSums'. -/
def guestSumsCard : Claim7 := { stood := { row := guestSumsRow, standIns := [], harness := (true, "8545adfc95fb83fffafa37e3b165774b7ffe8a2dd67925396ad892ed92275991"), looks := false }, kinds := [], alts := [], laidByText := true, laidKinds := [.data, .pinned], laidTests := true, laidLooks := .later }
def GuestSumsCardSaid : Prop := Claim7.holds Tryd.pinned (.plain (OpenSpec.ofChange guestSumsSpec)) guestSumsCard

/-- THE TIED CARD OF 'espalierlaw.GuestTake'. -/
def guestTakeCard : Claim7 := { stood := { row := guestTakeRow, standIns := [], harness := (true, "8545adfc95fb83fffafa37e3b165774b7ffe8a2dd67925396ad892ed92275991"), looks := false }, kinds := [], alts := [], laidByText := true, laidKinds := [.data, .pinned], laidTests := true, laidLooks := .later }
def GuestTakeCardSaid : Prop := Claim7.holds Tryd.pinned (.plain (OpenSpec.ofChange guestTakeSpec)) guestTakeCard

/-- THE TIED CARD OF 'espalierlaw.BagOnce'. -/
def bagOnceCard : Claim7 := { stood := { row := bagOnceRow, standIns := [], harness := (true, "8545adfc95fb83fffafa37e3b165774b7ffe8a2dd67925396ad892ed92275991"), looks := false }, kinds := [], alts := [], laidByText := true, laidKinds := [.data, .pinned], laidTests := true, laidLooks := .later }
def BagOnceCardSaid : Prop := Claim7.holds Tryd.pinned (.plain (OpenSpec.ofChange bagOnceSpec)) bagOnceCard

/-- THE TIED CARD OF 'espalierlaw.BagRing'. -/
def bagRingCard : Claim7 := { stood := { row := bagRingRow, standIns := [], harness := (true, "8545adfc95fb83fffafa37e3b165774b7ffe8a2dd67925396ad892ed92275991"), looks := false }, kinds := [], alts := [], laidByText := true, laidKinds := [.data, .pinned], laidTests := true, laidLooks := .later }
def BagRingCardSaid : Prop := Claim7.holds Tryd.pinned (.plain (OpenSpec.ofChange bagRingSpec)) bagRingCard

/-- THE TIED CARD OF 'espalierlaw.BagOf'. -/
def bagOfCard : Claim7 := { stood := { row := bagOfRow, standIns := [], harness := (true, "8545adfc95fb83fffafa37e3b165774b7ffe8a2dd67925396ad892ed92275991"), looks := false }, kinds := [], alts := [], laidByText := true, laidKinds := [.data, .pinned], laidTests := true, laidLooks := .later }
def BagOfCardSaid : Prop := Claim7.holds Tryd.pinned (.plain (OpenSpec.ofChange bagOfSpec)) bagOfCard

/-- THE TIED CARD OF 'espalierlaw.BagAdd'. -/
def bagAddCard : Claim7 := { stood := { row := bagAddRow, standIns := [], harness := (true, "8545adfc95fb83fffafa37e3b165774b7ffe8a2dd67925396ad892ed92275991"), looks := false }, kinds := [], alts := [], laidByText := true, laidKinds := [.data, .pinned], laidTests := true, laidLooks := .later }
def BagAddCardSaid : Prop := Claim7.holds Tryd.pinned (.plain (OpenSpec.ofChange bagAddSpec)) bagAddCard

/-- THE TIED CARD OF 'espalierlaw.BagJoin'. -/
def bagJoinCard : Claim7 := { stood := { row := bagJoinRow, standIns := [], harness := (true, "8545adfc95fb83fffafa37e3b165774b7ffe8a2dd67925396ad892ed92275991"), looks := false }, kinds := [], alts := [], laidByText := true, laidKinds := [.data, .pinned], laidTests := true, laidLooks := .later }
def BagJoinCardSaid : Prop := Claim7.holds Tryd.pinned (.plain (OpenSpec.ofChange bagJoinSpec)) bagJoinCard

/-- THE TIED CARD OF 'espalierlaw.BagPick'. -/
def bagPickCard : Claim7 := { stood := { row := bagPickRow, standIns := [], harness := (true, "8545adfc95fb83fffafa37e3b165774b7ffe8a2dd67925396ad892ed92275991"), looks := false }, kinds := [], alts := [], laidByText := true, laidKinds := [.data, .pinned], laidTests := true, laidLooks := .later }
def BagPickCardSaid : Prop := Claim7.holds Tryd.pinned (.plain (OpenSpec.ofChange bagPickSpec)) bagPickCard

/-- THE SECOND FORM's CARD OF 'espalierlaw.GrantSee'. -/
def grantSeeUptoCard : Claim7 := { stood := { row := grantSeeUptoRow, standIns := [], harness := (true, "8545adfc95fb83fffafa37e3b165774b7ffe8a2dd67925396ad892ed92275991"), looks := false }, kinds := [], alts := [], laidByText := true, laidKinds := [.data, .pinned], laidTests := true, laidLooks := .later }
def GrantSeeUptoCardSaid : Prop := Claim7.holds Tryd.pinned (.plain (OpenSpec.upto grantSeeSpec)) grantSeeUptoCard

/-- THE SECOND FORM's CARD OF 'espalierlaw.GrantMay'. -/
def grantMayUptoCard : Claim7 := { stood := { row := grantMayUptoRow, standIns := [], harness := (true, "8545adfc95fb83fffafa37e3b165774b7ffe8a2dd67925396ad892ed92275991"), looks := false }, kinds := [], alts := [], laidByText := true, laidKinds := [.data, .pinned], laidTests := true, laidLooks := .later }
def GrantMayUptoCardSaid : Prop := Claim7.holds Tryd.pinned (.plain (OpenSpec.upto grantMaySpec)) grantMayUptoCard

/-- THE SECOND FORM's CARD OF 'espalierlaw.GrantTwice'. -/
def grantTwiceUptoCard : Claim7 := { stood := { row := grantTwiceUptoRow, standIns := [], harness := (true, "8545adfc95fb83fffafa37e3b165774b7ffe8a2dd67925396ad892ed92275991"), looks := false }, kinds := [], alts := [], laidByText := true, laidKinds := [.data, .pinned], laidTests := true, laidLooks := .later }
def GrantTwiceUptoCardSaid : Prop := Claim7.holds Tryd.pinned (.plain (OpenSpec.upto grantTwiceSpec)) grantTwiceUptoCard

/-- THE SECOND FORM's CARD OF 'espalierlaw.BagCheck'. -/
def bagCheckUptoCard : Claim7 := { stood := { row := bagCheckUptoRow, standIns := [], harness := (true, "8545adfc95fb83fffafa37e3b165774b7ffe8a2dd67925396ad892ed92275991"), looks := false }, kinds := [], alts := [], laidByText := true, laidKinds := [.data, .pinned], laidTests := true, laidLooks := .later }
def BagCheckUptoCardSaid : Prop := Claim7.holds Tryd.pinned (.plain (OpenSpec.upto bagCheckSpec)) bagCheckUptoCard

/-- THE SECOND FORM's CARD OF 'espalierlaw.GuestTell'. -/
def guestTellUptoCard : Claim7 := { stood := { row := guestTellUptoRow, standIns := [], harness := (true, "8545adfc95fb83fffafa37e3b165774b7ffe8a2dd67925396ad892ed92275991"), looks := false }, kinds := [], alts := [], laidByText := true, laidKinds := [.data, .pinned], laidTests := true, laidLooks := .later }
def GuestTellUptoCardSaid : Prop := Claim7.holds Tryd.pinned (.plain (OpenSpec.upto guestTellSpec)) guestTellUptoCard

/-- THE SECOND FORM's CARD OF 'espalierlaw.GraphEnds'. -/
def graphEndsUptoCard : Claim7 := { stood := { row := graphEndsUptoRow, standIns := [], harness := (true, "8545adfc95fb83fffafa37e3b165774b7ffe8a2dd67925396ad892ed92275991"), looks := false }, kinds := [], alts := [], laidByText := true, laidKinds := [.data, .pinned], laidTests := true, laidLooks := .later }
def GraphEndsUptoCardSaid : Prop := Claim7.holds Tryd.pinned (.plain (OpenSpec.upto graphEndsSpec)) graphEndsUptoCard

/-- THE SECOND FORM's CARD OF 'espalierlaw.GuestSums'. -/
def guestSumsUptoCard : Claim7 := { stood := { row := guestSumsUptoRow, standIns := [], harness := (true, "8545adfc95fb83fffafa37e3b165774b7ffe8a2dd67925396ad892ed92275991"), looks := false }, kinds := [], alts := [], laidByText := true, laidKinds := [.data, .pinned], laidTests := true, laidLooks := .later }
def GuestSumsUptoCardSaid : Prop := Claim7.holds Tryd.pinned (.plain (OpenSpec.upto guestSumsSpec)) guestSumsUptoCard

/-- THE SECOND FORM's CARD OF 'espalierlaw.GuestTake'. -/
def guestTakeUptoCard : Claim7 := { stood := { row := guestTakeUptoRow, standIns := [], harness := (true, "8545adfc95fb83fffafa37e3b165774b7ffe8a2dd67925396ad892ed92275991"), looks := false }, kinds := [], alts := [], laidByText := true, laidKinds := [.data, .pinned], laidTests := true, laidLooks := .later }
def GuestTakeUptoCardSaid : Prop := Claim7.holds Tryd.pinned (.plain (OpenSpec.upto guestTakeSpec)) guestTakeUptoCard

/-- THE SECOND FORM's CARD OF 'espalierlaw.BagOnce'. -/
def bagOnceUptoCard : Claim7 := { stood := { row := bagOnceUptoRow, standIns := [], harness := (true, "8545adfc95fb83fffafa37e3b165774b7ffe8a2dd67925396ad892ed92275991"), looks := false }, kinds := [], alts := [], laidByText := true, laidKinds := [.data, .pinned], laidTests := true, laidLooks := .later }
def BagOnceUptoCardSaid : Prop := Claim7.holds Tryd.pinned (.plain (OpenSpec.upto bagOnceSpec)) bagOnceUptoCard

/-- THE SECOND FORM's CARD OF 'espalierlaw.BagRing'. -/
def bagRingUptoCard : Claim7 := { stood := { row := bagRingUptoRow, standIns := [], harness := (true, "8545adfc95fb83fffafa37e3b165774b7ffe8a2dd67925396ad892ed92275991"), looks := false }, kinds := [], alts := [], laidByText := true, laidKinds := [.data, .pinned], laidTests := true, laidLooks := .later }
def BagRingUptoCardSaid : Prop := Claim7.holds Tryd.pinned (.plain (OpenSpec.upto bagRingSpec)) bagRingUptoCard

/-- THE SECOND FORM's CARD OF 'espalierlaw.BagOf'. -/
def bagOfUptoCard : Claim7 := { stood := { row := bagOfUptoRow, standIns := [], harness := (true, "8545adfc95fb83fffafa37e3b165774b7ffe8a2dd67925396ad892ed92275991"), looks := false }, kinds := [], alts := [], laidByText := true, laidKinds := [.data, .pinned], laidTests := true, laidLooks := .later }
def BagOfUptoCardSaid : Prop := Claim7.holds Tryd.pinned (.plain (OpenSpec.upto bagOfSpec)) bagOfUptoCard

/-- THE SECOND FORM's CARD OF 'espalierlaw.BagAdd'. -/
def bagAddUptoCard : Claim7 := { stood := { row := bagAddUptoRow, standIns := [], harness := (true, "8545adfc95fb83fffafa37e3b165774b7ffe8a2dd67925396ad892ed92275991"), looks := false }, kinds := [], alts := [], laidByText := true, laidKinds := [.data, .pinned], laidTests := true, laidLooks := .later }
def BagAddUptoCardSaid : Prop := Claim7.holds Tryd.pinned (.plain (OpenSpec.upto bagAddSpec)) bagAddUptoCard

/-- THE SECOND FORM's CARD OF 'espalierlaw.BagJoin'. -/
def bagJoinUptoCard : Claim7 := { stood := { row := bagJoinUptoRow, standIns := [], harness := (true, "8545adfc95fb83fffafa37e3b165774b7ffe8a2dd67925396ad892ed92275991"), looks := false }, kinds := [], alts := [], laidByText := true, laidKinds := [.data, .pinned], laidTests := true, laidLooks := .later }
def BagJoinUptoCardSaid : Prop := Claim7.holds Tryd.pinned (.plain (OpenSpec.upto bagJoinSpec)) bagJoinUptoCard

/-- THE SECOND FORM's CARD OF 'espalierlaw.BagPick'. -/
def bagPickUptoCard : Claim7 := { stood := { row := bagPickUptoRow, standIns := [], harness := (true, "8545adfc95fb83fffafa37e3b165774b7ffe8a2dd67925396ad892ed92275991"), looks := false }, kinds := [], alts := [], laidByText := true, laidKinds := [.data, .pinned], laidTests := true, laidLooks := .later }
def BagPickUptoCardSaid : Prop := Claim7.holds Tryd.pinned (.plain (OpenSpec.upto bagPickSpec)) bagPickUptoCard
end Rows
end Go.Proofs.YtnfoajgolcenlaaDoor
