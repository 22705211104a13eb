/-
  DERIVED. GIVEN WITH THE SEED: THE CARDS: each row of YtcloicgnanjbcaaGreatDoorRows.lean that lists a variable, with what it lists TIED to the program's text (the seventh form; the later family's looks); each row that meets fmt, with fmt's text TOLD by the authors' own Lean function (tested against real Go, not proved from fmt's source: count such statements apart). THE CARD IS WHAT COUNTS. Prove the row's statement (the work); the ties are given (YtcloicgnanjbcaaGreatDoorTie.lean); close each card by the builder's one call (the guide's Derived/Test/ToyasCard.lean, 'card_holds'). Laid BY PROGRAM, IN A SANDBOX (cutbox-door.mjs). By AI agents, Wed Nov 11 2026. No macro, syntax, notation, axiom, sorry.
-/
import Derived.Test.YtcloicgnanjbcaaGreatDoorRows
import GoSem.ClaimSeven
namespace Go.Proofs.YtcloicgnanjbcaaGreatDoor
namespace Rows

/-- THE TIED CARD OF 'espalierlaw.MatchMore'. -/
def matchMoreCard : Claim7 := { stood := { row := matchMoreRow, standIns := [], harness := (true, "35622fb57535c14a8fb5db43861044575c7aa6eb5ff62b476a9f4b45f255cb4d"), looks := false }, kinds := [], alts := [], laidByText := true, laidKinds := [.data, .pinned], laidTests := true, laidLooks := .later }
def MatchMoreCardSaid : Prop := Claim7.holds Tryz.pinned (.plain (OpenSpec.ofChange matchMoreSpec)) matchMoreCard

/-- THE TIED CARD OF 'espalierlaw.MatchAll'. -/
def matchAllCard : Claim7 := { stood := { row := matchAllRow, standIns := [], harness := (true, "35622fb57535c14a8fb5db43861044575c7aa6eb5ff62b476a9f4b45f255cb4d"), looks := false }, kinds := [], alts := [], laidByText := true, laidKinds := [.data, .pinned], laidTests := true, laidLooks := .later }
def MatchAllCardSaid : Prop := Claim7.holds Tryz.pinned (.plain (OpenSpec.ofChange matchAllSpec)) matchAllCard

/-- THE SECOND FORM's CARD OF 'espalierlaw.MatchMore'. -/
def matchMoreUptoCard : Claim7 := { stood := { row := matchMoreUptoRow, standIns := [], harness := (true, "35622fb57535c14a8fb5db43861044575c7aa6eb5ff62b476a9f4b45f255cb4d"), looks := false }, kinds := [], alts := [], laidByText := true, laidKinds := [.data, .pinned], laidTests := true, laidLooks := .later }
def MatchMoreUptoCardSaid : Prop := Claim7.holds Tryz.pinned (.plain (OpenSpec.upto matchMoreSpec)) matchMoreUptoCard

/-- THE SECOND FORM's CARD OF 'espalierlaw.MatchAll'. -/
def matchAllUptoCard : Claim7 := { stood := { row := matchAllUptoRow, standIns := [], harness := (true, "35622fb57535c14a8fb5db43861044575c7aa6eb5ff62b476a9f4b45f255cb4d"), looks := false }, kinds := [], alts := [], laidByText := true, laidKinds := [.data, .pinned], laidTests := true, laidLooks := .later }
def MatchAllUptoCardSaid : Prop := Claim7.holds Tryz.pinned (.plain (OpenSpec.upto matchAllSpec)) matchAllUptoCard
end Rows
end Go.Proofs.YtcloicgnanjbcaaGreatDoor
