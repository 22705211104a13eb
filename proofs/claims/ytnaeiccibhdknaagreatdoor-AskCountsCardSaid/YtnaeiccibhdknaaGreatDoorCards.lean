/-
  DERIVED. GIVEN WITH THE SEED: THE CARDS: each row of YtnaeiccibhdknaaGreatDoorRows.lean that lists a variable, with what it lists TIED to the program's text (the seventh form; the later family's looks); each row that meets fmt, with fmt's text TOLD by the authors' own Lean function (tested against real Go, not proved from fmt's source: count such statements apart). THE CARD IS WHAT COUNTS. Prove the row's statement (the work); the ties are given (YtnaeiccibhdknaaGreatDoorTie.lean); close each card by the builder's one call (the guide's Derived/Test/ToyasCard.lean, 'card_holds'). Laid BY PROGRAM, IN A SANDBOX (cutbox-door.mjs). By AI agents, Wed Nov 11 2026. No macro, syntax, notation, axiom, sorry.
-/
import Derived.Test.YtnaeiccibhdknaaGreatDoorRows
import GoSem.ClaimSeven
namespace Go.Proofs.YtnaeiccibhdknaaGreatDoor
namespace Rows

/-- THE TIED CARD OF 'espalierlaw.AskCounts'. -/
def askCountsCard : Claim7 := { stood := { row := askCountsRow, standIns := [], harness := (true, "acd4b0d1b2e8148d53bdb90bc4daa7ac0ebf616626da5d6e7ba41b2f2db88447"), looks := true }, kinds := [], alts := [], laidByText := true, laidKinds := [.data, .data, .data, .data, .sentinel, .sentinel, .pinned], laidTests := true, laidLooks := .later }
def AskCountsCardSaid : Prop := Claim7.holds Tryz.pinned (.plain (OpenSpec.ofChange askCountsSpec)) askCountsCard

/-- THE TIED CARD OF 'espalierlaw.AskGroups'. -/
def askGroupsCard : Claim7 := { stood := { row := askGroupsRow, standIns := [], harness := (true, "acd4b0d1b2e8148d53bdb90bc4daa7ac0ebf616626da5d6e7ba41b2f2db88447"), looks := true }, kinds := [], alts := [], laidByText := true, laidKinds := [.data, .data, .data, .data, .sentinel, .sentinel, .pinned], laidTests := true, laidLooks := .later }
def AskGroupsCardSaid : Prop := Claim7.holds Tryz.pinned (.plain (OpenSpec.ofChange askGroupsSpec)) askGroupsCard

/-- THE SECOND FORM's CARD OF 'espalierlaw.AskCounts'. -/
def askCountsUptoCard : Claim7 := { stood := { row := askCountsUptoRow, standIns := [], harness := (true, "acd4b0d1b2e8148d53bdb90bc4daa7ac0ebf616626da5d6e7ba41b2f2db88447"), looks := true }, kinds := [], alts := [], laidByText := true, laidKinds := [.data, .data, .data, .data, .sentinel, .sentinel, .pinned], laidTests := true, laidLooks := .later }
def AskCountsUptoCardSaid : Prop := Claim7.holds Tryz.pinned (.plain (OpenSpec.upto askCountsSpec)) askCountsUptoCard

/-- THE SECOND FORM's CARD OF 'espalierlaw.AskGroups'. -/
def askGroupsUptoCard : Claim7 := { stood := { row := askGroupsUptoRow, standIns := [], harness := (true, "acd4b0d1b2e8148d53bdb90bc4daa7ac0ebf616626da5d6e7ba41b2f2db88447"), looks := true }, kinds := [], alts := [], laidByText := true, laidKinds := [.data, .data, .data, .data, .sentinel, .sentinel, .pinned], laidTests := true, laidLooks := .later }
def AskGroupsUptoCardSaid : Prop := Claim7.holds Tryz.pinned (.plain (OpenSpec.upto askGroupsSpec)) askGroupsUptoCard
end Rows
end Go.Proofs.YtnaeiccibhdknaaGreatDoor
