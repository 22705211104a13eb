/-
  DERIVED. GIVEN WITH THE SEED: THE CARDS: each row of YtjecnkdkhniflaaGreatDoorRows.lean that lists a variable, with what it lists TIED to the program's text (the seventh form; the later family's looks); each row that meets fmt, with fmt's text TOLD by the authors' own Lean function (tested against real Go, not proved from fmt's source: count such statements apart). THE CARD IS WHAT COUNTS. Prove the row's statement (the work); the ties are given (YtjecnkdkhniflaaGreatDoorTie.lean); close each card by the builder's one call (the guide's Derived/Test/ToyasCard.lean, 'card_holds'). Laid BY PROGRAM, IN A SANDBOX (cutbox-door.mjs). By AI agents, Wed Nov 11 2026. No macro, syntax, notation, axiom, sorry.
-/
import Derived.Test.YtjecnkdkhniflaaGreatDoorRows
import GoSem.ClaimSeven
namespace Go.Proofs.YtjecnkdkhniflaaGreatDoor
namespace Rows

/-- THE TIED CARD OF 'espalierlaw.ReachAll'. -/
def reachAllCard : Claim7 := { stood := { row := reachAllRow, standIns := [], harness := (true, "6bf71314e7751dbf87d0a79d0a759f8902238ded7848cfed87265ab7fc7bc892"), looks := false }, kinds := [], alts := [], laidByText := true, laidKinds := [.data, .pinned], laidTests := true, laidLooks := .later }
def ReachAllCardSaid : Prop := Claim7.holds Tryz.pinned (.plain (OpenSpec.ofChange reachAllSpec)) reachAllCard

/-- THE TIED CARD OF 'espalierlaw.ReachChange'. -/
def reachChangeCard : Claim7 := { stood := { row := reachChangeRow, standIns := [], harness := (true, "6bf71314e7751dbf87d0a79d0a759f8902238ded7848cfed87265ab7fc7bc892"), looks := false }, kinds := [], alts := [], laidByText := true, laidKinds := [.data, .pinned], laidTests := true, laidLooks := .later }
def ReachChangeCardSaid : Prop := Claim7.holds Tryz.pinned (.plain (OpenSpec.ofChange reachChangeSpec)) reachChangeCard

/-- THE SECOND FORM's CARD OF 'espalierlaw.ReachAll'. -/
def reachAllUptoCard : Claim7 := { stood := { row := reachAllUptoRow, standIns := [], harness := (true, "6bf71314e7751dbf87d0a79d0a759f8902238ded7848cfed87265ab7fc7bc892"), looks := false }, kinds := [], alts := [], laidByText := true, laidKinds := [.data, .pinned], laidTests := true, laidLooks := .later }
def ReachAllUptoCardSaid : Prop := Claim7.holds Tryz.pinned (.plain (OpenSpec.upto reachAllSpec)) reachAllUptoCard

/-- THE SECOND FORM's CARD OF 'espalierlaw.ReachChange'. -/
def reachChangeUptoCard : Claim7 := { stood := { row := reachChangeUptoRow, standIns := [], harness := (true, "6bf71314e7751dbf87d0a79d0a759f8902238ded7848cfed87265ab7fc7bc892"), looks := false }, kinds := [], alts := [], laidByText := true, laidKinds := [.data, .pinned], laidTests := true, laidLooks := .later }
def ReachChangeUptoCardSaid : Prop := Claim7.holds Tryz.pinned (.plain (OpenSpec.upto reachChangeSpec)) reachChangeUptoCard
end Rows
end Go.Proofs.YtjecnkdkhniflaaGreatDoor
