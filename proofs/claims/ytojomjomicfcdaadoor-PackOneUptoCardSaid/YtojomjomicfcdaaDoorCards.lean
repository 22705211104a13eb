/-
  DERIVED. GIVEN WITH THE SEED: THE CARDS: each row of YtojomjomicfcdaaDoorRows.lean that lists a variable, with what it lists TIED to the program's text (the seventh form; the later family's looks); each row that meets fmt, with fmt's text TOLD by the authors' own Lean function (tested against real Go, not proved from fmt's source: count such statements apart). THE CARD IS WHAT COUNTS. Prove the row's statement (the work); the ties are given (YtojomjomicfcdaaDoorTie.lean); close each card by the builder's one call (the guide's Derived/Test/ToyasCard.lean, 'card_holds'). Laid BY PROGRAM, IN A SANDBOX (cutbox-door.mjs). By AI agents, Wed Nov 11 2026. No macro, syntax, notation, axiom, sorry.
-/
import Derived.Test.YtojomjomicfcdaaDoorRows
import GoSem.ClaimSeven
namespace Go.Proofs.YtojomjomicfcdaaDoor
namespace Rows

/-- THE TIED CARD OF 'espalierlaw.PackOne'. -/
def packOneCard : Claim7 := { stood := { row := packOneRow, standIns := [], harness := (true, "c984eb0dff72cb02877e9904a3f3a23b6466011b87fd135fd373f40fe50e9138"), looks := true }, kinds := [], alts := [], laidByText := true, laidKinds := [.data, .pinned], laidTests := true, laidLooks := .later }
def PackOneCardSaid : Prop := Claim7.holds Tryd.pinned (.plain (OpenSpec.ofChange packOneSpec)) packOneCard

/-- THE TIED CARD OF 'espalierlaw.PackOps'. -/
def packOpsCard : Claim7 := { stood := { row := packOpsRow, standIns := [], harness := (true, "c984eb0dff72cb02877e9904a3f3a23b6466011b87fd135fd373f40fe50e9138"), looks := true }, kinds := [], alts := [], laidByText := true, laidKinds := [.data, .pinned], laidTests := true, laidLooks := .later }
def PackOpsCardSaid : Prop := Claim7.holds Tryd.pinned (.plain (OpenSpec.ofChange packOpsSpec)) packOpsCard

/-- THE TIED CARD OF 'espalierlaw.PackGraph'. -/
def packGraphCard : Claim7 := { stood := { row := packGraphRow, standIns := [], harness := (true, "c984eb0dff72cb02877e9904a3f3a23b6466011b87fd135fd373f40fe50e9138"), looks := true }, kinds := [], alts := [], laidByText := true, laidKinds := [.data, .pinned], laidTests := true, laidLooks := .later }
def PackGraphCardSaid : Prop := Claim7.holds Tryd.pinned (.plain (OpenSpec.ofChange packGraphSpec)) packGraphCard

/-- THE SECOND FORM's CARD OF 'espalierlaw.PackOne'. -/
def packOneUptoCard : Claim7 := { stood := { row := packOneUptoRow, standIns := [], harness := (true, "c984eb0dff72cb02877e9904a3f3a23b6466011b87fd135fd373f40fe50e9138"), looks := true }, kinds := [], alts := [], laidByText := true, laidKinds := [.data, .pinned], laidTests := true, laidLooks := .later }
def PackOneUptoCardSaid : Prop := Claim7.holds Tryd.pinned (.plain (OpenSpec.upto packOneSpec)) packOneUptoCard

/-- THE SECOND FORM's CARD OF 'espalierlaw.PackOps'. -/
def packOpsUptoCard : Claim7 := { stood := { row := packOpsUptoRow, standIns := [], harness := (true, "c984eb0dff72cb02877e9904a3f3a23b6466011b87fd135fd373f40fe50e9138"), looks := true }, kinds := [], alts := [], laidByText := true, laidKinds := [.data, .pinned], laidTests := true, laidLooks := .later }
def PackOpsUptoCardSaid : Prop := Claim7.holds Tryd.pinned (.plain (OpenSpec.upto packOpsSpec)) packOpsUptoCard

/-- THE SECOND FORM's CARD OF 'espalierlaw.PackGraph'. -/
def packGraphUptoCard : Claim7 := { stood := { row := packGraphUptoRow, standIns := [], harness := (true, "c984eb0dff72cb02877e9904a3f3a23b6466011b87fd135fd373f40fe50e9138"), looks := true }, kinds := [], alts := [], laidByText := true, laidKinds := [.data, .pinned], laidTests := true, laidLooks := .later }
def PackGraphUptoCardSaid : Prop := Claim7.holds Tryd.pinned (.plain (OpenSpec.upto packGraphSpec)) packGraphUptoCard
end Rows
end Go.Proofs.YtojomjomicfcdaaDoor
