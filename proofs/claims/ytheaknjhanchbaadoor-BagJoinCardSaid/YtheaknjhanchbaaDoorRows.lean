/-
  NARROWER THAN 'FOR EVERY INPUT', by the rows' own cells (each row's printed sentence says how): BagOf: loops, laid · BagJoin: loops, laid · BagPick: loops, laid · BagAdd: loops, laid · GuestTake: loops, laid.
  DERIVED. THE GIVEN ROWS OF THIS SEAT. 5 by the template 'for every input the law returns true; each argument reads behind the call as it read before'; 0 by the template 'total and deterministic' (their statements: YtheaknjhanchbaaDoorTotals.lean).
  GIVEN WITH THE SEED: the statements are not yours to turn. If you find one false, say at which input.
  Laid BY PROGRAM, IN A SANDBOX (cutbox-rows.mjs): the forced cells as the released guide's own fill.sh prints them over the translation 3ac950ad20c5d7cc… (all of the seat's roots in one cut). By AI agents, Wed Nov 11 2026. No macro, syntax, notation, axiom, sorry.
-/
import Derived.Test.YtheaknjhanchbaaDoorChecked
import GoSem.PinnedTables
import GoSem.Claim
import GoSem.ClaimJoined
import GoSem.ClaimMapViews
import Derived.JoinedTies
import Derived.KernelRfl
namespace Go.Proofs.YtheaknjhanchbaaDoor
/- THE CELL 'sum', in the pinned program and in every row, IS THE sha256 OF THE DUMP (.gsa) THAT YtheaknjhanchbaaDoorProg.lean LOADS. Nothing in Lean hashes anything: it is a label: what it is worth is what the hold of that sum in a sandbox is worth. -/
noncomputable def Tryd.pinned : Pinned := { name := "ytheaknjhanchbaadoor", sum := "3ac950ad20c5d7cc9f7f714b3696c0049b5025aa113dc1d276d8d906aac91d3b", checked := Tryd.checked }
namespace Rows
def none {H : Type} : Left H := { results := [], args := [] }

/- WHAT THE LISTED PACKAGE-LEVEL VARIABLES READ AS WHEN THE CALL BEGINS. Each datum BY PROGRAM (the guide's laid-datum.mjs) off the statement by which the dump's own 'gosem.cut.vars' lays the variable. In a bare row this is a premise. The card (YtheaknjhanchbaaDoorCards.lean) ties it to the program's text. -/
def laid_unicode_utf8_acceptRanges {H : Type} : DataW H := .agg [.agg [.lit (.int .u8 128), .lit (.int .u8 191)], .agg [.lit (.int .u8 160), .lit (.int .u8 191)], .agg [.lit (.int .u8 128), .lit (.int .u8 159)], .agg [.lit (.int .u8 144), .lit (.int .u8 191)], .agg [.lit (.int .u8 128), .lit (.int .u8 143)], .agg [.lit (.int .u8 0), .lit (.int .u8 0)], .agg [.lit (.int .u8 0), .lit (.int .u8 0)], .agg [.lit (.int .u8 0), .lit (.int .u8 0)], .agg [.lit (.int .u8 0), .lit (.int .u8 0)], .agg [.lit (.int .u8 0), .lit (.int .u8 0)], .agg [.lit (.int .u8 0), .lit (.int .u8 0)], .agg [.lit (.int .u8 0), .lit (.int .u8 0)], .agg [.lit (.int .u8 0), .lit (.int .u8 0)], .agg [.lit (.int .u8 0), .lit (.int .u8 0)], .agg [.lit (.int .u8 0), .lit (.int .u8 0)], .agg [.lit (.int .u8 0), .lit (.int .u8 0)]]
/-- One of Go's own tables, pinned by name: the form's constant. -/
def laid_unicode_utf8_first : DataW Unit := Go.Pinned.utf8First

/-- 'espalierlaw.BagOf': WHATEVER THE INPUT: true; the input reads as it did. -/
def bagOfSpec : ChangeSpec := { name := "bagOf", fn := fun _ => fun
  | [d] => { results := [.lit (.bool true)], args := [d] }
  | _ => none }
def bagOfRow : OpenClaim := { program := "ytheaknjhanchbaadoor", sum := "3ac950ad20c5d7cc9f7f714b3696c0049b5025aa113dc1d276d8d906aac91d3b", func := "espalier/espalierlaw.BagOf", spec := "bagOf", inPlace := ["internal/bytealg.Compare", "internal/reflectlite.ValueOf", "internal/reflectlite.Swapper", "(internal/reflectlite.Value).Len"], unfollowed := true, recurses := true, named := ["unicode/utf8.first", "unicode/utf8.acceptRanges"], loops := true, apart := false, laid := [("unicode/utf8.acceptRanges", laid_unicode_utf8_acceptRanges), ("unicode/utf8.first", laid_unicode_utf8_first)] }
def BagOfSaid : Prop := bagOfRow.holds Tryd.pinned (OpenSpec.ofChange bagOfSpec)

/-- ITS FALSE NEIGHBOUR: 'it returns false'. Refute it at one input. -/
def bagOfWrong : ChangeSpec := { name := "bagOf", fn := fun _ => fun
  | [d] => { results := [.lit (.bool false)], args := [d] }
  | _ => none }
def BagOfWrongFalsely : Prop := bagOfRow.holds Tryd.pinned (OpenSpec.ofChange bagOfWrong)

/-- 'espalierlaw.BagJoin': WHATEVER THE INPUT: true; the input reads as it did. -/
def bagJoinSpec : ChangeSpec := { name := "bagJoin", fn := fun _ => fun
  | [d1, d2, d3] => { results := [.lit (.bool true)], args := [d1, d2, d3] }
  | _ => none }
def bagJoinRow : OpenClaim := { program := "ytheaknjhanchbaadoor", sum := "3ac950ad20c5d7cc9f7f714b3696c0049b5025aa113dc1d276d8d906aac91d3b", func := "espalier/espalierlaw.BagJoin", spec := "bagJoin", inPlace := ["internal/bytealg.Compare", "internal/reflectlite.ValueOf", "internal/reflectlite.Swapper", "(internal/reflectlite.Value).Len"], unfollowed := true, recurses := true, named := ["unicode/utf8.first", "unicode/utf8.acceptRanges"], loops := true, apart := false, laid := [("unicode/utf8.acceptRanges", laid_unicode_utf8_acceptRanges), ("unicode/utf8.first", laid_unicode_utf8_first)] }
def BagJoinSaid : Prop := bagJoinRow.holds Tryd.pinned (OpenSpec.ofChange bagJoinSpec)

/-- ITS FALSE NEIGHBOUR: 'it returns false'. Refute it at one input. -/
def bagJoinWrong : ChangeSpec := { name := "bagJoin", fn := fun _ => fun
  | [d1, d2, d3] => { results := [.lit (.bool false)], args := [d1, d2, d3] }
  | _ => none }
def BagJoinWrongFalsely : Prop := bagJoinRow.holds Tryd.pinned (OpenSpec.ofChange bagJoinWrong)

/-- 'espalierlaw.BagPick': WHATEVER THE INPUT: true; the input reads as it did. -/
def bagPickSpec : ChangeSpec := { name := "bagPick", fn := fun _ => fun
  | [d1, d2] => { results := [.lit (.bool true)], args := [d1, d2] }
  | _ => none }
def bagPickRow : OpenClaim := { program := "ytheaknjhanchbaadoor", sum := "3ac950ad20c5d7cc9f7f714b3696c0049b5025aa113dc1d276d8d906aac91d3b", func := "espalier/espalierlaw.BagPick", spec := "bagPick", inPlace := ["internal/bytealg.Compare", "internal/reflectlite.ValueOf", "internal/reflectlite.Swapper", "(internal/reflectlite.Value).Len"], unfollowed := true, recurses := true, named := ["unicode/utf8.first", "unicode/utf8.acceptRanges"], loops := true, apart := false, laid := [("unicode/utf8.acceptRanges", laid_unicode_utf8_acceptRanges), ("unicode/utf8.first", laid_unicode_utf8_first)] }
def BagPickSaid : Prop := bagPickRow.holds Tryd.pinned (OpenSpec.ofChange bagPickSpec)

/-- ITS FALSE NEIGHBOUR: 'it returns false'. Refute it at one input. -/
def bagPickWrong : ChangeSpec := { name := "bagPick", fn := fun _ => fun
  | [d1, d2] => { results := [.lit (.bool false)], args := [d1, d2] }
  | _ => none }
def BagPickWrongFalsely : Prop := bagPickRow.holds Tryd.pinned (OpenSpec.ofChange bagPickWrong)

/-- 'espalierlaw.BagAdd': WHATEVER THE INPUT: true; the input reads as it did. -/
def bagAddSpec : ChangeSpec := { name := "bagAdd", fn := fun _ => fun
  | [d1, d2, d3] => { results := [.lit (.bool true)], args := [d1, d2, d3] }
  | _ => none }
def bagAddRow : OpenClaim := { program := "ytheaknjhanchbaadoor", sum := "3ac950ad20c5d7cc9f7f714b3696c0049b5025aa113dc1d276d8d906aac91d3b", func := "espalier/espalierlaw.BagAdd", spec := "bagAdd", inPlace := ["internal/bytealg.Compare", "internal/reflectlite.ValueOf", "internal/reflectlite.Swapper", "(internal/reflectlite.Value).Len"], unfollowed := true, recurses := true, named := ["unicode/utf8.first", "unicode/utf8.acceptRanges"], loops := true, apart := false, laid := [("unicode/utf8.acceptRanges", laid_unicode_utf8_acceptRanges), ("unicode/utf8.first", laid_unicode_utf8_first)] }
def BagAddSaid : Prop := bagAddRow.holds Tryd.pinned (OpenSpec.ofChange bagAddSpec)

/-- ITS FALSE NEIGHBOUR: 'it returns false'. Refute it at one input. -/
def bagAddWrong : ChangeSpec := { name := "bagAdd", fn := fun _ => fun
  | [d1, d2, d3] => { results := [.lit (.bool false)], args := [d1, d2, d3] }
  | _ => none }
def BagAddWrongFalsely : Prop := bagAddRow.holds Tryd.pinned (OpenSpec.ofChange bagAddWrong)

/-- 'espalierlaw.GuestTake': WHATEVER THE INPUT: true; the input reads as it did. -/
def guestTakeSpec : ChangeSpec := { name := "guestTake", fn := fun _ => fun
  | [d1, d2, d3] => { results := [.lit (.bool true)], args := [d1, d2, d3] }
  | _ => none }
def guestTakeRow : OpenClaim := { program := "ytheaknjhanchbaadoor", sum := "3ac950ad20c5d7cc9f7f714b3696c0049b5025aa113dc1d276d8d906aac91d3b", func := "espalier/espalierlaw.GuestTake", spec := "guestTake", inPlace := ["internal/bytealg.Compare", "internal/reflectlite.ValueOf", "internal/reflectlite.Swapper", "(internal/reflectlite.Value).Len"], unfollowed := true, recurses := true, named := ["unicode/utf8.first", "unicode/utf8.acceptRanges"], loops := true, apart := false, laid := [("unicode/utf8.acceptRanges", laid_unicode_utf8_acceptRanges), ("unicode/utf8.first", laid_unicode_utf8_first)] }
def GuestTakeSaid : Prop := guestTakeRow.holds Tryd.pinned (OpenSpec.ofChange guestTakeSpec)

/-- ITS FALSE NEIGHBOUR: 'it returns false'. Refute it at one input. -/
def guestTakeWrong : ChangeSpec := { name := "guestTake", fn := fun _ => fun
  | [d1, d2, d3] => { results := [.lit (.bool false)], args := [d1, d2, d3] }
  | _ => none }
def GuestTakeWrongFalsely : Prop := guestTakeRow.holds Tryd.pinned (OpenSpec.ofChange guestTakeWrong)

/- THE SECOND FORM. 'bulk': how many values and letters a reading holds, each counted each time it is reached (what is shared counts as often as it is met; a slice's spare places count too). A statement '..UptoSaid' is the law's where the arguments, and the package variables that the reading takes, are together of bulk at most 1048576: NARROWER than '..Said'. Prove '..Said' where nothing that the law and all that it calls make is longer than what came in: it says more and counts as full. Else prove '..UptoSaid'. A law counts once. -/
mutual
def uptoBulk {H : Type} : DataW H → Nat
  | .lit (.string bytes) => bytes.length + 1
  | .lit _ => 1
  | .nil => 1
  | .ptr d => uptoBulk d + 1
  | .slice elems spare => uptoBulkAll elems + uptoBulkAll spare + 1
  | .agg parts => uptoBulkAll parts + 1
  | .iface _ d => uptoBulk d + 1
  | .map entries => uptoBulkEntries entries + 1
  | .held _ => 1
def uptoBulkAll {H : Type} : List (DataW H) → Nat
  | [] => 0
  | d :: r => uptoBulk d + uptoBulkAll r
def uptoBulkEntries {H : Type} : List (Lit × DataW H) → Nat
  | [] => 0
  | x :: r => uptoBulkEntry x + uptoBulkEntries r
def uptoBulkEntry {H : Type} : Lit × DataW H → Nat
  | (.string bytes, d) => bytes.length + uptoBulk d + 1
  | (_, d) => uptoBulk d + 1
 end
def uptoSmall : (H : Type) → List (DataW H) → Bool := fun _ ds => decide (uptoBulkAll ds ≤ 1048576)
def OpenSpec.upto (s : _root_.Go.ChangeSpec) : _root_.Go.OpenSpec := { _root_.Go.OpenSpec.ofChange s with cond := some uptoSmall }

/-- 'espalierlaw.BagOf', WHERE WHAT IT READS IS OF BULK AT MOST 1048576: true; the input reads as it did. -/
def bagOfUptoRow : OpenClaim := { program := "ytheaknjhanchbaadoor", sum := "3ac950ad20c5d7cc9f7f714b3696c0049b5025aa113dc1d276d8d906aac91d3b", func := "espalier/espalierlaw.BagOf", spec := "bagOf", inPlace := ["internal/bytealg.Compare", "internal/reflectlite.ValueOf", "internal/reflectlite.Swapper", "(internal/reflectlite.Value).Len"], unfollowed := true, recurses := true, named := ["unicode/utf8.first", "unicode/utf8.acceptRanges"], loops := true, apart := false, laid := [("unicode/utf8.acceptRanges", laid_unicode_utf8_acceptRanges), ("unicode/utf8.first", laid_unicode_utf8_first)], narrowed := true }
def BagOfUptoSaid : Prop := bagOfUptoRow.holds Tryd.pinned (OpenSpec.upto bagOfSpec)

/-- 'espalierlaw.BagJoin', WHERE WHAT IT READS IS OF BULK AT MOST 1048576: true; the input reads as it did. -/
def bagJoinUptoRow : OpenClaim := { program := "ytheaknjhanchbaadoor", sum := "3ac950ad20c5d7cc9f7f714b3696c0049b5025aa113dc1d276d8d906aac91d3b", func := "espalier/espalierlaw.BagJoin", spec := "bagJoin", inPlace := ["internal/bytealg.Compare", "internal/reflectlite.ValueOf", "internal/reflectlite.Swapper", "(internal/reflectlite.Value).Len"], unfollowed := true, recurses := true, named := ["unicode/utf8.first", "unicode/utf8.acceptRanges"], loops := true, apart := false, laid := [("unicode/utf8.acceptRanges", laid_unicode_utf8_acceptRanges), ("unicode/utf8.first", laid_unicode_utf8_first)], narrowed := true }
def BagJoinUptoSaid : Prop := bagJoinUptoRow.holds Tryd.pinned (OpenSpec.upto bagJoinSpec)

/-- 'espalierlaw.BagPick', WHERE WHAT IT READS IS OF BULK AT MOST 1048576: true; the input reads as it did. -/
def bagPickUptoRow : OpenClaim := { program := "ytheaknjhanchbaadoor", sum := "3ac950ad20c5d7cc9f7f714b3696c0049b5025aa113dc1d276d8d906aac91d3b", func := "espalier/espalierlaw.BagPick", spec := "bagPick", inPlace := ["internal/bytealg.Compare", "internal/reflectlite.ValueOf", "internal/reflectlite.Swapper", "(internal/reflectlite.Value).Len"], unfollowed := true, recurses := true, named := ["unicode/utf8.first", "unicode/utf8.acceptRanges"], loops := true, apart := false, laid := [("unicode/utf8.acceptRanges", laid_unicode_utf8_acceptRanges), ("unicode/utf8.first", laid_unicode_utf8_first)], narrowed := true }
def BagPickUptoSaid : Prop := bagPickUptoRow.holds Tryd.pinned (OpenSpec.upto bagPickSpec)

/-- 'espalierlaw.BagAdd', WHERE WHAT IT READS IS OF BULK AT MOST 1048576: true; the input reads as it did. -/
def bagAddUptoRow : OpenClaim := { program := "ytheaknjhanchbaadoor", sum := "3ac950ad20c5d7cc9f7f714b3696c0049b5025aa113dc1d276d8d906aac91d3b", func := "espalier/espalierlaw.BagAdd", spec := "bagAdd", inPlace := ["internal/bytealg.Compare", "internal/reflectlite.ValueOf", "internal/reflectlite.Swapper", "(internal/reflectlite.Value).Len"], unfollowed := true, recurses := true, named := ["unicode/utf8.first", "unicode/utf8.acceptRanges"], loops := true, apart := false, laid := [("unicode/utf8.acceptRanges", laid_unicode_utf8_acceptRanges), ("unicode/utf8.first", laid_unicode_utf8_first)], narrowed := true }
def BagAddUptoSaid : Prop := bagAddUptoRow.holds Tryd.pinned (OpenSpec.upto bagAddSpec)

/-- 'espalierlaw.GuestTake', WHERE WHAT IT READS IS OF BULK AT MOST 1048576: true; the input reads as it did. -/
def guestTakeUptoRow : OpenClaim := { program := "ytheaknjhanchbaadoor", sum := "3ac950ad20c5d7cc9f7f714b3696c0049b5025aa113dc1d276d8d906aac91d3b", func := "espalier/espalierlaw.GuestTake", spec := "guestTake", inPlace := ["internal/bytealg.Compare", "internal/reflectlite.ValueOf", "internal/reflectlite.Swapper", "(internal/reflectlite.Value).Len"], unfollowed := true, recurses := true, named := ["unicode/utf8.first", "unicode/utf8.acceptRanges"], loops := true, apart := false, laid := [("unicode/utf8.acceptRanges", laid_unicode_utf8_acceptRanges), ("unicode/utf8.first", laid_unicode_utf8_first)], narrowed := true }
def GuestTakeUptoSaid : Prop := guestTakeUptoRow.holds Tryd.pinned (OpenSpec.upto guestTakeSpec)

end Rows
end Go.Proofs.YtheaknjhanchbaaDoor
