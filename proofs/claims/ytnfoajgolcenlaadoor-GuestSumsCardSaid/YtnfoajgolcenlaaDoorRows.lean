/-
  NARROWER THAN 'FOR EVERY INPUT', by the rows' own cells (each row's printed sentence says how): GrantSee: loops, laid · GrantMay: loops, laid · GrantTwice: loops, laid · BagCheck: loops, laid · GuestTell: loops, laid · GraphEnds: loops, laid · GuestSums: loops, laid · GuestTake: loops, laid · BagOnce: loops, laid · BagRing: loops, laid · BagOf: loops, laid · BagAdd: loops, laid · BagJoin: loops, laid · BagPick: loops, laid.
  DERIVED. THE GIVEN ROWS OF THIS SEAT. 14 by the template 'for every input the law returns true; each argument reads behind the call as it read before'; 0 by the template 'total and deterministic' (their statements: YtnfoajgolcenlaaDoorTotals.lean).
  GIVEN WITH THE SEED: the statements are not yours to turn. If you find one false, say at which input.
  Laid BY PROGRAM, IN A SANDBOX (cutbox-rows.mjs): the forced cells as the released guide's own fill.sh prints them over the translation a31ad3c277bdecf7… (all of the seat's roots in one cut). By AI agents, Wed Nov 11 2026. No macro, syntax, notation, axiom, sorry.
-/
import Derived.Test.YtnfoajgolcenlaaDoorChecked
import GoSem.PinnedTables
import GoSem.Claim
import GoSem.ClaimJoined
import GoSem.ClaimMapViews
import Derived.JoinedTies
import Derived.KernelRfl
namespace Go.Proofs.YtnfoajgolcenlaaDoor
/- THE CELL 'sum', in the pinned program and in every row, IS THE sha256 OF THE DUMP (.gsa) THAT YtnfoajgolcenlaaDoorProg.lean LOADS. Nothing in Lean hashes anything: it is a label: what it is worth is what the hold of that sum in a sandbox is worth. -/
noncomputable def Tryd.pinned : Pinned := { name := "ytnfoajgolcenlaadoor", sum := "a31ad3c277bdecf75c17aa9d66f767b980b814e83a16a78bab8c711ae6a524c8", checked := Tryd.checked }
namespace Rows
def none {H : Type} : Left H := { results := [], args := [] }

/- WHAT THE LISTED PACKAGE-LEVEL VARIABLES READ AS WHEN THE CALL BEGINS. Each datum BY PROGRAM (the guide's laid-datum.mjs) off the statement by which the dump's own 'gosem.cut.vars' lays the variable. In a bare row this is a premise. The card (YtnfoajgolcenlaaDoorCards.lean) ties it to the program's text. -/
def laid_unicode_utf8_acceptRanges {H : Type} : DataW H := .agg [.agg [.lit (.int .u8 128), .lit (.int .u8 191)], .agg [.lit (.int .u8 160), .lit (.int .u8 191)], .agg [.lit (.int .u8 128), .lit (.int .u8 159)], .agg [.lit (.int .u8 144), .lit (.int .u8 191)], .agg [.lit (.int .u8 128), .lit (.int .u8 143)], .agg [.lit (.int .u8 0), .lit (.int .u8 0)], .agg [.lit (.int .u8 0), .lit (.int .u8 0)], .agg [.lit (.int .u8 0), .lit (.int .u8 0)], .agg [.lit (.int .u8 0), .lit (.int .u8 0)], .agg [.lit (.int .u8 0), .lit (.int .u8 0)], .agg [.lit (.int .u8 0), .lit (.int .u8 0)], .agg [.lit (.int .u8 0), .lit (.int .u8 0)], .agg [.lit (.int .u8 0), .lit (.int .u8 0)], .agg [.lit (.int .u8 0), .lit (.int .u8 0)], .agg [.lit (.int .u8 0), .lit (.int .u8 0)], .agg [.lit (.int .u8 0), .lit (.int .u8 0)]]
/-- One of Go's own tables, pinned by name: the form's constant. -/
def laid_unicode_utf8_first : DataW Unit := Go.Pinned.utf8First

/-- 'espalierlaw.GrantSee': WHATEVER THE INPUT: true; the input reads as it did. -/
def grantSeeSpec : ChangeSpec := { name := "grantSee", fn := fun _ => fun
  | [d1, d2, d3] => { results := [.lit (.bool true)], args := [d1, d2, d3] }
  | _ => none }
def grantSeeRow : OpenClaim := { program := "ytnfoajgolcenlaadoor", sum := "a31ad3c277bdecf75c17aa9d66f767b980b814e83a16a78bab8c711ae6a524c8", func := "espalier/espalierlaw.GrantSee", spec := "grantSee", inPlace := ["internal/bytealg.IndexByteString", "internal/bytealg.IndexString", "internal/bytealg.Compare"], unfollowed := true, recurses := true, named := ["unicode/utf8.first", "unicode/utf8.acceptRanges", "internal/bytealg.MaxLen"], loops := true, apart := false, laid := [("unicode/utf8.acceptRanges", laid_unicode_utf8_acceptRanges), ("unicode/utf8.first", laid_unicode_utf8_first)] }
def GrantSeeSaid : Prop := grantSeeRow.holds Tryd.pinned (OpenSpec.ofChange grantSeeSpec)

/-- ITS FALSE NEIGHBOUR: 'it returns false'. Refute it at one input. -/
def grantSeeWrong : ChangeSpec := { name := "grantSee", fn := fun _ => fun
  | [d1, d2, d3] => { results := [.lit (.bool false)], args := [d1, d2, d3] }
  | _ => none }
def GrantSeeWrongFalsely : Prop := grantSeeRow.holds Tryd.pinned (OpenSpec.ofChange grantSeeWrong)

/-- 'espalierlaw.GrantMay': WHATEVER THE INPUT: true; the input reads as it did. -/
def grantMaySpec : ChangeSpec := { name := "grantMay", fn := fun _ => fun
  | [d1, d2, d3, d4] => { results := [.lit (.bool true)], args := [d1, d2, d3, d4] }
  | _ => none }
def grantMayRow : OpenClaim := { program := "ytnfoajgolcenlaadoor", sum := "a31ad3c277bdecf75c17aa9d66f767b980b814e83a16a78bab8c711ae6a524c8", func := "espalier/espalierlaw.GrantMay", spec := "grantMay", inPlace := ["internal/bytealg.IndexByteString", "internal/bytealg.IndexString"], unfollowed := true, recurses := true, named := ["unicode/utf8.first", "unicode/utf8.acceptRanges", "internal/bytealg.MaxLen"], loops := true, apart := false, laid := [("unicode/utf8.acceptRanges", laid_unicode_utf8_acceptRanges), ("unicode/utf8.first", laid_unicode_utf8_first)] }
def GrantMaySaid : Prop := grantMayRow.holds Tryd.pinned (OpenSpec.ofChange grantMaySpec)

/-- ITS FALSE NEIGHBOUR: 'it returns false'. Refute it at one input. -/
def grantMayWrong : ChangeSpec := { name := "grantMay", fn := fun _ => fun
  | [d1, d2, d3, d4] => { results := [.lit (.bool false)], args := [d1, d2, d3, d4] }
  | _ => none }
def GrantMayWrongFalsely : Prop := grantMayRow.holds Tryd.pinned (OpenSpec.ofChange grantMayWrong)

/-- 'espalierlaw.GrantTwice': WHATEVER THE INPUT: true; the input reads as it did. -/
def grantTwiceSpec : ChangeSpec := { name := "grantTwice", fn := fun _ => fun
  | [d1, d2, d3, d4] => { results := [.lit (.bool true)], args := [d1, d2, d3, d4] }
  | _ => none }
def grantTwiceRow : OpenClaim := { program := "ytnfoajgolcenlaadoor", sum := "a31ad3c277bdecf75c17aa9d66f767b980b814e83a16a78bab8c711ae6a524c8", func := "espalier/espalierlaw.GrantTwice", spec := "grantTwice", inPlace := ["internal/bytealg.Compare"], unfollowed := true, recurses := true, named := ["unicode/utf8.first", "unicode/utf8.acceptRanges"], loops := true, apart := false, laid := [("unicode/utf8.acceptRanges", laid_unicode_utf8_acceptRanges), ("unicode/utf8.first", laid_unicode_utf8_first)] }
def GrantTwiceSaid : Prop := grantTwiceRow.holds Tryd.pinned (OpenSpec.ofChange grantTwiceSpec)

/-- ITS FALSE NEIGHBOUR: 'it returns false'. Refute it at one input. -/
def grantTwiceWrong : ChangeSpec := { name := "grantTwice", fn := fun _ => fun
  | [d1, d2, d3, d4] => { results := [.lit (.bool false)], args := [d1, d2, d3, d4] }
  | _ => none }
def GrantTwiceWrongFalsely : Prop := grantTwiceRow.holds Tryd.pinned (OpenSpec.ofChange grantTwiceWrong)

/-- 'espalierlaw.BagCheck': WHATEVER THE INPUT: true; the input reads as it did. -/
def bagCheckSpec : ChangeSpec := { name := "bagCheck", fn := fun _ => fun
  | [d1, d2, d3] => { results := [.lit (.bool true)], args := [d1, d2, d3] }
  | _ => none }
def bagCheckRow : OpenClaim := { program := "ytnfoajgolcenlaadoor", sum := "a31ad3c277bdecf75c17aa9d66f767b980b814e83a16a78bab8c711ae6a524c8", func := "espalier/espalierlaw.BagCheck", spec := "bagCheck", inPlace := ["internal/bytealg.Compare"], unfollowed := true, recurses := true, named := ["unicode/utf8.first", "unicode/utf8.acceptRanges"], loops := true, apart := false, laid := [("unicode/utf8.acceptRanges", laid_unicode_utf8_acceptRanges), ("unicode/utf8.first", laid_unicode_utf8_first)] }
def BagCheckSaid : Prop := bagCheckRow.holds Tryd.pinned (OpenSpec.ofChange bagCheckSpec)

/-- ITS FALSE NEIGHBOUR: 'it returns false'. Refute it at one input. -/
def bagCheckWrong : ChangeSpec := { name := "bagCheck", fn := fun _ => fun
  | [d1, d2, d3] => { results := [.lit (.bool false)], args := [d1, d2, d3] }
  | _ => none }
def BagCheckWrongFalsely : Prop := bagCheckRow.holds Tryd.pinned (OpenSpec.ofChange bagCheckWrong)

/-- 'espalierlaw.GuestTell': WHATEVER THE INPUT: true; the input reads as it did. -/
def guestTellSpec : ChangeSpec := { name := "guestTell", fn := fun _ => fun
  | [d1, d2] => { results := [.lit (.bool true)], args := [d1, d2] }
  | _ => none }
def guestTellRow : OpenClaim := { program := "ytnfoajgolcenlaadoor", sum := "a31ad3c277bdecf75c17aa9d66f767b980b814e83a16a78bab8c711ae6a524c8", func := "espalier/espalierlaw.GuestTell", spec := "guestTell", inPlace := ["internal/bytealg.Compare"], unfollowed := true, recurses := true, named := ["unicode/utf8.first", "unicode/utf8.acceptRanges"], loops := true, apart := false, laid := [("unicode/utf8.acceptRanges", laid_unicode_utf8_acceptRanges), ("unicode/utf8.first", laid_unicode_utf8_first)] }
def GuestTellSaid : Prop := guestTellRow.holds Tryd.pinned (OpenSpec.ofChange guestTellSpec)

/-- ITS FALSE NEIGHBOUR: 'it returns false'. Refute it at one input. -/
def guestTellWrong : ChangeSpec := { name := "guestTell", fn := fun _ => fun
  | [d1, d2] => { results := [.lit (.bool false)], args := [d1, d2] }
  | _ => none }
def GuestTellWrongFalsely : Prop := guestTellRow.holds Tryd.pinned (OpenSpec.ofChange guestTellWrong)

/-- 'espalierlaw.GraphEnds': WHATEVER THE INPUT: true; the input reads as it did. -/
def graphEndsSpec : ChangeSpec := { name := "graphEnds", fn := fun _ => fun
  | [d] => { results := [.lit (.bool true)], args := [d] }
  | _ => none }
def graphEndsRow : OpenClaim := { program := "ytnfoajgolcenlaadoor", sum := "a31ad3c277bdecf75c17aa9d66f767b980b814e83a16a78bab8c711ae6a524c8", func := "espalier/espalierlaw.GraphEnds", spec := "graphEnds", inPlace := ["internal/bytealg.Compare"], unfollowed := true, recurses := true, named := ["unicode/utf8.first", "unicode/utf8.acceptRanges"], loops := true, apart := false, laid := [("unicode/utf8.acceptRanges", laid_unicode_utf8_acceptRanges), ("unicode/utf8.first", laid_unicode_utf8_first)] }
def GraphEndsSaid : Prop := graphEndsRow.holds Tryd.pinned (OpenSpec.ofChange graphEndsSpec)

/-- ITS FALSE NEIGHBOUR: 'it returns false'. Refute it at one input. -/
def graphEndsWrong : ChangeSpec := { name := "graphEnds", fn := fun _ => fun
  | [d] => { results := [.lit (.bool false)], args := [d] }
  | _ => none }
def GraphEndsWrongFalsely : Prop := graphEndsRow.holds Tryd.pinned (OpenSpec.ofChange graphEndsWrong)

/-- 'espalierlaw.GuestSums': WHATEVER THE INPUT: true; the input reads as it did. -/
def guestSumsSpec : ChangeSpec := { name := "guestSums", fn := fun _ => fun
  | [d1, d2] => { results := [.lit (.bool true)], args := [d1, d2] }
  | _ => none }
def guestSumsRow : OpenClaim := { program := "ytnfoajgolcenlaadoor", sum := "a31ad3c277bdecf75c17aa9d66f767b980b814e83a16a78bab8c711ae6a524c8", func := "espalier/espalierlaw.GuestSums", spec := "guestSums", inPlace := ["internal/bytealg.Compare"], unfollowed := true, recurses := true, named := ["unicode/utf8.first", "unicode/utf8.acceptRanges"], loops := true, apart := false, laid := [("unicode/utf8.acceptRanges", laid_unicode_utf8_acceptRanges), ("unicode/utf8.first", laid_unicode_utf8_first)] }
def GuestSumsSaid : Prop := guestSumsRow.holds Tryd.pinned (OpenSpec.ofChange guestSumsSpec)

/-- ITS FALSE NEIGHBOUR: 'it returns false'. Refute it at one input. -/
def guestSumsWrong : ChangeSpec := { name := "guestSums", fn := fun _ => fun
  | [d1, d2] => { results := [.lit (.bool false)], args := [d1, d2] }
  | _ => none }
def GuestSumsWrongFalsely : Prop := guestSumsRow.holds Tryd.pinned (OpenSpec.ofChange guestSumsWrong)

/-- 'espalierlaw.GuestTake': WHATEVER THE INPUT: true; the input reads as it did. -/
def guestTakeSpec : ChangeSpec := { name := "guestTake", fn := fun _ => fun
  | [d1, d2, d3] => { results := [.lit (.bool true)], args := [d1, d2, d3] }
  | _ => none }
def guestTakeRow : OpenClaim := { program := "ytnfoajgolcenlaadoor", sum := "a31ad3c277bdecf75c17aa9d66f767b980b814e83a16a78bab8c711ae6a524c8", func := "espalier/espalierlaw.GuestTake", spec := "guestTake", inPlace := ["internal/bytealg.Compare", "internal/reflectlite.ValueOf", "internal/reflectlite.Swapper", "(internal/reflectlite.Value).Len"], unfollowed := true, recurses := true, named := ["unicode/utf8.first", "unicode/utf8.acceptRanges"], loops := true, apart := false, laid := [("unicode/utf8.acceptRanges", laid_unicode_utf8_acceptRanges), ("unicode/utf8.first", laid_unicode_utf8_first)] }
def GuestTakeSaid : Prop := guestTakeRow.holds Tryd.pinned (OpenSpec.ofChange guestTakeSpec)

/-- ITS FALSE NEIGHBOUR: 'it returns false'. Refute it at one input. -/
def guestTakeWrong : ChangeSpec := { name := "guestTake", fn := fun _ => fun
  | [d1, d2, d3] => { results := [.lit (.bool false)], args := [d1, d2, d3] }
  | _ => none }
def GuestTakeWrongFalsely : Prop := guestTakeRow.holds Tryd.pinned (OpenSpec.ofChange guestTakeWrong)

/-- 'espalierlaw.BagOnce': WHATEVER THE INPUT: true; the input reads as it did. -/
def bagOnceSpec : ChangeSpec := { name := "bagOnce", fn := fun _ => fun
  | [d] => { results := [.lit (.bool true)], args := [d] }
  | _ => none }
def bagOnceRow : OpenClaim := { program := "ytnfoajgolcenlaadoor", sum := "a31ad3c277bdecf75c17aa9d66f767b980b814e83a16a78bab8c711ae6a524c8", func := "espalier/espalierlaw.BagOnce", spec := "bagOnce", inPlace := ["internal/bytealg.Compare"], unfollowed := true, recurses := true, named := ["unicode/utf8.first", "unicode/utf8.acceptRanges"], loops := true, apart := false, laid := [("unicode/utf8.acceptRanges", laid_unicode_utf8_acceptRanges), ("unicode/utf8.first", laid_unicode_utf8_first)] }
def BagOnceSaid : Prop := bagOnceRow.holds Tryd.pinned (OpenSpec.ofChange bagOnceSpec)

/-- ITS FALSE NEIGHBOUR: 'it returns false'. Refute it at one input. -/
def bagOnceWrong : ChangeSpec := { name := "bagOnce", fn := fun _ => fun
  | [d] => { results := [.lit (.bool false)], args := [d] }
  | _ => none }
def BagOnceWrongFalsely : Prop := bagOnceRow.holds Tryd.pinned (OpenSpec.ofChange bagOnceWrong)

/-- 'espalierlaw.BagRing': WHATEVER THE INPUT: true; the input reads as it did. -/
def bagRingSpec : ChangeSpec := { name := "bagRing", fn := fun _ => fun
  | [d1, d2, d3, d4] => { results := [.lit (.bool true)], args := [d1, d2, d3, d4] }
  | _ => none }
def bagRingRow : OpenClaim := { program := "ytnfoajgolcenlaadoor", sum := "a31ad3c277bdecf75c17aa9d66f767b980b814e83a16a78bab8c711ae6a524c8", func := "espalier/espalierlaw.BagRing", spec := "bagRing", inPlace := ["internal/bytealg.Compare"], unfollowed := true, recurses := true, named := ["unicode/utf8.first", "unicode/utf8.acceptRanges"], loops := true, apart := false, laid := [("unicode/utf8.acceptRanges", laid_unicode_utf8_acceptRanges), ("unicode/utf8.first", laid_unicode_utf8_first)] }
def BagRingSaid : Prop := bagRingRow.holds Tryd.pinned (OpenSpec.ofChange bagRingSpec)

/-- ITS FALSE NEIGHBOUR: 'it returns false'. Refute it at one input. -/
def bagRingWrong : ChangeSpec := { name := "bagRing", fn := fun _ => fun
  | [d1, d2, d3, d4] => { results := [.lit (.bool false)], args := [d1, d2, d3, d4] }
  | _ => none }
def BagRingWrongFalsely : Prop := bagRingRow.holds Tryd.pinned (OpenSpec.ofChange bagRingWrong)

/-- 'espalierlaw.BagOf': WHATEVER THE INPUT: true; the input reads as it did. -/
def bagOfSpec : ChangeSpec := { name := "bagOf", fn := fun _ => fun
  | [d] => { results := [.lit (.bool true)], args := [d] }
  | _ => none }
def bagOfRow : OpenClaim := { program := "ytnfoajgolcenlaadoor", sum := "a31ad3c277bdecf75c17aa9d66f767b980b814e83a16a78bab8c711ae6a524c8", func := "espalier/espalierlaw.BagOf", spec := "bagOf", inPlace := ["internal/bytealg.Compare", "internal/reflectlite.ValueOf", "internal/reflectlite.Swapper", "(internal/reflectlite.Value).Len"], unfollowed := true, recurses := true, named := ["unicode/utf8.first", "unicode/utf8.acceptRanges"], loops := true, apart := false, laid := [("unicode/utf8.acceptRanges", laid_unicode_utf8_acceptRanges), ("unicode/utf8.first", laid_unicode_utf8_first)] }
def BagOfSaid : Prop := bagOfRow.holds Tryd.pinned (OpenSpec.ofChange bagOfSpec)

/-- ITS FALSE NEIGHBOUR: 'it returns false'. Refute it at one input. -/
def bagOfWrong : ChangeSpec := { name := "bagOf", fn := fun _ => fun
  | [d] => { results := [.lit (.bool false)], args := [d] }
  | _ => none }
def BagOfWrongFalsely : Prop := bagOfRow.holds Tryd.pinned (OpenSpec.ofChange bagOfWrong)

/-- 'espalierlaw.BagAdd': WHATEVER THE INPUT: true; the input reads as it did. -/
def bagAddSpec : ChangeSpec := { name := "bagAdd", fn := fun _ => fun
  | [d1, d2, d3] => { results := [.lit (.bool true)], args := [d1, d2, d3] }
  | _ => none }
def bagAddRow : OpenClaim := { program := "ytnfoajgolcenlaadoor", sum := "a31ad3c277bdecf75c17aa9d66f767b980b814e83a16a78bab8c711ae6a524c8", func := "espalier/espalierlaw.BagAdd", spec := "bagAdd", inPlace := ["internal/bytealg.Compare", "internal/reflectlite.ValueOf", "internal/reflectlite.Swapper", "(internal/reflectlite.Value).Len"], unfollowed := true, recurses := true, named := ["unicode/utf8.first", "unicode/utf8.acceptRanges"], loops := true, apart := false, laid := [("unicode/utf8.acceptRanges", laid_unicode_utf8_acceptRanges), ("unicode/utf8.first", laid_unicode_utf8_first)] }
def BagAddSaid : Prop := bagAddRow.holds Tryd.pinned (OpenSpec.ofChange bagAddSpec)

/-- ITS FALSE NEIGHBOUR: 'it returns false'. Refute it at one input. -/
def bagAddWrong : ChangeSpec := { name := "bagAdd", fn := fun _ => fun
  | [d1, d2, d3] => { results := [.lit (.bool false)], args := [d1, d2, d3] }
  | _ => none }
def BagAddWrongFalsely : Prop := bagAddRow.holds Tryd.pinned (OpenSpec.ofChange bagAddWrong)

/-- 'espalierlaw.BagJoin': WHATEVER THE INPUT: true; the input reads as it did. -/
def bagJoinSpec : ChangeSpec := { name := "bagJoin", fn := fun _ => fun
  | [d1, d2, d3] => { results := [.lit (.bool true)], args := [d1, d2, d3] }
  | _ => none }
def bagJoinRow : OpenClaim := { program := "ytnfoajgolcenlaadoor", sum := "a31ad3c277bdecf75c17aa9d66f767b980b814e83a16a78bab8c711ae6a524c8", func := "espalier/espalierlaw.BagJoin", spec := "bagJoin", inPlace := ["internal/bytealg.Compare", "internal/reflectlite.ValueOf", "internal/reflectlite.Swapper", "(internal/reflectlite.Value).Len"], unfollowed := true, recurses := true, named := ["unicode/utf8.first", "unicode/utf8.acceptRanges"], loops := true, apart := false, laid := [("unicode/utf8.acceptRanges", laid_unicode_utf8_acceptRanges), ("unicode/utf8.first", laid_unicode_utf8_first)] }
def BagJoinSaid : Prop := bagJoinRow.holds Tryd.pinned (OpenSpec.ofChange bagJoinSpec)

/-- ITS FALSE NEIGHBOUR: 'it returns false'. Refute it at one input. -/
def bagJoinWrong : ChangeSpec := { name := "bagJoin", fn := fun _ => fun
  | [d1, d2, d3] => { results := [.lit (.bool false)], args := [d1, d2, d3] }
  | _ => none }
def BagJoinWrongFalsely : Prop := bagJoinRow.holds Tryd.pinned (OpenSpec.ofChange bagJoinWrong)

/-- 'espalierlaw.BagPick': WHATEVER THE INPUT: true; the input reads as it did. -/
def bagPickSpec : ChangeSpec := { name := "bagPick", fn := fun _ => fun
  | [d1, d2] => { results := [.lit (.bool true)], args := [d1, d2] }
  | _ => none }
def bagPickRow : OpenClaim := { program := "ytnfoajgolcenlaadoor", sum := "a31ad3c277bdecf75c17aa9d66f767b980b814e83a16a78bab8c711ae6a524c8", func := "espalier/espalierlaw.BagPick", spec := "bagPick", inPlace := ["internal/bytealg.Compare", "internal/reflectlite.ValueOf", "internal/reflectlite.Swapper", "(internal/reflectlite.Value).Len"], unfollowed := true, recurses := true, named := ["unicode/utf8.first", "unicode/utf8.acceptRanges"], loops := true, apart := false, laid := [("unicode/utf8.acceptRanges", laid_unicode_utf8_acceptRanges), ("unicode/utf8.first", laid_unicode_utf8_first)] }
def BagPickSaid : Prop := bagPickRow.holds Tryd.pinned (OpenSpec.ofChange bagPickSpec)

/-- ITS FALSE NEIGHBOUR: 'it returns false'. Refute it at one input. -/
def bagPickWrong : ChangeSpec := { name := "bagPick", fn := fun _ => fun
  | [d1, d2] => { results := [.lit (.bool false)], args := [d1, d2] }
  | _ => none }
def BagPickWrongFalsely : Prop := bagPickRow.holds Tryd.pinned (OpenSpec.ofChange bagPickWrong)

/- THE SECOND FORM. 'bulk': how many values and letters a reading holds, each counted each time it is reached (what is shared counts as often as it is met; a slice's spare places count too). A statement '..UptoSaid' is the law's where the arguments, and the package variables that the reading takes, are together of bulk at most 1048576: NARROWER than '..Said'. Prove '..Said' where nothing that the law and all that it calls make is longer than what came in: it says more and counts as full. Else prove '..UptoSaid'. A law counts once. -/
mutual
def uptoBulk {H : Type} : DataW H → Nat
  | .lit (.string bytes) => bytes.length + 1
  | .lit _ => 1
  | .nil => 1
  | .ptr d => uptoBulk d + 1
  | .slice elems spare => uptoBulkAll elems + uptoBulkAll spare + 1
  | .agg parts => uptoBulkAll parts + 1
  | .iface _ d => uptoBulk d + 1
  | .map entries => uptoBulkEntries entries + 1
  | .held _ => 1
def uptoBulkAll {H : Type} : List (DataW H) → Nat
  | [] => 0
  | d :: r => uptoBulk d + uptoBulkAll r
def uptoBulkEntries {H : Type} : List (Lit × DataW H) → Nat
  | [] => 0
  | x :: r => uptoBulkEntry x + uptoBulkEntries r
def uptoBulkEntry {H : Type} : Lit × DataW H → Nat
  | (.string bytes, d) => bytes.length + uptoBulk d + 1
  | (_, d) => uptoBulk d + 1
 end
def uptoSmall : (H : Type) → List (DataW H) → Bool := fun _ ds => decide (uptoBulkAll ds ≤ 1048576)
def OpenSpec.upto (s : _root_.Go.ChangeSpec) : _root_.Go.OpenSpec := { _root_.Go.OpenSpec.ofChange s with cond := some uptoSmall }

/-- 'espalierlaw.GrantSee', WHERE WHAT IT READS IS OF BULK AT MOST 1048576: true; the input reads as it did. -/
def grantSeeUptoRow : OpenClaim := { program := "ytnfoajgolcenlaadoor", sum := "a31ad3c277bdecf75c17aa9d66f767b980b814e83a16a78bab8c711ae6a524c8", func := "espalier/espalierlaw.GrantSee", spec := "grantSee", inPlace := ["internal/bytealg.IndexByteString", "internal/bytealg.IndexString", "internal/bytealg.Compare"], unfollowed := true, recurses := true, named := ["unicode/utf8.first", "unicode/utf8.acceptRanges", "internal/bytealg.MaxLen"], loops := true, apart := false, laid := [("unicode/utf8.acceptRanges", laid_unicode_utf8_acceptRanges), ("unicode/utf8.first", laid_unicode_utf8_first)], narrowed := true }
def GrantSeeUptoSaid : Prop := grantSeeUptoRow.holds Tryd.pinned (OpenSpec.upto grantSeeSpec)

/-- 'espalierlaw.GrantMay', WHERE WHAT IT READS IS OF BULK AT MOST 1048576: true; the input reads as it did. -/
def grantMayUptoRow : OpenClaim := { program := "ytnfoajgolcenlaadoor", sum := "a31ad3c277bdecf75c17aa9d66f767b980b814e83a16a78bab8c711ae6a524c8", func := "espalier/espalierlaw.GrantMay", spec := "grantMay", inPlace := ["internal/bytealg.IndexByteString", "internal/bytealg.IndexString"], unfollowed := true, recurses := true, named := ["unicode/utf8.first", "unicode/utf8.acceptRanges", "internal/bytealg.MaxLen"], loops := true, apart := false, laid := [("unicode/utf8.acceptRanges", laid_unicode_utf8_acceptRanges), ("unicode/utf8.first", laid_unicode_utf8_first)], narrowed := true }
def GrantMayUptoSaid : Prop := grantMayUptoRow.holds Tryd.pinned (OpenSpec.upto grantMaySpec)

/-- 'espalierlaw.GrantTwice', WHERE WHAT IT READS IS OF BULK AT MOST 1048576: true; the input reads as it did. -/
def grantTwiceUptoRow : OpenClaim := { program := "ytnfoajgolcenlaadoor", sum := "a31ad3c277bdecf75c17aa9d66f767b980b814e83a16a78bab8c711ae6a524c8", func := "espalier/espalierlaw.GrantTwice", spec := "grantTwice", inPlace := ["internal/bytealg.Compare"], unfollowed := true, recurses := true, named := ["unicode/utf8.first", "unicode/utf8.acceptRanges"], loops := true, apart := false, laid := [("unicode/utf8.acceptRanges", laid_unicode_utf8_acceptRanges), ("unicode/utf8.first", laid_unicode_utf8_first)], narrowed := true }
def GrantTwiceUptoSaid : Prop := grantTwiceUptoRow.holds Tryd.pinned (OpenSpec.upto grantTwiceSpec)

/-- 'espalierlaw.BagCheck', WHERE WHAT IT READS IS OF BULK AT MOST 1048576: true; the input reads as it did. -/
def bagCheckUptoRow : OpenClaim := { program := "ytnfoajgolcenlaadoor", sum := "a31ad3c277bdecf75c17aa9d66f767b980b814e83a16a78bab8c711ae6a524c8", func := "espalier/espalierlaw.BagCheck", spec := "bagCheck", inPlace := ["internal/bytealg.Compare"], unfollowed := true, recurses := true, named := ["unicode/utf8.first", "unicode/utf8.acceptRanges"], loops := true, apart := false, laid := [("unicode/utf8.acceptRanges", laid_unicode_utf8_acceptRanges), ("unicode/utf8.first", laid_unicode_utf8_first)], narrowed := true }
def BagCheckUptoSaid : Prop := bagCheckUptoRow.holds Tryd.pinned (OpenSpec.upto bagCheckSpec)

/-- 'espalierlaw.GuestTell', WHERE WHAT IT READS IS OF BULK AT MOST 1048576: true; the input reads as it did. -/
def guestTellUptoRow : OpenClaim := { program := "ytnfoajgolcenlaadoor", sum := "a31ad3c277bdecf75c17aa9d66f767b980b814e83a16a78bab8c711ae6a524c8", func := "espalier/espalierlaw.GuestTell", spec := "guestTell", inPlace := ["internal/bytealg.Compare"], unfollowed := true, recurses := true, named := ["unicode/utf8.first", "unicode/utf8.acceptRanges"], loops := true, apart := false, laid := [("unicode/utf8.acceptRanges", laid_unicode_utf8_acceptRanges), ("unicode/utf8.first", laid_unicode_utf8_first)], narrowed := true }
def GuestTellUptoSaid : Prop := guestTellUptoRow.holds Tryd.pinned (OpenSpec.upto guestTellSpec)

/-- 'espalierlaw.GraphEnds', WHERE WHAT IT READS IS OF BULK AT MOST 1048576: true; the input reads as it did. -/
def graphEndsUptoRow : OpenClaim := { program := "ytnfoajgolcenlaadoor", sum := "a31ad3c277bdecf75c17aa9d66f767b980b814e83a16a78bab8c711ae6a524c8", func := "espalier/espalierlaw.GraphEnds", spec := "graphEnds", inPlace := ["internal/bytealg.Compare"], unfollowed := true, recurses := true, named := ["unicode/utf8.first", "unicode/utf8.acceptRanges"], loops := true, apart := false, laid := [("unicode/utf8.acceptRanges", laid_unicode_utf8_acceptRanges), ("unicode/utf8.first", laid_unicode_utf8_first)], narrowed := true }
def GraphEndsUptoSaid : Prop := graphEndsUptoRow.holds Tryd.pinned (OpenSpec.upto graphEndsSpec)

/-- 'espalierlaw.GuestSums', WHERE WHAT IT READS IS OF BULK AT MOST 1048576: true; the input reads as it did. -/
def guestSumsUptoRow : OpenClaim := { program := "ytnfoajgolcenlaadoor", sum := "a31ad3c277bdecf75c17aa9d66f767b980b814e83a16a78bab8c711ae6a524c8", func := "espalier/espalierlaw.GuestSums", spec := "guestSums", inPlace := ["internal/bytealg.Compare"], unfollowed := true, recurses := true, named := ["unicode/utf8.first", "unicode/utf8.acceptRanges"], loops := true, apart := false, laid := [("unicode/utf8.acceptRanges", laid_unicode_utf8_acceptRanges), ("unicode/utf8.first", laid_unicode_utf8_first)], narrowed := true }
def GuestSumsUptoSaid : Prop := guestSumsUptoRow.holds Tryd.pinned (OpenSpec.upto guestSumsSpec)

/-- 'espalierlaw.GuestTake', WHERE WHAT IT READS IS OF BULK AT MOST 1048576: true; the input reads as it did. -/
def guestTakeUptoRow : OpenClaim := { program := "ytnfoajgolcenlaadoor", sum := "a31ad3c277bdecf75c17aa9d66f767b980b814e83a16a78bab8c711ae6a524c8", func := "espalier/espalierlaw.GuestTake", spec := "guestTake", inPlace := ["internal/bytealg.Compare", "internal/reflectlite.ValueOf", "internal/reflectlite.Swapper", "(internal/reflectlite.Value).Len"], unfollowed := true, recurses := true, named := ["unicode/utf8.first", "unicode/utf8.acceptRanges"], loops := true, apart := false, laid := [("unicode/utf8.acceptRanges", laid_unicode_utf8_acceptRanges), ("unicode/utf8.first", laid_unicode_utf8_first)], narrowed := true }
def GuestTakeUptoSaid : Prop := guestTakeUptoRow.holds Tryd.pinned (OpenSpec.upto guestTakeSpec)

/-- 'espalierlaw.BagOnce', WHERE WHAT IT READS IS OF BULK AT MOST 1048576: true; the input reads as it did. -/
def bagOnceUptoRow : OpenClaim := { program := "ytnfoajgolcenlaadoor", sum := "a31ad3c277bdecf75c17aa9d66f767b980b814e83a16a78bab8c711ae6a524c8", func := "espalier/espalierlaw.BagOnce", spec := "bagOnce", inPlace := ["internal/bytealg.Compare"], unfollowed := true, recurses := true, named := ["unicode/utf8.first", "unicode/utf8.acceptRanges"], loops := true, apart := false, laid := [("unicode/utf8.acceptRanges", laid_unicode_utf8_acceptRanges), ("unicode/utf8.first", laid_unicode_utf8_first)], narrowed := true }
def BagOnceUptoSaid : Prop := bagOnceUptoRow.holds Tryd.pinned (OpenSpec.upto bagOnceSpec)

/-- 'espalierlaw.BagRing', WHERE WHAT IT READS IS OF BULK AT MOST 1048576: true; the input reads as it did. -/
def bagRingUptoRow : OpenClaim := { program := "ytnfoajgolcenlaadoor", sum := "a31ad3c277bdecf75c17aa9d66f767b980b814e83a16a78bab8c711ae6a524c8", func := "espalier/espalierlaw.BagRing", spec := "bagRing", inPlace := ["internal/bytealg.Compare"], unfollowed := true, recurses := true, named := ["unicode/utf8.first", "unicode/utf8.acceptRanges"], loops := true, apart := false, laid := [("unicode/utf8.acceptRanges", laid_unicode_utf8_acceptRanges), ("unicode/utf8.first", laid_unicode_utf8_first)], narrowed := true }
def BagRingUptoSaid : Prop := bagRingUptoRow.holds Tryd.pinned (OpenSpec.upto bagRingSpec)

/-- 'espalierlaw.BagOf', WHERE WHAT IT READS IS OF BULK AT MOST 1048576: true; the input reads as it did. -/
def bagOfUptoRow : OpenClaim := { program := "ytnfoajgolcenlaadoor", sum := "a31ad3c277bdecf75c17aa9d66f767b980b814e83a16a78bab8c711ae6a524c8", func := "espalier/espalierlaw.BagOf", spec := "bagOf", inPlace := ["internal/bytealg.Compare", "internal/reflectlite.ValueOf", "internal/reflectlite.Swapper", "(internal/reflectlite.Value).Len"], unfollowed := true, recurses := true, named := ["unicode/utf8.first", "unicode/utf8.acceptRanges"], loops := true, apart := false, laid := [("unicode/utf8.acceptRanges", laid_unicode_utf8_acceptRanges), ("unicode/utf8.first", laid_unicode_utf8_first)], narrowed := true }
def BagOfUptoSaid : Prop := bagOfUptoRow.holds Tryd.pinned (OpenSpec.upto bagOfSpec)

/-- 'espalierlaw.BagAdd', WHERE WHAT IT READS IS OF BULK AT MOST 1048576: true; the input reads as it did. -/
def bagAddUptoRow : OpenClaim := { program := "ytnfoajgolcenlaadoor", sum := "a31ad3c277bdecf75c17aa9d66f767b980b814e83a16a78bab8c711ae6a524c8", func := "espalier/espalierlaw.BagAdd", spec := "bagAdd", inPlace := ["internal/bytealg.Compare", "internal/reflectlite.ValueOf", "internal/reflectlite.Swapper", "(internal/reflectlite.Value).Len"], unfollowed := true, recurses := true, named := ["unicode/utf8.first", "unicode/utf8.acceptRanges"], loops := true, apart := false, laid := [("unicode/utf8.acceptRanges", laid_unicode_utf8_acceptRanges), ("unicode/utf8.first", laid_unicode_utf8_first)], narrowed := true }
def BagAddUptoSaid : Prop := bagAddUptoRow.holds Tryd.pinned (OpenSpec.upto bagAddSpec)

/-- 'espalierlaw.BagJoin', WHERE WHAT IT READS IS OF BULK AT MOST 1048576: true; the input reads as it did. -/
def bagJoinUptoRow : OpenClaim := { program := "ytnfoajgolcenlaadoor", sum := "a31ad3c277bdecf75c17aa9d66f767b980b814e83a16a78bab8c711ae6a524c8", func := "espalier/espalierlaw.BagJoin", spec := "bagJoin", inPlace := ["internal/bytealg.Compare", "internal/reflectlite.ValueOf", "internal/reflectlite.Swapper", "(internal/reflectlite.Value).Len"], unfollowed := true, recurses := true, named := ["unicode/utf8.first", "unicode/utf8.acceptRanges"], loops := true, apart := false, laid := [("unicode/utf8.acceptRanges", laid_unicode_utf8_acceptRanges), ("unicode/utf8.first", laid_unicode_utf8_first)], narrowed := true }
def BagJoinUptoSaid : Prop := bagJoinUptoRow.holds Tryd.pinned (OpenSpec.upto bagJoinSpec)

/-- 'espalierlaw.BagPick', WHERE WHAT IT READS IS OF BULK AT MOST 1048576: true; the input reads as it did. -/
def bagPickUptoRow : OpenClaim := { program := "ytnfoajgolcenlaadoor", sum := "a31ad3c277bdecf75c17aa9d66f767b980b814e83a16a78bab8c711ae6a524c8", func := "espalier/espalierlaw.BagPick", spec := "bagPick", inPlace := ["internal/bytealg.Compare", "internal/reflectlite.ValueOf", "internal/reflectlite.Swapper", "(internal/reflectlite.Value).Len"], unfollowed := true, recurses := true, named := ["unicode/utf8.first", "unicode/utf8.acceptRanges"], loops := true, apart := false, laid := [("unicode/utf8.acceptRanges", laid_unicode_utf8_acceptRanges), ("unicode/utf8.first", laid_unicode_utf8_first)], narrowed := true }
def BagPickUptoSaid : Prop := bagPickUptoRow.holds Tryd.pinned (OpenSpec.upto bagPickSpec)

end Rows
end Go.Proofs.YtnfoajgolcenlaaDoor
