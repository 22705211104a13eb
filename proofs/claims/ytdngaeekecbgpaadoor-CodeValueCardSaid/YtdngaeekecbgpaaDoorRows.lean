/-
  NARROWER THAN 'FOR EVERY INPUT', by the rows' own cells (each row's printed sentence says how): CodeInts: laid · CodeTorn: laid · CodeFrame: laid · CodeValue: laid · CodeBack: loops, laid · CodeSplits: loops, laid · CodeBytes: loops, laid.
  DERIVED. THE GIVEN ROWS OF THIS SEAT. 7 by the template 'for every input the law returns true; each argument reads behind the call as it read before'; 0 by the template 'total and deterministic' (their statements: YtdngaeekecbgpaaDoorTotals.lean).
  GIVEN WITH THE SEED: the statements are not yours to turn. If you find one false, say at which input.
  Laid BY PROGRAM, IN A SANDBOX (cutbox-rows.mjs): the forced cells as the released guide's own fill.sh prints them over the translation 406c9646463c668c… (all of the seat's roots in one cut). By AI agents, Wed Nov 11 2026. No macro, syntax, notation, axiom, sorry.
-/
import Derived.Test.YtdngaeekecbgpaaDoorChecked
import GoSem.PinnedTables
import GoSem.Claim
import GoSem.ClaimJoined
import GoSem.ClaimMapViews
import Derived.JoinedTies
import Derived.KernelRfl
namespace Go.Proofs.YtdngaeekecbgpaaDoor
/- THE CELL 'sum', in the pinned program and in every row, IS THE sha256 OF THE DUMP (.gsa) THAT YtdngaeekecbgpaaDoorProg.lean LOADS. Nothing in Lean hashes anything: it is a label: what it is worth is what the hold of that sum in a sandbox is worth. -/
noncomputable def Tryd.pinned : Pinned := { name := "ytdngaeekecbgpaadoor", sum := "406c9646463c668c6ca9afe542b2ddfbf8dd97a19c6c624c8e78334e8687c9a2", checked := Tryd.checked }
namespace Rows
def none {H : Type} : Left H := { results := [], args := [] }

/- WHAT THE LISTED PACKAGE-LEVEL VARIABLES READ AS WHEN THE CALL BEGINS. Each datum BY PROGRAM (the guide's laid-datum.mjs) off the statement by which the dump's own 'gosem.cut.vars' lays the variable. In a bare row this is a premise. The card (YtdngaeekecbgpaaDoorCards.lean) ties it to the program's text. -/
def laid_unicode_utf8_acceptRanges {H : Type} : DataW H := .agg [.agg [.lit (.int .u8 128), .lit (.int .u8 191)], .agg [.lit (.int .u8 160), .lit (.int .u8 191)], .agg [.lit (.int .u8 128), .lit (.int .u8 159)], .agg [.lit (.int .u8 144), .lit (.int .u8 191)], .agg [.lit (.int .u8 128), .lit (.int .u8 143)], .agg [.lit (.int .u8 0), .lit (.int .u8 0)], .agg [.lit (.int .u8 0), .lit (.int .u8 0)], .agg [.lit (.int .u8 0), .lit (.int .u8 0)], .agg [.lit (.int .u8 0), .lit (.int .u8 0)], .agg [.lit (.int .u8 0), .lit (.int .u8 0)], .agg [.lit (.int .u8 0), .lit (.int .u8 0)], .agg [.lit (.int .u8 0), .lit (.int .u8 0)], .agg [.lit (.int .u8 0), .lit (.int .u8 0)], .agg [.lit (.int .u8 0), .lit (.int .u8 0)], .agg [.lit (.int .u8 0), .lit (.int .u8 0)], .agg [.lit (.int .u8 0), .lit (.int .u8 0)]]
/-- One of Go's own tables, pinned by name: the form's constant. -/
def laid_unicode_utf8_first : DataW Unit := Go.Pinned.utf8First
def laid_bytes_ErrTooLarge {H : Type} : DataW H := .iface "*errors.errorString" (.ptr (.agg [.lit (.string [98, 121, 116, 101, 115, 46, 66, 117, 102, 102, 101, 114, 58, 32, 116, 111, 111, 32, 108, 97, 114, 103, 101])]))

/-- 'espalierlaw.CodeInts': WHATEVER THE INPUT: true; the input reads as it did. -/
def codeIntsSpec : ChangeSpec := { name := "codeInts", fn := fun _ => fun
  | [d1, d2] => { results := [.lit (.bool true)], args := [d1, d2] }
  | _ => none }
def codeIntsRow : OpenClaim := { program := "ytdngaeekecbgpaadoor", sum := "406c9646463c668c6ca9afe542b2ddfbf8dd97a19c6c624c8e78334e8687c9a2", func := "espalier/espalierlaw.CodeInts", spec := "codeInts", recurses := true, named := ["unicode/utf8.first", "unicode/utf8.acceptRanges"], apart := false, laid := [("unicode/utf8.acceptRanges", laid_unicode_utf8_acceptRanges), ("unicode/utf8.first", laid_unicode_utf8_first)] }
def CodeIntsSaid : Prop := codeIntsRow.holds Tryd.pinned (OpenSpec.ofChange codeIntsSpec)

/-- ITS FALSE NEIGHBOUR: 'it returns false'. Refute it at one input. -/
def codeIntsWrong : ChangeSpec := { name := "codeInts", fn := fun _ => fun
  | [d1, d2] => { results := [.lit (.bool false)], args := [d1, d2] }
  | _ => none }
def CodeIntsWrongFalsely : Prop := codeIntsRow.holds Tryd.pinned (OpenSpec.ofChange codeIntsWrong)

/-- 'espalierlaw.CodeTorn': WHATEVER THE INPUT: true; the input reads as it did. -/
def codeTornSpec : ChangeSpec := { name := "codeTorn", fn := fun _ => fun
  | [d1, d2] => { results := [.lit (.bool true)], args := [d1, d2] }
  | _ => none }
def codeTornRow : OpenClaim := { program := "ytdngaeekecbgpaadoor", sum := "406c9646463c668c6ca9afe542b2ddfbf8dd97a19c6c624c8e78334e8687c9a2", func := "espalier/espalierlaw.CodeTorn", spec := "codeTorn", recurses := true, named := ["unicode/utf8.first", "unicode/utf8.acceptRanges"], apart := false, laid := [("unicode/utf8.acceptRanges", laid_unicode_utf8_acceptRanges), ("unicode/utf8.first", laid_unicode_utf8_first)] }
def CodeTornSaid : Prop := codeTornRow.holds Tryd.pinned (OpenSpec.ofChange codeTornSpec)

/-- ITS FALSE NEIGHBOUR: 'it returns false'. Refute it at one input. -/
def codeTornWrong : ChangeSpec := { name := "codeTorn", fn := fun _ => fun
  | [d1, d2] => { results := [.lit (.bool false)], args := [d1, d2] }
  | _ => none }
def CodeTornWrongFalsely : Prop := codeTornRow.holds Tryd.pinned (OpenSpec.ofChange codeTornWrong)

/-- 'espalierlaw.CodeFrame': WHATEVER THE INPUT: true; the input reads as it did. -/
def codeFrameSpec : ChangeSpec := { name := "codeFrame", fn := fun _ => fun
  | [d1, d2] => { results := [.lit (.bool true)], args := [d1, d2] }
  | _ => none }
def codeFrameRow : OpenClaim := { program := "ytdngaeekecbgpaadoor", sum := "406c9646463c668c6ca9afe542b2ddfbf8dd97a19c6c624c8e78334e8687c9a2", func := "espalier/espalierlaw.CodeFrame", spec := "codeFrame", recurses := true, named := ["unicode/utf8.first", "unicode/utf8.acceptRanges"], apart := false, laid := [("unicode/utf8.acceptRanges", laid_unicode_utf8_acceptRanges), ("unicode/utf8.first", laid_unicode_utf8_first)] }
def CodeFrameSaid : Prop := codeFrameRow.holds Tryd.pinned (OpenSpec.ofChange codeFrameSpec)

/-- ITS FALSE NEIGHBOUR: 'it returns false'. Refute it at one input. -/
def codeFrameWrong : ChangeSpec := { name := "codeFrame", fn := fun _ => fun
  | [d1, d2] => { results := [.lit (.bool false)], args := [d1, d2] }
  | _ => none }
def CodeFrameWrongFalsely : Prop := codeFrameRow.holds Tryd.pinned (OpenSpec.ofChange codeFrameWrong)

/-- 'espalierlaw.CodeValue': WHATEVER THE INPUT: true; the input reads as it did. -/
def codeValueSpec : ChangeSpec := { name := "codeValue", fn := fun _ => fun
  | [d] => { results := [.lit (.bool true)], args := [d] }
  | _ => none }
def codeValueRow : OpenClaim := { program := "ytdngaeekecbgpaadoor", sum := "406c9646463c668c6ca9afe542b2ddfbf8dd97a19c6c624c8e78334e8687c9a2", func := "espalier/espalierlaw.CodeValue", spec := "codeValue", inPlace := ["internal/bytealg.Compare"], recurses := true, named := ["unicode/utf8.first", "unicode/utf8.acceptRanges"], apart := false, laid := [("unicode/utf8.acceptRanges", laid_unicode_utf8_acceptRanges), ("unicode/utf8.first", laid_unicode_utf8_first)] }
def CodeValueSaid : Prop := codeValueRow.holds Tryd.pinned (OpenSpec.ofChange codeValueSpec)

/-- ITS FALSE NEIGHBOUR: 'it returns false'. Refute it at one input. -/
def codeValueWrong : ChangeSpec := { name := "codeValue", fn := fun _ => fun
  | [d] => { results := [.lit (.bool false)], args := [d] }
  | _ => none }
def CodeValueWrongFalsely : Prop := codeValueRow.holds Tryd.pinned (OpenSpec.ofChange codeValueWrong)

/-- 'espalierlaw.CodeBack': WHATEVER THE INPUT: true; the input reads as it did. -/
def codeBackSpec : ChangeSpec := { name := "codeBack", fn := fun _ => fun
  | [d1, d2] => { results := [.lit (.bool true)], args := [d1, d2] }
  | _ => none }
def codeBackRow : OpenClaim := { program := "ytdngaeekecbgpaadoor", sum := "406c9646463c668c6ca9afe542b2ddfbf8dd97a19c6c624c8e78334e8687c9a2", func := "espalier/espalierlaw.CodeBack", spec := "codeBack", inPlace := ["internal/bytealg.Compare"], recurses := true, named := ["unicode/utf8.first", "unicode/utf8.acceptRanges"], loops := true, apart := false, laid := [("unicode/utf8.acceptRanges", laid_unicode_utf8_acceptRanges), ("unicode/utf8.first", laid_unicode_utf8_first)] }
def CodeBackSaid : Prop := codeBackRow.holds Tryd.pinned (OpenSpec.ofChange codeBackSpec)

/-- ITS FALSE NEIGHBOUR: 'it returns false'. Refute it at one input. -/
def codeBackWrong : ChangeSpec := { name := "codeBack", fn := fun _ => fun
  | [d1, d2] => { results := [.lit (.bool false)], args := [d1, d2] }
  | _ => none }
def CodeBackWrongFalsely : Prop := codeBackRow.holds Tryd.pinned (OpenSpec.ofChange codeBackWrong)

/-- 'espalierlaw.CodeSplits': WHATEVER THE INPUT: true; the input reads as it did. -/
def codeSplitsSpec : ChangeSpec := { name := "codeSplits", fn := fun _ => fun
  | [d] => { results := [.lit (.bool true)], args := [d] }
  | _ => none }
def codeSplitsRow : OpenClaim := { program := "ytdngaeekecbgpaadoor", sum := "406c9646463c668c6ca9afe542b2ddfbf8dd97a19c6c624c8e78334e8687c9a2", func := "espalier/espalierlaw.CodeSplits", spec := "codeSplits", inPlace := ["internal/bytealg.Compare"], recurses := true, named := ["unicode/utf8.first", "unicode/utf8.acceptRanges"], loops := true, apart := false, laid := [("unicode/utf8.acceptRanges", laid_unicode_utf8_acceptRanges), ("unicode/utf8.first", laid_unicode_utf8_first)] }
def CodeSplitsSaid : Prop := codeSplitsRow.holds Tryd.pinned (OpenSpec.ofChange codeSplitsSpec)

/-- ITS FALSE NEIGHBOUR: 'it returns false'. Refute it at one input. -/
def codeSplitsWrong : ChangeSpec := { name := "codeSplits", fn := fun _ => fun
  | [d] => { results := [.lit (.bool false)], args := [d] }
  | _ => none }
def CodeSplitsWrongFalsely : Prop := codeSplitsRow.holds Tryd.pinned (OpenSpec.ofChange codeSplitsWrong)

/-- 'espalierlaw.CodeBytes': WHATEVER THE INPUT: true; the input reads as it did. -/
def codeBytesSpec : ChangeSpec := { name := "codeBytes", fn := fun _ => fun
  | [d] => { results := [.lit (.bool true)], args := [d] }
  | _ => none }
def codeBytesRow : OpenClaim := { program := "ytdngaeekecbgpaadoor", sum := "406c9646463c668c6ca9afe542b2ddfbf8dd97a19c6c624c8e78334e8687c9a2", func := "espalier/espalierlaw.CodeBytes", spec := "codeBytes", recurses := true, named := ["unicode/utf8.first", "unicode/utf8.acceptRanges", "bytes.ErrTooLarge"], loops := true, apart := false, laid := [("unicode/utf8.acceptRanges", laid_unicode_utf8_acceptRanges), ("bytes.ErrTooLarge", laid_bytes_ErrTooLarge), ("unicode/utf8.first", laid_unicode_utf8_first)] }
def CodeBytesSaid : Prop := codeBytesRow.holds Tryd.pinned (OpenSpec.ofChange codeBytesSpec)

/-- ITS FALSE NEIGHBOUR: 'it returns false'. Refute it at one input. -/
def codeBytesWrong : ChangeSpec := { name := "codeBytes", fn := fun _ => fun
  | [d] => { results := [.lit (.bool false)], args := [d] }
  | _ => none }
def CodeBytesWrongFalsely : Prop := codeBytesRow.holds Tryd.pinned (OpenSpec.ofChange codeBytesWrong)

/- THE SECOND FORM. 'bulk': how many values and letters a reading holds, each counted each time it is reached (what is shared counts as often as it is met; a slice's spare places count too). A statement '..UptoSaid' is the law's where the arguments, and the package variables that the reading takes, are together of bulk at most 1048576: NARROWER than '..Said'. Prove '..Said' where nothing that the law and all that it calls make is longer than what came in: it says more and counts as full. Else prove '..UptoSaid'. A law counts once. -/
mutual
def uptoBulk {H : Type} : DataW H → Nat
  | .lit (.string bytes) => bytes.length + 1
  | .lit _ => 1
  | .nil => 1
  | .ptr d => uptoBulk d + 1
  | .slice elems spare => uptoBulkAll elems + uptoBulkAll spare + 1
  | .agg parts => uptoBulkAll parts + 1
  | .iface _ d => uptoBulk d + 1
  | .map entries => uptoBulkEntries entries + 1
  | .held _ => 1
def uptoBulkAll {H : Type} : List (DataW H) → Nat
  | [] => 0
  | d :: r => uptoBulk d + uptoBulkAll r
def uptoBulkEntries {H : Type} : List (Lit × DataW H) → Nat
  | [] => 0
  | x :: r => uptoBulkEntry x + uptoBulkEntries r
def uptoBulkEntry {H : Type} : Lit × DataW H → Nat
  | (.string bytes, d) => bytes.length + uptoBulk d + 1
  | (_, d) => uptoBulk d + 1
 end
def uptoSmall : (H : Type) → List (DataW H) → Bool := fun _ ds => decide (uptoBulkAll ds ≤ 1048576)
def OpenSpec.upto (s : _root_.Go.ChangeSpec) : _root_.Go.OpenSpec := { _root_.Go.OpenSpec.ofChange s with cond := some uptoSmall }

/-- 'espalierlaw.CodeInts', WHERE WHAT IT READS IS OF BULK AT MOST 1048576: true; the input reads as it did. -/
def codeIntsUptoRow : OpenClaim := { program := "ytdngaeekecbgpaadoor", sum := "406c9646463c668c6ca9afe542b2ddfbf8dd97a19c6c624c8e78334e8687c9a2", func := "espalier/espalierlaw.CodeInts", spec := "codeInts", recurses := true, named := ["unicode/utf8.first", "unicode/utf8.acceptRanges"], apart := false, laid := [("unicode/utf8.acceptRanges", laid_unicode_utf8_acceptRanges), ("unicode/utf8.first", laid_unicode_utf8_first)], narrowed := true }
def CodeIntsUptoSaid : Prop := codeIntsUptoRow.holds Tryd.pinned (OpenSpec.upto codeIntsSpec)

/-- 'espalierlaw.CodeTorn', WHERE WHAT IT READS IS OF BULK AT MOST 1048576: true; the input reads as it did. -/
def codeTornUptoRow : OpenClaim := { program := "ytdngaeekecbgpaadoor", sum := "406c9646463c668c6ca9afe542b2ddfbf8dd97a19c6c624c8e78334e8687c9a2", func := "espalier/espalierlaw.CodeTorn", spec := "codeTorn", recurses := true, named := ["unicode/utf8.first", "unicode/utf8.acceptRanges"], apart := false, laid := [("unicode/utf8.acceptRanges", laid_unicode_utf8_acceptRanges), ("unicode/utf8.first", laid_unicode_utf8_first)], narrowed := true }
def CodeTornUptoSaid : Prop := codeTornUptoRow.holds Tryd.pinned (OpenSpec.upto codeTornSpec)

/-- 'espalierlaw.CodeFrame', WHERE WHAT IT READS IS OF BULK AT MOST 1048576: true; the input reads as it did. -/
def codeFrameUptoRow : OpenClaim := { program := "ytdngaeekecbgpaadoor", sum := "406c9646463c668c6ca9afe542b2ddfbf8dd97a19c6c624c8e78334e8687c9a2", func := "espalier/espalierlaw.CodeFrame", spec := "codeFrame", recurses := true, named := ["unicode/utf8.first", "unicode/utf8.acceptRanges"], apart := false, laid := [("unicode/utf8.acceptRanges", laid_unicode_utf8_acceptRanges), ("unicode/utf8.first", laid_unicode_utf8_first)], narrowed := true }
def CodeFrameUptoSaid : Prop := codeFrameUptoRow.holds Tryd.pinned (OpenSpec.upto codeFrameSpec)

/-- 'espalierlaw.CodeValue', WHERE WHAT IT READS IS OF BULK AT MOST 1048576: true; the input reads as it did. -/
def codeValueUptoRow : OpenClaim := { program := "ytdngaeekecbgpaadoor", sum := "406c9646463c668c6ca9afe542b2ddfbf8dd97a19c6c624c8e78334e8687c9a2", func := "espalier/espalierlaw.CodeValue", spec := "codeValue", inPlace := ["internal/bytealg.Compare"], recurses := true, named := ["unicode/utf8.first", "unicode/utf8.acceptRanges"], apart := false, laid := [("unicode/utf8.acceptRanges", laid_unicode_utf8_acceptRanges), ("unicode/utf8.first", laid_unicode_utf8_first)], narrowed := true }
def CodeValueUptoSaid : Prop := codeValueUptoRow.holds Tryd.pinned (OpenSpec.upto codeValueSpec)

/-- 'espalierlaw.CodeBack', WHERE WHAT IT READS IS OF BULK AT MOST 1048576: true; the input reads as it did. -/
def codeBackUptoRow : OpenClaim := { program := "ytdngaeekecbgpaadoor", sum := "406c9646463c668c6ca9afe542b2ddfbf8dd97a19c6c624c8e78334e8687c9a2", func := "espalier/espalierlaw.CodeBack", spec := "codeBack", inPlace := ["internal/bytealg.Compare"], recurses := true, named := ["unicode/utf8.first", "unicode/utf8.acceptRanges"], loops := true, apart := false, laid := [("unicode/utf8.acceptRanges", laid_unicode_utf8_acceptRanges), ("unicode/utf8.first", laid_unicode_utf8_first)], narrowed := true }
def CodeBackUptoSaid : Prop := codeBackUptoRow.holds Tryd.pinned (OpenSpec.upto codeBackSpec)

/-- 'espalierlaw.CodeSplits', WHERE WHAT IT READS IS OF BULK AT MOST 1048576: true; the input reads as it did. -/
def codeSplitsUptoRow : OpenClaim := { program := "ytdngaeekecbgpaadoor", sum := "406c9646463c668c6ca9afe542b2ddfbf8dd97a19c6c624c8e78334e8687c9a2", func := "espalier/espalierlaw.CodeSplits", spec := "codeSplits", inPlace := ["internal/bytealg.Compare"], recurses := true, named := ["unicode/utf8.first", "unicode/utf8.acceptRanges"], loops := true, apart := false, laid := [("unicode/utf8.acceptRanges", laid_unicode_utf8_acceptRanges), ("unicode/utf8.first", laid_unicode_utf8_first)], narrowed := true }
def CodeSplitsUptoSaid : Prop := codeSplitsUptoRow.holds Tryd.pinned (OpenSpec.upto codeSplitsSpec)

/-- 'espalierlaw.CodeBytes', WHERE WHAT IT READS IS OF BULK AT MOST 1048576: true; the input reads as it did. -/
def codeBytesUptoRow : OpenClaim := { program := "ytdngaeekecbgpaadoor", sum := "406c9646463c668c6ca9afe542b2ddfbf8dd97a19c6c624c8e78334e8687c9a2", func := "espalier/espalierlaw.CodeBytes", spec := "codeBytes", recurses := true, named := ["unicode/utf8.first", "unicode/utf8.acceptRanges", "bytes.ErrTooLarge"], loops := true, apart := false, laid := [("unicode/utf8.acceptRanges", laid_unicode_utf8_acceptRanges), ("bytes.ErrTooLarge", laid_bytes_ErrTooLarge), ("unicode/utf8.first", laid_unicode_utf8_first)], narrowed := true }
def CodeBytesUptoSaid : Prop := codeBytesUptoRow.holds Tryd.pinned (OpenSpec.upto codeBytesSpec)

end Rows
end Go.Proofs.YtdngaeekecbgpaaDoor
