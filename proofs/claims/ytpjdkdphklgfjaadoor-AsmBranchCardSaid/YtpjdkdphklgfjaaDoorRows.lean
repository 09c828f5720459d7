/-
  NARROWER THAN 'FOR EVERY INPUT', by the rows' own cells (each row's printed sentence says how): PlainSweep: laid · AsmBranch: laid · AsmTwo: laid · AsmLays: laid · PlainThere: laid.
  DERIVED. THE GIVEN ROWS OF THIS SEAT. 5 by the template 'for every input the law returns true; each argument reads behind the call as it read before'; 0 by the template 'total and deterministic' (their statements: YtpjdkdphklgfjaaDoorTotals.lean).
  GIVEN WITH THE SEED: the statements are not yours to turn. If you find one false, say at which input.
  Laid BY PROGRAM, IN A SANDBOX (cutbox-rows.mjs): the forced cells as the released guide's own fill.sh prints them over the translation 1f92cb228d4d3d4a… (all of the seat's roots in one cut). By AI agents, Wed Nov 11 2026. No macro, syntax, notation, axiom, sorry.
-/
import Derived.Test.YtpjdkdphklgfjaaDoorChecked
import GoSem.PinnedTables
import GoSem.Claim
import GoSem.ClaimJoined
import GoSem.ClaimMapViews
import Derived.JoinedTies
import Derived.KernelRfl
namespace Go.Proofs.YtpjdkdphklgfjaaDoor
/- THE CELL 'sum', in the pinned program and in every row, IS THE sha256 OF THE DUMP (.gsa) THAT YtpjdkdphklgfjaaDoorProg.lean LOADS. Nothing in Lean hashes anything: it is a label: what it is worth is what the hold of that sum in a sandbox is worth. -/
noncomputable def Tryd.pinned : Pinned := { name := "ytpjdkdphklgfjaadoor", sum := "1f92cb228d4d3d4a25d3516ab1eaaa0ac16dbecdc6abe20089d2cd0add29521a", checked := Tryd.checked }
namespace Rows
def none {H : Type} : Left H := { results := [], args := [] }

/- WHAT THE LISTED PACKAGE-LEVEL VARIABLES READ AS WHEN THE CALL BEGINS. Each datum BY PROGRAM (the guide's laid-datum.mjs) off the statement by which the dump's own 'gosem.cut.vars' lays the variable. In a bare row this is a premise. The card (YtpjdkdphklgfjaaDoorCards.lean) ties it to the program's text. -/
def laid_unicode_utf8_acceptRanges {H : Type} : DataW H := .agg [.agg [.lit (.int .u8 128), .lit (.int .u8 191)], .agg [.lit (.int .u8 160), .lit (.int .u8 191)], .agg [.lit (.int .u8 128), .lit (.int .u8 159)], .agg [.lit (.int .u8 144), .lit (.int .u8 191)], .agg [.lit (.int .u8 128), .lit (.int .u8 143)], .agg [.lit (.int .u8 0), .lit (.int .u8 0)], .agg [.lit (.int .u8 0), .lit (.int .u8 0)], .agg [.lit (.int .u8 0), .lit (.int .u8 0)], .agg [.lit (.int .u8 0), .lit (.int .u8 0)], .agg [.lit (.int .u8 0), .lit (.int .u8 0)], .agg [.lit (.int .u8 0), .lit (.int .u8 0)], .agg [.lit (.int .u8 0), .lit (.int .u8 0)], .agg [.lit (.int .u8 0), .lit (.int .u8 0)], .agg [.lit (.int .u8 0), .lit (.int .u8 0)], .agg [.lit (.int .u8 0), .lit (.int .u8 0)], .agg [.lit (.int .u8 0), .lit (.int .u8 0)]]
def laid_vesper_code_rows {H : Type} : DataW H := .agg [.lit (.string []), .lit (.string [73, 78, 67]), .lit (.string [68, 69, 67]), .lit (.string []), .lit (.string [76, 68, 65]), .lit (.string [83, 84, 82]), .lit (.string []), .lit (.string []), .lit (.string [71, 76, 79]), .lit (.string [71, 72, 73]), .lit (.string [80, 76, 79]), .lit (.string [80, 72, 73]), .lit (.string []), .lit (.string [83, 69, 80]), .lit (.string [83, 69, 88]), .lit (.string [])]
def laid_vesper_code_threes {H : Type} : DataW H := .agg [.lit (.string [66, 82]), .lit (.string [66, 81]), .lit (.string [66, 90]), .lit (.string [66, 68, 70]), .lit (.string [66, 49]), .lit (.string [66, 50]), .lit (.string [66, 51]), .lit (.string [66, 52]), .lit (.string [83, 75, 80]), .lit (.string [66, 78, 81]), .lit (.string [66, 78, 90]), .lit (.string [66, 78, 70]), .lit (.string [66, 78, 49]), .lit (.string [66, 78, 50]), .lit (.string [66, 78, 51]), .lit (.string [66, 78, 52])]
def laid_vesper_code_sevens {H : Type} : DataW H := .agg [.lit (.string [82, 69, 84]), .lit (.string [68, 73, 83]), .lit (.string [76, 68, 88, 65]), .lit (.string [83, 84, 88, 68]), .lit (.string [65, 68, 67]), .lit (.string [83, 68, 66]), .lit (.string [83, 72, 82, 67]), .lit (.string [83, 77, 66]), .lit (.string [83, 65, 86]), .lit (.string [77, 65, 82, 75]), .lit (.string [82, 69, 81]), .lit (.string [83, 69, 81]), .lit (.string [65, 68, 67, 73]), .lit (.string [83, 68, 66, 73]), .lit (.string [83, 72, 76, 67]), .lit (.string [83, 77, 66, 73])]
def laid_vesper_code_twelves {H : Type} : DataW H := .agg [.lit (.string [76, 66, 82]), .lit (.string [76, 66, 81]), .lit (.string [76, 66, 90]), .lit (.string [76, 66, 68, 70]), .lit (.string [78, 79, 80]), .lit (.string [76, 83, 78, 81]), .lit (.string [76, 83, 78, 90]), .lit (.string [76, 83, 78, 70]), .lit (.string [76, 83, 75, 80]), .lit (.string [76, 66, 78, 81]), .lit (.string [76, 66, 78, 90]), .lit (.string [76, 66, 78, 70]), .lit (.string [76, 83, 73, 69]), .lit (.string [76, 83, 81]), .lit (.string [76, 83, 90]), .lit (.string [76, 83, 68, 70])]
def laid_vesper_code_fifteens {H : Type} : DataW H := .agg [.lit (.string [76, 68, 88]), .lit (.string [79, 82]), .lit (.string [65, 78, 68]), .lit (.string [88, 79, 82]), .lit (.string [65, 68, 68]), .lit (.string [83, 68]), .lit (.string [83, 72, 82]), .lit (.string [83, 77]), .lit (.string [76, 68, 73]), .lit (.string [79, 82, 73]), .lit (.string [65, 78, 73]), .lit (.string [88, 82, 73]), .lit (.string [65, 68, 73]), .lit (.string [83, 68, 73]), .lit (.string [83, 72, 76]), .lit (.string [83, 77, 73])]
def laid_vesper_code_lengths {H : Type} : DataW H := .agg [.lit (.int .i64 0), .lit (.int .i64 1), .lit (.int .i64 1), .lit (.int .i64 1), .lit (.int .i64 2), .lit (.int .i64 2), .lit (.int .i64 3)]
/-- One of Go's own tables, pinned by name: the form's constant. -/
def laid_unicode_utf8_first : DataW Unit := Go.Pinned.utf8First

/-- 'vesperlaw15.PlainSweep': WHATEVER THE INPUT: true; the input reads as it did. -/
def plainSweepSpec : ChangeSpec := { name := "plainSweep", fn := fun _ => fun
  | [d1, d2] => { results := [.lit (.bool true)], args := [d1, d2] }
  | _ => none }
def plainSweepRow : OpenClaim := { program := "ytpjdkdphklgfjaadoor", sum := "1f92cb228d4d3d4a25d3516ab1eaaa0ac16dbecdc6abe20089d2cd0add29521a", func := "vesper/vesperlaw15.PlainSweep", spec := "plainSweep", inPlace := ["internal/bytealg.IndexByteString", "internal/bytealg.IndexString", "internal/bytealg.abigen_runtime_cmpstring"], unfollowed := true, recurses := true, named := ["vesper/code.lengths", "vesper/code.threes", "vesper/code.sevens", "vesper/code.twelves", "vesper/code.fifteens", "vesper/code.rows", "internal/bytealg.MaxLen", "unicode/utf8.first", "unicode/utf8.acceptRanges"], apart := false, laid := [("unicode/utf8.acceptRanges", laid_unicode_utf8_acceptRanges), ("vesper/code.rows", laid_vesper_code_rows), ("vesper/code.threes", laid_vesper_code_threes), ("vesper/code.sevens", laid_vesper_code_sevens), ("vesper/code.twelves", laid_vesper_code_twelves), ("vesper/code.fifteens", laid_vesper_code_fifteens), ("vesper/code.lengths", laid_vesper_code_lengths), ("unicode/utf8.first", laid_unicode_utf8_first)] }
def PlainSweepSaid : Prop := plainSweepRow.holds Tryd.pinned (OpenSpec.ofChange plainSweepSpec)

/-- ITS FALSE NEIGHBOUR: 'it returns false'. Refute it at one input. -/
def plainSweepWrong : ChangeSpec := { name := "plainSweep", fn := fun _ => fun
  | [d1, d2] => { results := [.lit (.bool false)], args := [d1, d2] }
  | _ => none }
def PlainSweepWrongFalsely : Prop := plainSweepRow.holds Tryd.pinned (OpenSpec.ofChange plainSweepWrong)

/-- 'vesperlaw14.AsmBranch': WHATEVER THE INPUT: true; the input reads as it did. -/
def asmBranchSpec : ChangeSpec := { name := "asmBranch", fn := fun _ => fun
  | [d1, d2, d3] => { results := [.lit (.bool true)], args := [d1, d2, d3] }
  | _ => none }
def asmBranchRow : OpenClaim := { program := "ytpjdkdphklgfjaadoor", sum := "1f92cb228d4d3d4a25d3516ab1eaaa0ac16dbecdc6abe20089d2cd0add29521a", func := "vesper/vesperlaw14.AsmBranch", spec := "asmBranch", inPlace := ["internal/bytealg.IndexByteString", "internal/bytealg.IndexString", "internal/bytealg.abigen_runtime_cmpstring"], unfollowed := true, recurses := true, named := ["vesper/code.threes", "vesper/code.sevens", "vesper/code.twelves", "vesper/code.fifteens", "vesper/code.rows", "vesper/code.lengths", "internal/bytealg.MaxLen", "unicode/utf8.first", "unicode/utf8.acceptRanges"], apart := false, laid := [("unicode/utf8.acceptRanges", laid_unicode_utf8_acceptRanges), ("vesper/code.rows", laid_vesper_code_rows), ("vesper/code.threes", laid_vesper_code_threes), ("vesper/code.sevens", laid_vesper_code_sevens), ("vesper/code.twelves", laid_vesper_code_twelves), ("vesper/code.fifteens", laid_vesper_code_fifteens), ("vesper/code.lengths", laid_vesper_code_lengths), ("unicode/utf8.first", laid_unicode_utf8_first)] }
def AsmBranchSaid : Prop := asmBranchRow.holds Tryd.pinned (OpenSpec.ofChange asmBranchSpec)

/-- ITS FALSE NEIGHBOUR: 'it returns false'. Refute it at one input. -/
def asmBranchWrong : ChangeSpec := { name := "asmBranch", fn := fun _ => fun
  | [d1, d2, d3] => { results := [.lit (.bool false)], args := [d1, d2, d3] }
  | _ => none }
def AsmBranchWrongFalsely : Prop := asmBranchRow.holds Tryd.pinned (OpenSpec.ofChange asmBranchWrong)

/-- 'vesperlaw14.AsmTwo': WHATEVER THE INPUT: true; the input reads as it did. -/
def asmTwoSpec : ChangeSpec := { name := "asmTwo", fn := fun _ => fun
  | [d1, d2, d3] => { results := [.lit (.bool true)], args := [d1, d2, d3] }
  | _ => none }
def asmTwoRow : OpenClaim := { program := "ytpjdkdphklgfjaadoor", sum := "1f92cb228d4d3d4a25d3516ab1eaaa0ac16dbecdc6abe20089d2cd0add29521a", func := "vesper/vesperlaw14.AsmTwo", spec := "asmTwo", inPlace := ["internal/bytealg.IndexByteString", "internal/bytealg.IndexString", "internal/bytealg.abigen_runtime_cmpstring"], unfollowed := true, recurses := true, named := ["vesper/code.threes", "vesper/code.sevens", "vesper/code.twelves", "vesper/code.fifteens", "vesper/code.rows", "vesper/code.lengths", "internal/bytealg.MaxLen", "unicode/utf8.first", "unicode/utf8.acceptRanges"], apart := false, laid := [("unicode/utf8.acceptRanges", laid_unicode_utf8_acceptRanges), ("vesper/code.rows", laid_vesper_code_rows), ("vesper/code.threes", laid_vesper_code_threes), ("vesper/code.sevens", laid_vesper_code_sevens), ("vesper/code.twelves", laid_vesper_code_twelves), ("vesper/code.fifteens", laid_vesper_code_fifteens), ("vesper/code.lengths", laid_vesper_code_lengths), ("unicode/utf8.first", laid_unicode_utf8_first)] }
def AsmTwoSaid : Prop := asmTwoRow.holds Tryd.pinned (OpenSpec.ofChange asmTwoSpec)

/-- ITS FALSE NEIGHBOUR: 'it returns false'. Refute it at one input. -/
def asmTwoWrong : ChangeSpec := { name := "asmTwo", fn := fun _ => fun
  | [d1, d2, d3] => { results := [.lit (.bool false)], args := [d1, d2, d3] }
  | _ => none }
def AsmTwoWrongFalsely : Prop := asmTwoRow.holds Tryd.pinned (OpenSpec.ofChange asmTwoWrong)

/-- 'vesperlaw14.AsmLays': WHATEVER THE INPUT: true; the input reads as it did. -/
def asmLaysSpec : ChangeSpec := { name := "asmLays", fn := fun _ => fun
  | [d] => { results := [.lit (.bool true)], args := [d] }
  | _ => none }
def asmLaysRow : OpenClaim := { program := "ytpjdkdphklgfjaadoor", sum := "1f92cb228d4d3d4a25d3516ab1eaaa0ac16dbecdc6abe20089d2cd0add29521a", func := "vesper/vesperlaw14.AsmLays", spec := "asmLays", inPlace := ["internal/bytealg.IndexByteString", "internal/bytealg.IndexString", "internal/bytealg.abigen_runtime_cmpstring"], unfollowed := true, recurses := true, named := ["vesper/code.threes", "vesper/code.sevens", "vesper/code.twelves", "vesper/code.fifteens", "vesper/code.rows", "vesper/code.lengths", "internal/bytealg.MaxLen", "unicode/utf8.first", "unicode/utf8.acceptRanges"], apart := false, laid := [("unicode/utf8.acceptRanges", laid_unicode_utf8_acceptRanges), ("vesper/code.rows", laid_vesper_code_rows), ("vesper/code.threes", laid_vesper_code_threes), ("vesper/code.sevens", laid_vesper_code_sevens), ("vesper/code.twelves", laid_vesper_code_twelves), ("vesper/code.fifteens", laid_vesper_code_fifteens), ("vesper/code.lengths", laid_vesper_code_lengths), ("unicode/utf8.first", laid_unicode_utf8_first)] }
def AsmLaysSaid : Prop := asmLaysRow.holds Tryd.pinned (OpenSpec.ofChange asmLaysSpec)

/-- ITS FALSE NEIGHBOUR: 'it returns false'. Refute it at one input. -/
def asmLaysWrong : ChangeSpec := { name := "asmLays", fn := fun _ => fun
  | [d] => { results := [.lit (.bool false)], args := [d] }
  | _ => none }
def AsmLaysWrongFalsely : Prop := asmLaysRow.holds Tryd.pinned (OpenSpec.ofChange asmLaysWrong)

/-- 'vesperlaw15.PlainThere': WHATEVER THE INPUT: true; the input reads as it did. -/
def plainThereSpec : ChangeSpec := { name := "plainThere", fn := fun _ => fun
  | [d] => { results := [.lit (.bool true)], args := [d] }
  | _ => none }
def plainThereRow : OpenClaim := { program := "ytpjdkdphklgfjaadoor", sum := "1f92cb228d4d3d4a25d3516ab1eaaa0ac16dbecdc6abe20089d2cd0add29521a", func := "vesper/vesperlaw15.PlainThere", spec := "plainThere", inPlace := ["internal/bytealg.IndexByteString", "internal/bytealg.IndexString", "internal/bytealg.abigen_runtime_cmpstring"], unfollowed := true, recurses := true, named := ["vesper/code.threes", "vesper/code.sevens", "vesper/code.twelves", "vesper/code.fifteens", "vesper/code.rows", "vesper/code.lengths", "internal/bytealg.MaxLen", "unicode/utf8.first", "unicode/utf8.acceptRanges"], apart := false, laid := [("unicode/utf8.acceptRanges", laid_unicode_utf8_acceptRanges), ("vesper/code.rows", laid_vesper_code_rows), ("vesper/code.threes", laid_vesper_code_threes), ("vesper/code.sevens", laid_vesper_code_sevens), ("vesper/code.twelves", laid_vesper_code_twelves), ("vesper/code.fifteens", laid_vesper_code_fifteens), ("vesper/code.lengths", laid_vesper_code_lengths), ("unicode/utf8.first", laid_unicode_utf8_first)] }
def PlainThereSaid : Prop := plainThereRow.holds Tryd.pinned (OpenSpec.ofChange plainThereSpec)

/-- ITS FALSE NEIGHBOUR: 'it returns false'. Refute it at one input. -/
def plainThereWrong : ChangeSpec := { name := "plainThere", fn := fun _ => fun
  | [d] => { results := [.lit (.bool false)], args := [d] }
  | _ => none }
def PlainThereWrongFalsely : Prop := plainThereRow.holds Tryd.pinned (OpenSpec.ofChange plainThereWrong)

/- THE SECOND FORM. 'bulk': how many values and letters a reading holds, each counted each time it is reached (what is shared counts as often as it is met; a slice's spare places count too). A statement '..UptoSaid' is the law's where the arguments, and the package variables that the reading takes, are together of bulk at most 1048576: NARROWER than '..Said'. Prove '..Said' where nothing that the law and all that it calls make is longer than what came in: it says more and counts as full. Else prove '..UptoSaid'. A law counts once. -/
mutual
def uptoBulk {H : Type} : DataW H → Nat
  | .lit (.string bytes) => bytes.length + 1
  | .lit _ => 1
  | .nil => 1
  | .ptr d => uptoBulk d + 1
  | .slice elems spare => uptoBulkAll elems + uptoBulkAll spare + 1
  | .agg parts => uptoBulkAll parts + 1
  | .iface _ d => uptoBulk d + 1
  | .map entries => uptoBulkEntries entries + 1
  | .held _ => 1
def uptoBulkAll {H : Type} : List (DataW H) → Nat
  | [] => 0
  | d :: r => uptoBulk d + uptoBulkAll r
def uptoBulkEntries {H : Type} : List (Lit × DataW H) → Nat
  | [] => 0
  | x :: r => uptoBulkEntry x + uptoBulkEntries r
def uptoBulkEntry {H : Type} : Lit × DataW H → Nat
  | (.string bytes, d) => bytes.length + uptoBulk d + 1
  | (_, d) => uptoBulk d + 1
 end
def uptoSmall : (H : Type) → List (DataW H) → Bool := fun _ ds => decide (uptoBulkAll ds ≤ 1048576)
def OpenSpec.upto (s : _root_.Go.ChangeSpec) : _root_.Go.OpenSpec := { _root_.Go.OpenSpec.ofChange s with cond := some uptoSmall }

/-- 'vesperlaw15.PlainSweep', WHERE WHAT IT READS IS OF BULK AT MOST 1048576: true; the input reads as it did. -/
def plainSweepUptoRow : OpenClaim := { program := "ytpjdkdphklgfjaadoor", sum := "1f92cb228d4d3d4a25d3516ab1eaaa0ac16dbecdc6abe20089d2cd0add29521a", func := "vesper/vesperlaw15.PlainSweep", spec := "plainSweep", inPlace := ["internal/bytealg.IndexByteString", "internal/bytealg.IndexString", "internal/bytealg.abigen_runtime_cmpstring"], unfollowed := true, recurses := true, named := ["vesper/code.lengths", "vesper/code.threes", "vesper/code.sevens", "vesper/code.twelves", "vesper/code.fifteens", "vesper/code.rows", "internal/bytealg.MaxLen", "unicode/utf8.first", "unicode/utf8.acceptRanges"], apart := false, laid := [("unicode/utf8.acceptRanges", laid_unicode_utf8_acceptRanges), ("vesper/code.rows", laid_vesper_code_rows), ("vesper/code.threes", laid_vesper_code_threes), ("vesper/code.sevens", laid_vesper_code_sevens), ("vesper/code.twelves", laid_vesper_code_twelves), ("vesper/code.fifteens", laid_vesper_code_fifteens), ("vesper/code.lengths", laid_vesper_code_lengths), ("unicode/utf8.first", laid_unicode_utf8_first)], narrowed := true }
def PlainSweepUptoSaid : Prop := plainSweepUptoRow.holds Tryd.pinned (OpenSpec.upto plainSweepSpec)

/-- 'vesperlaw14.AsmBranch', WHERE WHAT IT READS IS OF BULK AT MOST 1048576: true; the input reads as it did. -/
def asmBranchUptoRow : OpenClaim := { program := "ytpjdkdphklgfjaadoor", sum := "1f92cb228d4d3d4a25d3516ab1eaaa0ac16dbecdc6abe20089d2cd0add29521a", func := "vesper/vesperlaw14.AsmBranch", spec := "asmBranch", inPlace := ["internal/bytealg.IndexByteString", "internal/bytealg.IndexString", "internal/bytealg.abigen_runtime_cmpstring"], unfollowed := true, recurses := true, named := ["vesper/code.threes", "vesper/code.sevens", "vesper/code.twelves", "vesper/code.fifteens", "vesper/code.rows", "vesper/code.lengths", "internal/bytealg.MaxLen", "unicode/utf8.first", "unicode/utf8.acceptRanges"], apart := false, laid := [("unicode/utf8.acceptRanges", laid_unicode_utf8_acceptRanges), ("vesper/code.rows", laid_vesper_code_rows), ("vesper/code.threes", laid_vesper_code_threes), ("vesper/code.sevens", laid_vesper_code_sevens), ("vesper/code.twelves", laid_vesper_code_twelves), ("vesper/code.fifteens", laid_vesper_code_fifteens), ("vesper/code.lengths", laid_vesper_code_lengths), ("unicode/utf8.first", laid_unicode_utf8_first)], narrowed := true }
def AsmBranchUptoSaid : Prop := asmBranchUptoRow.holds Tryd.pinned (OpenSpec.upto asmBranchSpec)

/-- 'vesperlaw14.AsmTwo', WHERE WHAT IT READS IS OF BULK AT MOST 1048576: true; the input reads as it did. -/
def asmTwoUptoRow : OpenClaim := { program := "ytpjdkdphklgfjaadoor", sum := "1f92cb228d4d3d4a25d3516ab1eaaa0ac16dbecdc6abe20089d2cd0add29521a", func := "vesper/vesperlaw14.AsmTwo", spec := "asmTwo", inPlace := ["internal/bytealg.IndexByteString", "internal/bytealg.IndexString", "internal/bytealg.abigen_runtime_cmpstring"], unfollowed := true, recurses := true, named := ["vesper/code.threes", "vesper/code.sevens", "vesper/code.twelves", "vesper/code.fifteens", "vesper/code.rows", "vesper/code.lengths", "internal/bytealg.MaxLen", "unicode/utf8.first", "unicode/utf8.acceptRanges"], apart := false, laid := [("unicode/utf8.acceptRanges", laid_unicode_utf8_acceptRanges), ("vesper/code.rows", laid_vesper_code_rows), ("vesper/code.threes", laid_vesper_code_threes), ("vesper/code.sevens", laid_vesper_code_sevens), ("vesper/code.twelves", laid_vesper_code_twelves), ("vesper/code.fifteens", laid_vesper_code_fifteens), ("vesper/code.lengths", laid_vesper_code_lengths), ("unicode/utf8.first", laid_unicode_utf8_first)], narrowed := true }
def AsmTwoUptoSaid : Prop := asmTwoUptoRow.holds Tryd.pinned (OpenSpec.upto asmTwoSpec)

/-- 'vesperlaw14.AsmLays', WHERE WHAT IT READS IS OF BULK AT MOST 1048576: true; the input reads as it did. -/
def asmLaysUptoRow : OpenClaim := { program := "ytpjdkdphklgfjaadoor", sum := "1f92cb228d4d3d4a25d3516ab1eaaa0ac16dbecdc6abe20089d2cd0add29521a", func := "vesper/vesperlaw14.AsmLays", spec := "asmLays", inPlace := ["internal/bytealg.IndexByteString", "internal/bytealg.IndexString", "internal/bytealg.abigen_runtime_cmpstring"], unfollowed := true, recurses := true, named := ["vesper/code.threes", "vesper/code.sevens", "vesper/code.twelves", "vesper/code.fifteens", "vesper/code.rows", "vesper/code.lengths", "internal/bytealg.MaxLen", "unicode/utf8.first", "unicode/utf8.acceptRanges"], apart := false, laid := [("unicode/utf8.acceptRanges", laid_unicode_utf8_acceptRanges), ("vesper/code.rows", laid_vesper_code_rows), ("vesper/code.threes", laid_vesper_code_threes), ("vesper/code.sevens", laid_vesper_code_sevens), ("vesper/code.twelves", laid_vesper_code_twelves), ("vesper/code.fifteens", laid_vesper_code_fifteens), ("vesper/code.lengths", laid_vesper_code_lengths), ("unicode/utf8.first", laid_unicode_utf8_first)], narrowed := true }
def AsmLaysUptoSaid : Prop := asmLaysUptoRow.holds Tryd.pinned (OpenSpec.upto asmLaysSpec)

/-- 'vesperlaw15.PlainThere', WHERE WHAT IT READS IS OF BULK AT MOST 1048576: true; the input reads as it did. -/
def plainThereUptoRow : OpenClaim := { program := "ytpjdkdphklgfjaadoor", sum := "1f92cb228d4d3d4a25d3516ab1eaaa0ac16dbecdc6abe20089d2cd0add29521a", func := "vesper/vesperlaw15.PlainThere", spec := "plainThere", inPlace := ["internal/bytealg.IndexByteString", "internal/bytealg.IndexString", "internal/bytealg.abigen_runtime_cmpstring"], unfollowed := true, recurses := true, named := ["vesper/code.threes", "vesper/code.sevens", "vesper/code.twelves", "vesper/code.fifteens", "vesper/code.rows", "vesper/code.lengths", "internal/bytealg.MaxLen", "unicode/utf8.first", "unicode/utf8.acceptRanges"], apart := false, laid := [("unicode/utf8.acceptRanges", laid_unicode_utf8_acceptRanges), ("vesper/code.rows", laid_vesper_code_rows), ("vesper/code.threes", laid_vesper_code_threes), ("vesper/code.sevens", laid_vesper_code_sevens), ("vesper/code.twelves", laid_vesper_code_twelves), ("vesper/code.fifteens", laid_vesper_code_fifteens), ("vesper/code.lengths", laid_vesper_code_lengths), ("unicode/utf8.first", laid_unicode_utf8_first)], narrowed := true }
def PlainThereUptoSaid : Prop := plainThereUptoRow.holds Tryd.pinned (OpenSpec.upto plainThereSpec)

end Rows
end Go.Proofs.YtpjdkdphklgfjaaDoor
