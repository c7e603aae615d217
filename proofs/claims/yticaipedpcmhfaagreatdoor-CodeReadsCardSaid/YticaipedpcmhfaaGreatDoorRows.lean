/-
  NARROWER THAN 'FOR EVERY INPUT', by the rows' own cells (each row's printed sentence says how): CodeChecks: laid · CodeReads: laid · CodeSame: laid · CodeBack: laid · CodeByte: laid.
  DERIVED. THE GIVEN ROWS OF THIS SEAT. 5 by the template 'for every input the law returns true; each argument reads behind the call as it read before'; 0 by the template 'total and deterministic' (their statements: YticaipedpcmhfaaGreatDoorTotals.lean).
  GIVEN WITH THE SEED: the statements are not yours to turn. If you find one false, say at which input.
  Laid BY PROGRAM, IN A SANDBOX (cutbox-rows.mjs): the forced cells as the released guide's own fill.sh prints them over the translation b93b7b031937c51f… (all of the seat's roots in one cut). By AI agents, Wed Nov 11 2026. No macro, syntax, notation, axiom, sorry.
-/
import Derived.Test.YticaipedpcmhfaaGreatDoorChecked
import GoSem.Claim
import GoSem.ClaimJoined
import GoSem.ClaimMapViews
import Derived.JoinedTies
import Derived.KernelRfl
namespace Go.Proofs.YticaipedpcmhfaaGreatDoor
/- THE CELL 'sum', in the pinned program and in every row, IS THE sha256 OF THE DUMP (.gsa) THAT YticaipedpcmhfaaGreatDoorProg.lean LOADS. Nothing in Lean hashes anything: it is a label: what it is worth is what the hold of that sum in a sandbox is worth. -/
noncomputable def Tryz.pinned : Pinned := { name := "yticaipedpcmhfaagreatdoor", sum := "b93b7b031937c51f56d9a0cad43a77a467c4e9bb94bc34a061fbe243ff30af3d", checked := Tryz.checked }
namespace Rows
def none {H : Type} : Left H := { results := [], args := [] }

/- WHAT THE LISTED PACKAGE-LEVEL VARIABLES READ AS WHEN THE CALL BEGINS. Each datum BY PROGRAM (the guide's laid-datum.mjs) off the statement by which the dump's own 'gosem.cut.vars' lays the variable. In a bare row this is a premise. The card (YticaipedpcmhfaaGreatDoorCards.lean) ties it to the program's text. -/
def laid_math_bits_deBruijn32tab {H : Type} : DataW H := .agg [.lit (.int .u8 0), .lit (.int .u8 1), .lit (.int .u8 28), .lit (.int .u8 2), .lit (.int .u8 29), .lit (.int .u8 14), .lit (.int .u8 24), .lit (.int .u8 3), .lit (.int .u8 30), .lit (.int .u8 22), .lit (.int .u8 20), .lit (.int .u8 15), .lit (.int .u8 25), .lit (.int .u8 17), .lit (.int .u8 4), .lit (.int .u8 8), .lit (.int .u8 31), .lit (.int .u8 27), .lit (.int .u8 13), .lit (.int .u8 23), .lit (.int .u8 21), .lit (.int .u8 19), .lit (.int .u8 16), .lit (.int .u8 7), .lit (.int .u8 26), .lit (.int .u8 12), .lit (.int .u8 18), .lit (.int .u8 6), .lit (.int .u8 11), .lit (.int .u8 5), .lit (.int .u8 10), .lit (.int .u8 9)]
def laid_math_bits_deBruijn64tab {H : Type} : DataW H := .agg [.lit (.int .u8 0), .lit (.int .u8 1), .lit (.int .u8 56), .lit (.int .u8 2), .lit (.int .u8 57), .lit (.int .u8 49), .lit (.int .u8 28), .lit (.int .u8 3), .lit (.int .u8 61), .lit (.int .u8 58), .lit (.int .u8 42), .lit (.int .u8 50), .lit (.int .u8 38), .lit (.int .u8 29), .lit (.int .u8 17), .lit (.int .u8 4), .lit (.int .u8 62), .lit (.int .u8 47), .lit (.int .u8 59), .lit (.int .u8 36), .lit (.int .u8 45), .lit (.int .u8 43), .lit (.int .u8 51), .lit (.int .u8 22), .lit (.int .u8 53), .lit (.int .u8 39), .lit (.int .u8 33), .lit (.int .u8 30), .lit (.int .u8 24), .lit (.int .u8 18), .lit (.int .u8 12), .lit (.int .u8 5), .lit (.int .u8 63), .lit (.int .u8 55), .lit (.int .u8 48), .lit (.int .u8 27), .lit (.int .u8 60), .lit (.int .u8 41), .lit (.int .u8 37), .lit (.int .u8 16), .lit (.int .u8 46), .lit (.int .u8 35), .lit (.int .u8 44), .lit (.int .u8 21), .lit (.int .u8 52), .lit (.int .u8 32), .lit (.int .u8 23), .lit (.int .u8 11), .lit (.int .u8 54), .lit (.int .u8 26), .lit (.int .u8 40), .lit (.int .u8 15), .lit (.int .u8 34), .lit (.int .u8 20), .lit (.int .u8 31), .lit (.int .u8 10), .lit (.int .u8 25), .lit (.int .u8 14), .lit (.int .u8 19), .lit (.int .u8 9), .lit (.int .u8 13), .lit (.int .u8 8), .lit (.int .u8 7), .lit (.int .u8 6)]
def laid_dapple_words_bounds {H : Type} : DataW H := .agg [.agg [.lit (.int .i64 0), .lit (.int .i64 0)], .agg [.lit (.int .i64 0), .lit (.int .i64 0)], .agg [.lit (.int .i64 0), .lit (.int .i64 0)], .agg [.lit (.int .i64 0), .lit (.int .i64 0)], .agg [.lit (.int .i64 0), .lit (.int .i64 0)], .agg [.lit (.int .i64 (-576460752303423488)), .lit (.int .i64 576460752303423487)], .agg [.lit (.int .i64 0), .lit (.int .i64 2147483647)], .agg [.lit (.int .i64 1), .lit (.int .i64 22)], .agg [.lit (.int .i64 0), .lit (.int .i64 2147483647)]]
def laid_internal_strconv_uint64pow10 {H : Type} : DataW H := .agg [.lit (.int .u64 1), .lit (.int .u64 10), .lit (.int .u64 100), .lit (.int .u64 1000), .lit (.int .u64 10000), .lit (.int .u64 100000), .lit (.int .u64 1000000), .lit (.int .u64 10000000), .lit (.int .u64 100000000), .lit (.int .u64 1000000000), .lit (.int .u64 10000000000), .lit (.int .u64 100000000000), .lit (.int .u64 1000000000000), .lit (.int .u64 10000000000000), .lit (.int .u64 100000000000000), .lit (.int .u64 1000000000000000), .lit (.int .u64 10000000000000000), .lit (.int .u64 100000000000000000), .lit (.int .u64 1000000000000000000), .lit (.int .u64 10000000000000000000)]
def laid_strconv_ErrRange {H : Type} : DataW H := .iface "*errors.errorString" (.ptr (.agg [.lit (.string [118, 97, 108, 117, 101, 32, 111, 117, 116, 32, 111, 102, 32, 114, 97, 110, 103, 101])]))
def laid_strconv_ErrSyntax {H : Type} : DataW H := .iface "*errors.errorString" (.ptr (.agg [.lit (.string [105, 110, 118, 97, 108, 105, 100, 32, 115, 121, 110, 116, 97, 120])]))
def laid_dapple_code_takes {H : Type} : DataW H := .agg [.lit (.int .i64 0), .lit (.int .i64 2), .lit (.int .i64 1), .lit (.int .i64 1), .lit (.int .i64 2), .lit (.int .i64 2), .lit (.int .i64 1), .lit (.int .i64 1), .lit (.int .i64 2), .lit (.int .i64 3), .lit (.int .i64 2), .lit (.int .i64 2), .lit (.int .i64 1), .lit (.int .i64 1), .lit (.int .i64 1), .lit (.int .i64 2), .lit (.int .i64 2), .lit (.int .i64 2), .lit (.int .i64 2), .lit (.int .i64 2), .lit (.int .i64 2), .lit (.int .i64 1), .lit (.int .i64 1)]
def laid_dapple_code_called {H : Type} : DataW H := .agg [.lit (.string []), .lit (.string [99, 111, 110, 115, 116, 32]), .lit (.string [118, 97, 114, 32]), .lit (.string [115, 101, 116, 118, 97, 114, 32]), .lit (.string [103, 108, 111, 98, 97, 108, 32]), .lit (.string [115, 101, 116, 103, 108, 111, 98, 97, 108, 32]), .lit (.string [99, 108, 111, 115, 117, 114, 101, 32]), .lit (.string [112, 111, 112]), .lit (.string [106, 117, 109, 112, 32]), .lit (.string [98, 114, 97, 110, 99, 104, 32]), .lit (.string [99, 97, 108, 108, 32]), .lit (.string [116, 97, 105, 108, 32]), .lit (.string [114, 101, 116, 117, 114, 110]), .lit (.string [112, 114, 105, 109, 32]), .lit (.string [115, 112, 97, 119, 110]), .lit (.string [106, 111, 105, 110]), .lit (.string [108, 111, 99, 107]), .lit (.string [117, 110, 108, 111, 99, 107]), .lit (.string [121, 105, 101, 108, 100])]
def laid_dapple_code_tags {H : Type} : DataW H := .agg [.lit (.string []), .lit (.string [110, 105, 108]), .lit (.string [102, 97, 108, 115, 101]), .lit (.string [116, 114, 117, 101]), .lit (.string [110, 111, 110, 101]), .lit (.string [105, 110, 116, 32]), .lit (.string [115, 121, 109, 98, 111, 108, 32]), .lit (.string [112, 114, 105, 109, 32])]

/-- 'dapplelaw08.CodeChecks': WHATEVER THE INPUT: true; the input reads as it did. -/
def codeChecksSpec : ChangeSpec := { name := "codeChecks", fn := fun _ => fun
  | [d] => { results := [.lit (.bool true)], args := [d] }
  | _ => none }
def codeChecksRow : OpenClaim := { program := "yticaipedpcmhfaagreatdoor", sum := "b93b7b031937c51f56d9a0cad43a77a467c4e9bb94bc34a061fbe243ff30af3d", func := "dapple/dapplelaw08.CodeChecks", spec := "codeChecks", inPlace := ["internal/abi.NoEscape", "internal/bytealg.IndexByteString", "internal/bytealg.IndexString"], unfollowed := true, recurses := true, named := ["dapple/words.bounds", "dapple/code.takes", "dapple/code.tags", "internal/strconv.uint64pow10", "math/bits.deBruijn32tab", "math/bits.deBruijn64tab", "dapple/code.called", "internal/bytealg.MaxLen", "strconv.ErrSyntax", "strconv.ErrRange"], apart := false, laid := [("math/bits.deBruijn32tab", laid_math_bits_deBruijn32tab), ("math/bits.deBruijn64tab", laid_math_bits_deBruijn64tab), ("dapple/words.bounds", laid_dapple_words_bounds), ("internal/strconv.uint64pow10", laid_internal_strconv_uint64pow10), ("strconv.ErrRange", laid_strconv_ErrRange), ("strconv.ErrSyntax", laid_strconv_ErrSyntax), ("dapple/code.takes", laid_dapple_code_takes), ("dapple/code.called", laid_dapple_code_called), ("dapple/code.tags", laid_dapple_code_tags)] }
def CodeChecksSaid : Prop := codeChecksRow.holds Tryz.pinned (OpenSpec.ofChange codeChecksSpec)

/-- ITS FALSE NEIGHBOUR: 'it returns false'. Refute it at one input. -/
def codeChecksWrong : ChangeSpec := { name := "codeChecks", fn := fun _ => fun
  | [d] => { results := [.lit (.bool false)], args := [d] }
  | _ => none }
def CodeChecksWrongFalsely : Prop := codeChecksRow.holds Tryz.pinned (OpenSpec.ofChange codeChecksWrong)

/-- 'dapplelaw08.CodeReads': WHATEVER THE INPUT: true; the input reads as it did. -/
def codeReadsSpec : ChangeSpec := { name := "codeReads", fn := fun _ => fun
  | [d] => { results := [.lit (.bool true)], args := [d] }
  | _ => none }
def codeReadsRow : OpenClaim := { program := "yticaipedpcmhfaagreatdoor", sum := "b93b7b031937c51f56d9a0cad43a77a467c4e9bb94bc34a061fbe243ff30af3d", func := "dapple/dapplelaw08.CodeReads", spec := "codeReads", inPlace := ["internal/abi.NoEscape", "internal/bytealg.IndexByteString", "internal/bytealg.IndexString"], unfollowed := true, recurses := true, named := ["dapple/words.bounds", "dapple/code.takes", "dapple/code.tags", "internal/strconv.uint64pow10", "math/bits.deBruijn32tab", "math/bits.deBruijn64tab", "dapple/code.called", "internal/bytealg.MaxLen", "strconv.ErrSyntax", "strconv.ErrRange"], apart := false, laid := [("math/bits.deBruijn32tab", laid_math_bits_deBruijn32tab), ("math/bits.deBruijn64tab", laid_math_bits_deBruijn64tab), ("dapple/words.bounds", laid_dapple_words_bounds), ("internal/strconv.uint64pow10", laid_internal_strconv_uint64pow10), ("strconv.ErrRange", laid_strconv_ErrRange), ("strconv.ErrSyntax", laid_strconv_ErrSyntax), ("dapple/code.takes", laid_dapple_code_takes), ("dapple/code.called", laid_dapple_code_called), ("dapple/code.tags", laid_dapple_code_tags)] }
def CodeReadsSaid : Prop := codeReadsRow.holds Tryz.pinned (OpenSpec.ofChange codeReadsSpec)

/-- ITS FALSE NEIGHBOUR: 'it returns false'. Refute it at one input. -/
def codeReadsWrong : ChangeSpec := { name := "codeReads", fn := fun _ => fun
  | [d] => { results := [.lit (.bool false)], args := [d] }
  | _ => none }
def CodeReadsWrongFalsely : Prop := codeReadsRow.holds Tryz.pinned (OpenSpec.ofChange codeReadsWrong)

/-- 'dapplelaw08.CodeSame': WHATEVER THE INPUT: true; the input reads as it did. -/
def codeSameSpec : ChangeSpec := { name := "codeSame", fn := fun _ => fun
  | [d1, d2] => { results := [.lit (.bool true)], args := [d1, d2] }
  | _ => none }
def codeSameRow : OpenClaim := { program := "yticaipedpcmhfaagreatdoor", sum := "b93b7b031937c51f56d9a0cad43a77a467c4e9bb94bc34a061fbe243ff30af3d", func := "dapple/dapplelaw08.CodeSame", spec := "codeSame", inPlace := ["internal/abi.NoEscape", "internal/bytealg.IndexByteString", "internal/bytealg.IndexString"], unfollowed := true, recurses := true, named := ["dapple/words.bounds", "dapple/code.takes", "dapple/code.tags", "internal/strconv.uint64pow10", "math/bits.deBruijn32tab", "math/bits.deBruijn64tab", "dapple/code.called", "internal/bytealg.MaxLen", "strconv.ErrSyntax", "strconv.ErrRange"], apart := false, laid := [("math/bits.deBruijn32tab", laid_math_bits_deBruijn32tab), ("math/bits.deBruijn64tab", laid_math_bits_deBruijn64tab), ("dapple/words.bounds", laid_dapple_words_bounds), ("internal/strconv.uint64pow10", laid_internal_strconv_uint64pow10), ("strconv.ErrRange", laid_strconv_ErrRange), ("strconv.ErrSyntax", laid_strconv_ErrSyntax), ("dapple/code.takes", laid_dapple_code_takes), ("dapple/code.called", laid_dapple_code_called), ("dapple/code.tags", laid_dapple_code_tags)] }
def CodeSameSaid : Prop := codeSameRow.holds Tryz.pinned (OpenSpec.ofChange codeSameSpec)

/-- ITS FALSE NEIGHBOUR: 'it returns false'. Refute it at one input. -/
def codeSameWrong : ChangeSpec := { name := "codeSame", fn := fun _ => fun
  | [d1, d2] => { results := [.lit (.bool false)], args := [d1, d2] }
  | _ => none }
def CodeSameWrongFalsely : Prop := codeSameRow.holds Tryz.pinned (OpenSpec.ofChange codeSameWrong)

/-- 'dapplelaw08.CodeBack': WHATEVER THE INPUT: true; the input reads as it did. -/
def codeBackSpec : ChangeSpec := { name := "codeBack", fn := fun _ => fun
  | [d1, d2] => { results := [.lit (.bool true)], args := [d1, d2] }
  | _ => none }
def codeBackRow : OpenClaim := { program := "yticaipedpcmhfaagreatdoor", sum := "b93b7b031937c51f56d9a0cad43a77a467c4e9bb94bc34a061fbe243ff30af3d", func := "dapple/dapplelaw08.CodeBack", spec := "codeBack", inPlace := ["internal/abi.NoEscape", "internal/bytealg.IndexByteString", "internal/bytealg.IndexString"], unfollowed := true, recurses := true, named := ["dapple/words.bounds", "dapple/code.takes", "dapple/code.tags", "internal/strconv.uint64pow10", "math/bits.deBruijn32tab", "math/bits.deBruijn64tab", "dapple/code.called", "internal/bytealg.MaxLen", "strconv.ErrSyntax", "strconv.ErrRange"], apart := false, laid := [("math/bits.deBruijn32tab", laid_math_bits_deBruijn32tab), ("math/bits.deBruijn64tab", laid_math_bits_deBruijn64tab), ("dapple/words.bounds", laid_dapple_words_bounds), ("internal/strconv.uint64pow10", laid_internal_strconv_uint64pow10), ("strconv.ErrRange", laid_strconv_ErrRange), ("strconv.ErrSyntax", laid_strconv_ErrSyntax), ("dapple/code.takes", laid_dapple_code_takes), ("dapple/code.called", laid_dapple_code_called), ("dapple/code.tags", laid_dapple_code_tags)] }
def CodeBackSaid : Prop := codeBackRow.holds Tryz.pinned (OpenSpec.ofChange codeBackSpec)

/-- ITS FALSE NEIGHBOUR: 'it returns false'. Refute it at one input. -/
def codeBackWrong : ChangeSpec := { name := "codeBack", fn := fun _ => fun
  | [d1, d2] => { results := [.lit (.bool false)], args := [d1, d2] }
  | _ => none }
def CodeBackWrongFalsely : Prop := codeBackRow.holds Tryz.pinned (OpenSpec.ofChange codeBackWrong)

/-- 'dapplelaw08.CodeByte': WHATEVER THE INPUT: true; the input reads as it did. -/
def codeByteSpec : ChangeSpec := { name := "codeByte", fn := fun _ => fun
  | [d1, d2, d3] => { results := [.lit (.bool true)], args := [d1, d2, d3] }
  | _ => none }
def codeByteRow : OpenClaim := { program := "yticaipedpcmhfaagreatdoor", sum := "b93b7b031937c51f56d9a0cad43a77a467c4e9bb94bc34a061fbe243ff30af3d", func := "dapple/dapplelaw08.CodeByte", spec := "codeByte", inPlace := ["internal/abi.NoEscape", "internal/bytealg.IndexByteString", "internal/bytealg.IndexString"], unfollowed := true, recurses := true, named := ["dapple/words.bounds", "dapple/code.takes", "dapple/code.tags", "internal/strconv.uint64pow10", "math/bits.deBruijn32tab", "math/bits.deBruijn64tab", "dapple/code.called", "internal/bytealg.MaxLen", "strconv.ErrSyntax", "strconv.ErrRange"], apart := false, laid := [("math/bits.deBruijn32tab", laid_math_bits_deBruijn32tab), ("math/bits.deBruijn64tab", laid_math_bits_deBruijn64tab), ("dapple/words.bounds", laid_dapple_words_bounds), ("internal/strconv.uint64pow10", laid_internal_strconv_uint64pow10), ("strconv.ErrRange", laid_strconv_ErrRange), ("strconv.ErrSyntax", laid_strconv_ErrSyntax), ("dapple/code.takes", laid_dapple_code_takes), ("dapple/code.called", laid_dapple_code_called), ("dapple/code.tags", laid_dapple_code_tags)] }
def CodeByteSaid : Prop := codeByteRow.holds Tryz.pinned (OpenSpec.ofChange codeByteSpec)

/-- ITS FALSE NEIGHBOUR: 'it returns false'. Refute it at one input. -/
def codeByteWrong : ChangeSpec := { name := "codeByte", fn := fun _ => fun
  | [d1, d2, d3] => { results := [.lit (.bool false)], args := [d1, d2, d3] }
  | _ => none }
def CodeByteWrongFalsely : Prop := codeByteRow.holds Tryz.pinned (OpenSpec.ofChange codeByteWrong)

/- THE SECOND FORM. 'bulk': how many values and letters a reading holds, each counted each time it is reached (what is shared counts as often as it is met; a slice's spare places count too). A statement '..UptoSaid' is the law's where the arguments, and the package variables that the reading takes, are together of bulk at most 1048576: NARROWER than '..Said'. Prove '..Said' where nothing that the law and all that it calls make is longer than what came in: it says more and counts as full. Else prove '..UptoSaid'. A law counts once. -/
mutual
def uptoBulk {H : Type} : DataW H → Nat
  | .lit (.string bytes) => bytes.length + 1
  | .lit _ => 1
  | .nil => 1
  | .ptr d => uptoBulk d + 1
  | .slice elems spare => uptoBulkAll elems + uptoBulkAll spare + 1
  | .agg parts => uptoBulkAll parts + 1
  | .iface _ d => uptoBulk d + 1
  | .map entries => uptoBulkEntries entries + 1
  | .held _ => 1
def uptoBulkAll {H : Type} : List (DataW H) → Nat
  | [] => 0
  | d :: r => uptoBulk d + uptoBulkAll r
def uptoBulkEntries {H : Type} : List (Lit × DataW H) → Nat
  | [] => 0
  | x :: r => uptoBulkEntry x + uptoBulkEntries r
def uptoBulkEntry {H : Type} : Lit × DataW H → Nat
  | (.string bytes, d) => bytes.length + uptoBulk d + 1
  | (_, d) => uptoBulk d + 1
 end
def uptoSmall : (H : Type) → List (DataW H) → Bool := fun _ ds => decide (uptoBulkAll ds ≤ 1048576)
def OpenSpec.upto (s : _root_.Go.ChangeSpec) : _root_.Go.OpenSpec := { _root_.Go.OpenSpec.ofChange s with cond := some uptoSmall }

/-- 'dapplelaw08.CodeChecks', WHERE WHAT IT READS IS OF BULK AT MOST 1048576: true; the input reads as it did. -/
def codeChecksUptoRow : OpenClaim := { program := "yticaipedpcmhfaagreatdoor", sum := "b93b7b031937c51f56d9a0cad43a77a467c4e9bb94bc34a061fbe243ff30af3d", func := "dapple/dapplelaw08.CodeChecks", spec := "codeChecks", inPlace := ["internal/abi.NoEscape", "internal/bytealg.IndexByteString", "internal/bytealg.IndexString"], unfollowed := true, recurses := true, named := ["dapple/words.bounds", "dapple/code.takes", "dapple/code.tags", "internal/strconv.uint64pow10", "math/bits.deBruijn32tab", "math/bits.deBruijn64tab", "dapple/code.called", "internal/bytealg.MaxLen", "strconv.ErrSyntax", "strconv.ErrRange"], apart := false, laid := [("math/bits.deBruijn32tab", laid_math_bits_deBruijn32tab), ("math/bits.deBruijn64tab", laid_math_bits_deBruijn64tab), ("dapple/words.bounds", laid_dapple_words_bounds), ("internal/strconv.uint64pow10", laid_internal_strconv_uint64pow10), ("strconv.ErrRange", laid_strconv_ErrRange), ("strconv.ErrSyntax", laid_strconv_ErrSyntax), ("dapple/code.takes", laid_dapple_code_takes), ("dapple/code.called", laid_dapple_code_called), ("dapple/code.tags", laid_dapple_code_tags)], narrowed := true }
def CodeChecksUptoSaid : Prop := codeChecksUptoRow.holds Tryz.pinned (OpenSpec.upto codeChecksSpec)

/-- 'dapplelaw08.CodeReads', WHERE WHAT IT READS IS OF BULK AT MOST 1048576: true; the input reads as it did. -/
def codeReadsUptoRow : OpenClaim := { program := "yticaipedpcmhfaagreatdoor", sum := "b93b7b031937c51f56d9a0cad43a77a467c4e9bb94bc34a061fbe243ff30af3d", func := "dapple/dapplelaw08.CodeReads", spec := "codeReads", inPlace := ["internal/abi.NoEscape", "internal/bytealg.IndexByteString", "internal/bytealg.IndexString"], unfollowed := true, recurses := true, named := ["dapple/words.bounds", "dapple/code.takes", "dapple/code.tags", "internal/strconv.uint64pow10", "math/bits.deBruijn32tab", "math/bits.deBruijn64tab", "dapple/code.called", "internal/bytealg.MaxLen", "strconv.ErrSyntax", "strconv.ErrRange"], apart := false, laid := [("math/bits.deBruijn32tab", laid_math_bits_deBruijn32tab), ("math/bits.deBruijn64tab", laid_math_bits_deBruijn64tab), ("dapple/words.bounds", laid_dapple_words_bounds), ("internal/strconv.uint64pow10", laid_internal_strconv_uint64pow10), ("strconv.ErrRange", laid_strconv_ErrRange), ("strconv.ErrSyntax", laid_strconv_ErrSyntax), ("dapple/code.takes", laid_dapple_code_takes), ("dapple/code.called", laid_dapple_code_called), ("dapple/code.tags", laid_dapple_code_tags)], narrowed := true }
def CodeReadsUptoSaid : Prop := codeReadsUptoRow.holds Tryz.pinned (OpenSpec.upto codeReadsSpec)

/-- 'dapplelaw08.CodeSame', WHERE WHAT IT READS IS OF BULK AT MOST 1048576: true; the input reads as it did. -/
def codeSameUptoRow : OpenClaim := { program := "yticaipedpcmhfaagreatdoor", sum := "b93b7b031937c51f56d9a0cad43a77a467c4e9bb94bc34a061fbe243ff30af3d", func := "dapple/dapplelaw08.CodeSame", spec := "codeSame", inPlace := ["internal/abi.NoEscape", "internal/bytealg.IndexByteString", "internal/bytealg.IndexString"], unfollowed := true, recurses := true, named := ["dapple/words.bounds", "dapple/code.takes", "dapple/code.tags", "internal/strconv.uint64pow10", "math/bits.deBruijn32tab", "math/bits.deBruijn64tab", "dapple/code.called", "internal/bytealg.MaxLen", "strconv.ErrSyntax", "strconv.ErrRange"], apart := false, laid := [("math/bits.deBruijn32tab", laid_math_bits_deBruijn32tab), ("math/bits.deBruijn64tab", laid_math_bits_deBruijn64tab), ("dapple/words.bounds", laid_dapple_words_bounds), ("internal/strconv.uint64pow10", laid_internal_strconv_uint64pow10), ("strconv.ErrRange", laid_strconv_ErrRange), ("strconv.ErrSyntax", laid_strconv_ErrSyntax), ("dapple/code.takes", laid_dapple_code_takes), ("dapple/code.called", laid_dapple_code_called), ("dapple/code.tags", laid_dapple_code_tags)], narrowed := true }
def CodeSameUptoSaid : Prop := codeSameUptoRow.holds Tryz.pinned (OpenSpec.upto codeSameSpec)

/-- 'dapplelaw08.CodeBack', WHERE WHAT IT READS IS OF BULK AT MOST 1048576: true; the input reads as it did. -/
def codeBackUptoRow : OpenClaim := { program := "yticaipedpcmhfaagreatdoor", sum := "b93b7b031937c51f56d9a0cad43a77a467c4e9bb94bc34a061fbe243ff30af3d", func := "dapple/dapplelaw08.CodeBack", spec := "codeBack", inPlace := ["internal/abi.NoEscape", "internal/bytealg.IndexByteString", "internal/bytealg.IndexString"], unfollowed := true, recurses := true, named := ["dapple/words.bounds", "dapple/code.takes", "dapple/code.tags", "internal/strconv.uint64pow10", "math/bits.deBruijn32tab", "math/bits.deBruijn64tab", "dapple/code.called", "internal/bytealg.MaxLen", "strconv.ErrSyntax", "strconv.ErrRange"], apart := false, laid := [("math/bits.deBruijn32tab", laid_math_bits_deBruijn32tab), ("math/bits.deBruijn64tab", laid_math_bits_deBruijn64tab), ("dapple/words.bounds", laid_dapple_words_bounds), ("internal/strconv.uint64pow10", laid_internal_strconv_uint64pow10), ("strconv.ErrRange", laid_strconv_ErrRange), ("strconv.ErrSyntax", laid_strconv_ErrSyntax), ("dapple/code.takes", laid_dapple_code_takes), ("dapple/code.called", laid_dapple_code_called), ("dapple/code.tags", laid_dapple_code_tags)], narrowed := true }
def CodeBackUptoSaid : Prop := codeBackUptoRow.holds Tryz.pinned (OpenSpec.upto codeBackSpec)

/-- 'dapplelaw08.CodeByte', WHERE WHAT IT READS IS OF BULK AT MOST 1048576: true; the input reads as it did. -/
def codeByteUptoRow : OpenClaim := { program := "yticaipedpcmhfaagreatdoor", sum := "b93b7b031937c51f56d9a0cad43a77a467c4e9bb94bc34a061fbe243ff30af3d", func := "dapple/dapplelaw08.CodeByte", spec := "codeByte", inPlace := ["internal/abi.NoEscape", "internal/bytealg.IndexByteString", "internal/bytealg.IndexString"], unfollowed := true, recurses := true, named := ["dapple/words.bounds", "dapple/code.takes", "dapple/code.tags", "internal/strconv.uint64pow10", "math/bits.deBruijn32tab", "math/bits.deBruijn64tab", "dapple/code.called", "internal/bytealg.MaxLen", "strconv.ErrSyntax", "strconv.ErrRange"], apart := false, laid := [("math/bits.deBruijn32tab", laid_math_bits_deBruijn32tab), ("math/bits.deBruijn64tab", laid_math_bits_deBruijn64tab), ("dapple/words.bounds", laid_dapple_words_bounds), ("internal/strconv.uint64pow10", laid_internal_strconv_uint64pow10), ("strconv.ErrRange", laid_strconv_ErrRange), ("strconv.ErrSyntax", laid_strconv_ErrSyntax), ("dapple/code.takes", laid_dapple_code_takes), ("dapple/code.called", laid_dapple_code_called), ("dapple/code.tags", laid_dapple_code_tags)], narrowed := true }
def CodeByteUptoSaid : Prop := codeByteUptoRow.holds Tryz.pinned (OpenSpec.upto codeByteSpec)

end Rows
end Go.Proofs.YticaipedpcmhfaaGreatDoor
