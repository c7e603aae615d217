/-
  NARROWER THAN 'FOR EVERY INPUT', by the rows' own cells (each row's printed sentence says how): VmNumbers: laid · VmRenamed: laid · VmLoops: laid · VmHidden: laid.
  DERIVED. THE GIVEN ROWS OF THIS SEAT. 4 by the template 'for every input the law returns true; each argument reads behind the call as it read before'; 0 by the template 'total and deterministic' (their statements: YtkepcdbogeineaaGreatDoorTotals.lean).
  GIVEN WITH THE SEED: the statements are not yours to turn. If you find one false, say at which input.
  Laid BY PROGRAM, IN A SANDBOX (cutbox-rows.mjs): the forced cells as the released guide's own fill.sh prints them over the translation dcce2b541870a170… (all of the seat's roots in one cut). By AI agents, Wed Nov 11 2026. No macro, syntax, notation, axiom, sorry.
-/
import Derived.Test.YtkepcdbogeineaaGreatDoorChecked
import GoSem.Claim
import GoSem.ClaimJoined
import GoSem.ClaimMapViews
import Derived.JoinedTies
import Derived.KernelRfl
namespace Go.Proofs.YtkepcdbogeineaaGreatDoor
/- THE CELL 'sum', in the pinned program and in every row, IS THE sha256 OF THE DUMP (.gsa) THAT YtkepcdbogeineaaGreatDoorProg.lean LOADS. Nothing in Lean hashes anything: it is a label: what it is worth is what the hold of that sum in a sandbox is worth. -/
noncomputable def Tryz.pinned : Pinned := { name := "ytkepcdbogeineaagreatdoor", sum := "dcce2b541870a170c3a5e7d1c31b061510ea2bba2ee808a857c3992b4e9a734e", checked := Tryz.checked }
namespace Rows
def none {H : Type} : Left H := { results := [], args := [] }

/- WHAT THE LISTED PACKAGE-LEVEL VARIABLES READ AS WHEN THE CALL BEGINS. Each datum BY PROGRAM (the guide's laid-datum.mjs) off the statement by which the dump's own 'gosem.cut.vars' lays the variable. In a bare row this is a premise. The card (YtkepcdbogeineaaGreatDoorCards.lean) ties it to the program's text. -/
def laid_dapple_words_bounds {H : Type} : DataW H := .agg [.agg [.lit (.int .i64 0), .lit (.int .i64 0)], .agg [.lit (.int .i64 0), .lit (.int .i64 0)], .agg [.lit (.int .i64 0), .lit (.int .i64 0)], .agg [.lit (.int .i64 0), .lit (.int .i64 0)], .agg [.lit (.int .i64 0), .lit (.int .i64 0)], .agg [.lit (.int .i64 (-576460752303423488)), .lit (.int .i64 576460752303423487)], .agg [.lit (.int .i64 0), .lit (.int .i64 2147483647)], .agg [.lit (.int .i64 1), .lit (.int .i64 22)], .agg [.lit (.int .i64 0), .lit (.int .i64 2147483647)]]
def laid_dapple_code_takes {H : Type} : DataW H := .agg [.lit (.int .i64 0), .lit (.int .i64 2), .lit (.int .i64 1), .lit (.int .i64 1), .lit (.int .i64 2), .lit (.int .i64 2), .lit (.int .i64 1), .lit (.int .i64 1), .lit (.int .i64 2), .lit (.int .i64 3), .lit (.int .i64 2), .lit (.int .i64 2), .lit (.int .i64 1), .lit (.int .i64 1), .lit (.int .i64 1), .lit (.int .i64 2), .lit (.int .i64 2), .lit (.int .i64 2), .lit (.int .i64 2), .lit (.int .i64 2), .lit (.int .i64 2), .lit (.int .i64 1), .lit (.int .i64 1)]

/-- 'dapplelaw18.VmNumbers': WHATEVER THE INPUT: true; the input reads as it did. -/
def vmNumbersSpec : ChangeSpec := { name := "vmNumbers", fn := fun _ => fun
  | [] => { results := [.lit (.bool true)], args := [] }
  | _ => none }
def vmNumbersRow : OpenClaim := { program := "ytkepcdbogeineaagreatdoor", sum := "dcce2b541870a170c3a5e7d1c31b061510ea2bba2ee808a857c3992b4e9a734e", func := "dapple/dapplelaw18.VmNumbers", spec := "vmNumbers", unfollowed := true, recurses := true, named := ["dapple/words.bounds", "dapple/code.takes"], apart := false, laid := [("dapple/words.bounds", laid_dapple_words_bounds), ("dapple/code.takes", laid_dapple_code_takes)] }
def VmNumbersSaid : Prop := vmNumbersRow.holds Tryz.pinned (OpenSpec.ofChange vmNumbersSpec)

/-- ITS FALSE NEIGHBOUR: 'it returns false'. Refute it at one input. -/
def vmNumbersWrong : ChangeSpec := { name := "vmNumbers", fn := fun _ => fun
  | [] => { results := [.lit (.bool false)], args := [] }
  | _ => none }
def VmNumbersWrongFalsely : Prop := vmNumbersRow.holds Tryz.pinned (OpenSpec.ofChange vmNumbersWrong)

/-- 'dapplelaw18.VmRenamed': WHATEVER THE INPUT: true; the input reads as it did. -/
def vmRenamedSpec : ChangeSpec := { name := "vmRenamed", fn := fun _ => fun
  | [d1, d2, d3, d4, d5] => { results := [.lit (.bool true)], args := [d1, d2, d3, d4, d5] }
  | _ => none }
def vmRenamedRow : OpenClaim := { program := "ytkepcdbogeineaagreatdoor", sum := "dcce2b541870a170c3a5e7d1c31b061510ea2bba2ee808a857c3992b4e9a734e", func := "dapple/dapplelaw18.VmRenamed", spec := "vmRenamed", unfollowed := true, recurses := true, named := ["dapple/words.bounds", "dapple/code.takes"], apart := false, laid := [("dapple/words.bounds", laid_dapple_words_bounds), ("dapple/code.takes", laid_dapple_code_takes)] }
def VmRenamedSaid : Prop := vmRenamedRow.holds Tryz.pinned (OpenSpec.ofChange vmRenamedSpec)

/-- ITS FALSE NEIGHBOUR: 'it returns false'. Refute it at one input. -/
def vmRenamedWrong : ChangeSpec := { name := "vmRenamed", fn := fun _ => fun
  | [d1, d2, d3, d4, d5] => { results := [.lit (.bool false)], args := [d1, d2, d3, d4, d5] }
  | _ => none }
def VmRenamedWrongFalsely : Prop := vmRenamedRow.holds Tryz.pinned (OpenSpec.ofChange vmRenamedWrong)

/-- 'dapplelaw18.VmLoops': WHATEVER THE INPUT: true; the input reads as it did. -/
def vmLoopsSpec : ChangeSpec := { name := "vmLoops", fn := fun _ => fun
  | [d1, d2] => { results := [.lit (.bool true)], args := [d1, d2] }
  | _ => none }
def vmLoopsRow : OpenClaim := { program := "ytkepcdbogeineaagreatdoor", sum := "dcce2b541870a170c3a5e7d1c31b061510ea2bba2ee808a857c3992b4e9a734e", func := "dapple/dapplelaw18.VmLoops", spec := "vmLoops", unfollowed := true, recurses := true, named := ["dapple/words.bounds", "dapple/code.takes"], apart := false, laid := [("dapple/words.bounds", laid_dapple_words_bounds), ("dapple/code.takes", laid_dapple_code_takes)] }
def VmLoopsSaid : Prop := vmLoopsRow.holds Tryz.pinned (OpenSpec.ofChange vmLoopsSpec)

/-- ITS FALSE NEIGHBOUR: 'it returns false'. Refute it at one input. -/
def vmLoopsWrong : ChangeSpec := { name := "vmLoops", fn := fun _ => fun
  | [d1, d2] => { results := [.lit (.bool false)], args := [d1, d2] }
  | _ => none }
def VmLoopsWrongFalsely : Prop := vmLoopsRow.holds Tryz.pinned (OpenSpec.ofChange vmLoopsWrong)

/-- 'dapplelaw18.VmHidden': WHATEVER THE INPUT: true; the input reads as it did. -/
def vmHiddenSpec : ChangeSpec := { name := "vmHidden", fn := fun _ => fun
  | [d1, d2, d3, d4] => { results := [.lit (.bool true)], args := [d1, d2, d3, d4] }
  | _ => none }
def vmHiddenRow : OpenClaim := { program := "ytkepcdbogeineaagreatdoor", sum := "dcce2b541870a170c3a5e7d1c31b061510ea2bba2ee808a857c3992b4e9a734e", func := "dapple/dapplelaw18.VmHidden", spec := "vmHidden", unfollowed := true, recurses := true, named := ["dapple/words.bounds", "dapple/code.takes"], apart := false, laid := [("dapple/words.bounds", laid_dapple_words_bounds), ("dapple/code.takes", laid_dapple_code_takes)] }
def VmHiddenSaid : Prop := vmHiddenRow.holds Tryz.pinned (OpenSpec.ofChange vmHiddenSpec)

/-- ITS FALSE NEIGHBOUR: 'it returns false'. Refute it at one input. -/
def vmHiddenWrong : ChangeSpec := { name := "vmHidden", fn := fun _ => fun
  | [d1, d2, d3, d4] => { results := [.lit (.bool false)], args := [d1, d2, d3, d4] }
  | _ => none }
def VmHiddenWrongFalsely : Prop := vmHiddenRow.holds Tryz.pinned (OpenSpec.ofChange vmHiddenWrong)

/- THE SECOND FORM. 'bulk': how many values and letters a reading holds, each counted each time it is reached (what is shared counts as often as it is met; a slice's spare places count too). A statement '..UptoSaid' is the law's where the arguments, and the package variables that the reading takes, are together of bulk at most 1048576: NARROWER than '..Said'. Prove '..Said' where nothing that the law and all that it calls make is longer than what came in: it says more and counts as full. Else prove '..UptoSaid'. A law counts once. -/
mutual
def uptoBulk {H : Type} : DataW H → Nat
  | .lit (.string bytes) => bytes.length + 1
  | .lit _ => 1
  | .nil => 1
  | .ptr d => uptoBulk d + 1
  | .slice elems spare => uptoBulkAll elems + uptoBulkAll spare + 1
  | .agg parts => uptoBulkAll parts + 1
  | .iface _ d => uptoBulk d + 1
  | .map entries => uptoBulkEntries entries + 1
  | .held _ => 1
def uptoBulkAll {H : Type} : List (DataW H) → Nat
  | [] => 0
  | d :: r => uptoBulk d + uptoBulkAll r
def uptoBulkEntries {H : Type} : List (Lit × DataW H) → Nat
  | [] => 0
  | x :: r => uptoBulkEntry x + uptoBulkEntries r
def uptoBulkEntry {H : Type} : Lit × DataW H → Nat
  | (.string bytes, d) => bytes.length + uptoBulk d + 1
  | (_, d) => uptoBulk d + 1
 end
def uptoSmall : (H : Type) → List (DataW H) → Bool := fun _ ds => decide (uptoBulkAll ds ≤ 1048576)
def OpenSpec.upto (s : _root_.Go.ChangeSpec) : _root_.Go.OpenSpec := { _root_.Go.OpenSpec.ofChange s with cond := some uptoSmall }

/-- 'dapplelaw18.VmNumbers', WHERE WHAT IT READS IS OF BULK AT MOST 1048576: true; the input reads as it did. -/
def vmNumbersUptoRow : OpenClaim := { program := "ytkepcdbogeineaagreatdoor", sum := "dcce2b541870a170c3a5e7d1c31b061510ea2bba2ee808a857c3992b4e9a734e", func := "dapple/dapplelaw18.VmNumbers", spec := "vmNumbers", unfollowed := true, recurses := true, named := ["dapple/words.bounds", "dapple/code.takes"], apart := false, laid := [("dapple/words.bounds", laid_dapple_words_bounds), ("dapple/code.takes", laid_dapple_code_takes)], narrowed := true }
def VmNumbersUptoSaid : Prop := vmNumbersUptoRow.holds Tryz.pinned (OpenSpec.upto vmNumbersSpec)

/-- 'dapplelaw18.VmRenamed', WHERE WHAT IT READS IS OF BULK AT MOST 1048576: true; the input reads as it did. -/
def vmRenamedUptoRow : OpenClaim := { program := "ytkepcdbogeineaagreatdoor", sum := "dcce2b541870a170c3a5e7d1c31b061510ea2bba2ee808a857c3992b4e9a734e", func := "dapple/dapplelaw18.VmRenamed", spec := "vmRenamed", unfollowed := true, recurses := true, named := ["dapple/words.bounds", "dapple/code.takes"], apart := false, laid := [("dapple/words.bounds", laid_dapple_words_bounds), ("dapple/code.takes", laid_dapple_code_takes)], narrowed := true }
def VmRenamedUptoSaid : Prop := vmRenamedUptoRow.holds Tryz.pinned (OpenSpec.upto vmRenamedSpec)

/-- 'dapplelaw18.VmLoops', WHERE WHAT IT READS IS OF BULK AT MOST 1048576: true; the input reads as it did. -/
def vmLoopsUptoRow : OpenClaim := { program := "ytkepcdbogeineaagreatdoor", sum := "dcce2b541870a170c3a5e7d1c31b061510ea2bba2ee808a857c3992b4e9a734e", func := "dapple/dapplelaw18.VmLoops", spec := "vmLoops", unfollowed := true, recurses := true, named := ["dapple/words.bounds", "dapple/code.takes"], apart := false, laid := [("dapple/words.bounds", laid_dapple_words_bounds), ("dapple/code.takes", laid_dapple_code_takes)], narrowed := true }
def VmLoopsUptoSaid : Prop := vmLoopsUptoRow.holds Tryz.pinned (OpenSpec.upto vmLoopsSpec)

/-- 'dapplelaw18.VmHidden', WHERE WHAT IT READS IS OF BULK AT MOST 1048576: true; the input reads as it did. -/
def vmHiddenUptoRow : OpenClaim := { program := "ytkepcdbogeineaagreatdoor", sum := "dcce2b541870a170c3a5e7d1c31b061510ea2bba2ee808a857c3992b4e9a734e", func := "dapple/dapplelaw18.VmHidden", spec := "vmHidden", unfollowed := true, recurses := true, named := ["dapple/words.bounds", "dapple/code.takes"], apart := false, laid := [("dapple/words.bounds", laid_dapple_words_bounds), ("dapple/code.takes", laid_dapple_code_takes)], narrowed := true }
def VmHiddenUptoSaid : Prop := vmHiddenUptoRow.holds Tryz.pinned (OpenSpec.upto vmHiddenSpec)

end Rows
end Go.Proofs.YtkepcdbogeineaaGreatDoor
