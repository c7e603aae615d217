/-
  NARROWER THAN 'FOR EVERY INPUT', by the rows' own cells (each row's printed sentence says how): LocksNumbers: laid · LocksInOrder: laid · LocksStay: laid · LocksDoes: laid.
  DERIVED. THE GIVEN ROWS OF THIS SEAT. 4 by the template 'for every input the law returns true; each argument reads behind the call as it read before'; 0 by the template 'total and deterministic' (their statements: YtkfdoocmapjkbaaDoorTotals.lean).
  GIVEN WITH THE SEED: the statements are not yours to turn. If you find one false, say at which input.
  Laid BY PROGRAM, IN A SANDBOX (cutbox-rows.mjs): the forced cells as the released guide's own fill.sh prints them over the translation eb9d0627e439b0dd… (all of the seat's roots in one cut). By AI agents, Wed Nov 11 2026. No macro, syntax, notation, axiom, sorry.
-/
import Derived.Test.YtkfdoocmapjkbaaDoorChecked
import GoSem.Claim
import GoSem.ClaimJoined
import GoSem.ClaimMapViews
import Derived.JoinedTies
import Derived.KernelRfl
namespace Go.Proofs.YtkfdoocmapjkbaaDoor
/- THE CELL 'sum', in the pinned program and in every row, IS THE sha256 OF THE DUMP (.gsa) THAT YtkfdoocmapjkbaaDoorProg.lean LOADS. Nothing in Lean hashes anything: it is a label: what it is worth is what the hold of that sum in a sandbox is worth. -/
noncomputable def Tryd.pinned : Pinned := { name := "ytkfdoocmapjkbaadoor", sum := "eb9d0627e439b0dd523de0270e6654745a23a9aac85c437b4b3b290a3ff79032", checked := Tryd.checked }
namespace Rows
def none {H : Type} : Left H := { results := [], args := [] }

/- WHAT THE LISTED PACKAGE-LEVEL VARIABLES READ AS WHEN THE CALL BEGINS. Each datum BY PROGRAM (the guide's laid-datum.mjs) off the statement by which the dump's own 'gosem.cut.vars' lays the variable. In a bare row this is a premise. The card (YtkfdoocmapjkbaaDoorCards.lean) ties it to the program's text. -/
def laid_dapple_words_bounds {H : Type} : DataW H := .agg [.agg [.lit (.int .i64 0), .lit (.int .i64 0)], .agg [.lit (.int .i64 0), .lit (.int .i64 0)], .agg [.lit (.int .i64 0), .lit (.int .i64 0)], .agg [.lit (.int .i64 0), .lit (.int .i64 0)], .agg [.lit (.int .i64 0), .lit (.int .i64 0)], .agg [.lit (.int .i64 (-576460752303423488)), .lit (.int .i64 576460752303423487)], .agg [.lit (.int .i64 0), .lit (.int .i64 2147483647)], .agg [.lit (.int .i64 1), .lit (.int .i64 22)], .agg [.lit (.int .i64 0), .lit (.int .i64 2147483647)]]

/-- 'dapplelaw19.LocksNumbers': WHATEVER THE INPUT: true; the input reads as it did. -/
def locksNumbersSpec : ChangeSpec := { name := "locksNumbers", fn := fun _ => fun
  | [] => { results := [.lit (.bool true)], args := [] }
  | _ => none }
def locksNumbersRow : OpenClaim := { program := "ytkfdoocmapjkbaadoor", sum := "eb9d0627e439b0dd523de0270e6654745a23a9aac85c437b4b3b290a3ff79032", func := "dapple/dapplelaw19.LocksNumbers", spec := "locksNumbers", recurses := true, named := ["dapple/words.bounds"], apart := false, laid := [("dapple/words.bounds", laid_dapple_words_bounds)] }
def LocksNumbersSaid : Prop := locksNumbersRow.holds Tryd.pinned (OpenSpec.ofChange locksNumbersSpec)

/-- ITS FALSE NEIGHBOUR: 'it returns false'. Refute it at one input. -/
def locksNumbersWrong : ChangeSpec := { name := "locksNumbers", fn := fun _ => fun
  | [] => { results := [.lit (.bool false)], args := [] }
  | _ => none }
def LocksNumbersWrongFalsely : Prop := locksNumbersRow.holds Tryd.pinned (OpenSpec.ofChange locksNumbersWrong)

/-- 'dapplelaw19.LocksInOrder': WHATEVER THE INPUT: true; the input reads as it did. -/
def locksInOrderSpec : ChangeSpec := { name := "locksInOrder", fn := fun _ => fun
  | [d] => { results := [.lit (.bool true)], args := [d] }
  | _ => none }
def locksInOrderRow : OpenClaim := { program := "ytkfdoocmapjkbaadoor", sum := "eb9d0627e439b0dd523de0270e6654745a23a9aac85c437b4b3b290a3ff79032", func := "dapple/dapplelaw19.LocksInOrder", spec := "locksInOrder", recurses := true, named := ["dapple/words.bounds"], apart := false, laid := [("dapple/words.bounds", laid_dapple_words_bounds)] }
def LocksInOrderSaid : Prop := locksInOrderRow.holds Tryd.pinned (OpenSpec.ofChange locksInOrderSpec)

/-- ITS FALSE NEIGHBOUR: 'it returns false'. Refute it at one input. -/
def locksInOrderWrong : ChangeSpec := { name := "locksInOrder", fn := fun _ => fun
  | [d] => { results := [.lit (.bool false)], args := [d] }
  | _ => none }
def LocksInOrderWrongFalsely : Prop := locksInOrderRow.holds Tryd.pinned (OpenSpec.ofChange locksInOrderWrong)

/-- 'dapplelaw19.LocksStay': WHATEVER THE INPUT: true; the input reads as it did. -/
def locksStaySpec : ChangeSpec := { name := "locksStay", fn := fun _ => fun
  | [d1, d2] => { results := [.lit (.bool true)], args := [d1, d2] }
  | _ => none }
def locksStayRow : OpenClaim := { program := "ytkfdoocmapjkbaadoor", sum := "eb9d0627e439b0dd523de0270e6654745a23a9aac85c437b4b3b290a3ff79032", func := "dapple/dapplelaw19.LocksStay", spec := "locksStay", recurses := true, named := ["dapple/words.bounds"], apart := false, laid := [("dapple/words.bounds", laid_dapple_words_bounds)] }
def LocksStaySaid : Prop := locksStayRow.holds Tryd.pinned (OpenSpec.ofChange locksStaySpec)

/-- ITS FALSE NEIGHBOUR: 'it returns false'. Refute it at one input. -/
def locksStayWrong : ChangeSpec := { name := "locksStay", fn := fun _ => fun
  | [d1, d2] => { results := [.lit (.bool false)], args := [d1, d2] }
  | _ => none }
def LocksStayWrongFalsely : Prop := locksStayRow.holds Tryd.pinned (OpenSpec.ofChange locksStayWrong)

/-- 'dapplelaw19.LocksDoes': WHATEVER THE INPUT: true; the input reads as it did. -/
def locksDoesSpec : ChangeSpec := { name := "locksDoes", fn := fun _ => fun
  | [d] => { results := [.lit (.bool true)], args := [d] }
  | _ => none }
def locksDoesRow : OpenClaim := { program := "ytkfdoocmapjkbaadoor", sum := "eb9d0627e439b0dd523de0270e6654745a23a9aac85c437b4b3b290a3ff79032", func := "dapple/dapplelaw19.LocksDoes", spec := "locksDoes", recurses := true, named := ["dapple/words.bounds"], apart := false, laid := [("dapple/words.bounds", laid_dapple_words_bounds)] }
def LocksDoesSaid : Prop := locksDoesRow.holds Tryd.pinned (OpenSpec.ofChange locksDoesSpec)

/-- ITS FALSE NEIGHBOUR: 'it returns false'. Refute it at one input. -/
def locksDoesWrong : ChangeSpec := { name := "locksDoes", fn := fun _ => fun
  | [d] => { results := [.lit (.bool false)], args := [d] }
  | _ => none }
def LocksDoesWrongFalsely : Prop := locksDoesRow.holds Tryd.pinned (OpenSpec.ofChange locksDoesWrong)

/- THE SECOND FORM. 'bulk': how many values and letters a reading holds, each counted each time it is reached (what is shared counts as often as it is met; a slice's spare places count too). A statement '..UptoSaid' is the law's where the arguments, and the package variables that the reading takes, are together of bulk at most 1048576: NARROWER than '..Said'. Prove '..Said' where nothing that the law and all that it calls make is longer than what came in: it says more and counts as full. Else prove '..UptoSaid'. A law counts once. -/
mutual
def uptoBulk {H : Type} : DataW H → Nat
  | .lit (.string bytes) => bytes.length + 1
  | .lit _ => 1
  | .nil => 1
  | .ptr d => uptoBulk d + 1
  | .slice elems spare => uptoBulkAll elems + uptoBulkAll spare + 1
  | .agg parts => uptoBulkAll parts + 1
  | .iface _ d => uptoBulk d + 1
  | .map entries => uptoBulkEntries entries + 1
  | .held _ => 1
def uptoBulkAll {H : Type} : List (DataW H) → Nat
  | [] => 0
  | d :: r => uptoBulk d + uptoBulkAll r
def uptoBulkEntries {H : Type} : List (Lit × DataW H) → Nat
  | [] => 0
  | x :: r => uptoBulkEntry x + uptoBulkEntries r
def uptoBulkEntry {H : Type} : Lit × DataW H → Nat
  | (.string bytes, d) => bytes.length + uptoBulk d + 1
  | (_, d) => uptoBulk d + 1
 end
def uptoSmall : (H : Type) → List (DataW H) → Bool := fun _ ds => decide (uptoBulkAll ds ≤ 1048576)
def OpenSpec.upto (s : _root_.Go.ChangeSpec) : _root_.Go.OpenSpec := { _root_.Go.OpenSpec.ofChange s with cond := some uptoSmall }

/-- 'dapplelaw19.LocksNumbers', WHERE WHAT IT READS IS OF BULK AT MOST 1048576: true; the input reads as it did. -/
def locksNumbersUptoRow : OpenClaim := { program := "ytkfdoocmapjkbaadoor", sum := "eb9d0627e439b0dd523de0270e6654745a23a9aac85c437b4b3b290a3ff79032", func := "dapple/dapplelaw19.LocksNumbers", spec := "locksNumbers", recurses := true, named := ["dapple/words.bounds"], apart := false, laid := [("dapple/words.bounds", laid_dapple_words_bounds)], narrowed := true }
def LocksNumbersUptoSaid : Prop := locksNumbersUptoRow.holds Tryd.pinned (OpenSpec.upto locksNumbersSpec)

/-- 'dapplelaw19.LocksInOrder', WHERE WHAT IT READS IS OF BULK AT MOST 1048576: true; the input reads as it did. -/
def locksInOrderUptoRow : OpenClaim := { program := "ytkfdoocmapjkbaadoor", sum := "eb9d0627e439b0dd523de0270e6654745a23a9aac85c437b4b3b290a3ff79032", func := "dapple/dapplelaw19.LocksInOrder", spec := "locksInOrder", recurses := true, named := ["dapple/words.bounds"], apart := false, laid := [("dapple/words.bounds", laid_dapple_words_bounds)], narrowed := true }
def LocksInOrderUptoSaid : Prop := locksInOrderUptoRow.holds Tryd.pinned (OpenSpec.upto locksInOrderSpec)

/-- 'dapplelaw19.LocksStay', WHERE WHAT IT READS IS OF BULK AT MOST 1048576: true; the input reads as it did. -/
def locksStayUptoRow : OpenClaim := { program := "ytkfdoocmapjkbaadoor", sum := "eb9d0627e439b0dd523de0270e6654745a23a9aac85c437b4b3b290a3ff79032", func := "dapple/dapplelaw19.LocksStay", spec := "locksStay", recurses := true, named := ["dapple/words.bounds"], apart := false, laid := [("dapple/words.bounds", laid_dapple_words_bounds)], narrowed := true }
def LocksStayUptoSaid : Prop := locksStayUptoRow.holds Tryd.pinned (OpenSpec.upto locksStaySpec)

/-- 'dapplelaw19.LocksDoes', WHERE WHAT IT READS IS OF BULK AT MOST 1048576: true; the input reads as it did. -/
def locksDoesUptoRow : OpenClaim := { program := "ytkfdoocmapjkbaadoor", sum := "eb9d0627e439b0dd523de0270e6654745a23a9aac85c437b4b3b290a3ff79032", func := "dapple/dapplelaw19.LocksDoes", spec := "locksDoes", recurses := true, named := ["dapple/words.bounds"], apart := false, laid := [("dapple/words.bounds", laid_dapple_words_bounds)], narrowed := true }
def LocksDoesUptoSaid : Prop := locksDoesUptoRow.holds Tryd.pinned (OpenSpec.upto locksDoesSpec)

end Rows
end Go.Proofs.YtkfdoocmapjkbaaDoor
