/-
  DERIVED. GIVEN WITH THE SEED: THE CARDS: each row of YticaipedpcmhfaaDoorRows.lean that lists a variable, with what it lists TIED to the program's text (the seventh form; the later family's looks); each row that meets fmt, with fmt's text TOLD by the authors' own Lean function (tested against real Go, not proved from fmt's source: count such statements apart). THE CARD IS WHAT COUNTS. Prove the row's statement (the work); the ties are given (YticaipedpcmhfaaDoorTie.lean); close each card by the builder's one call (the guide's Derived/Test/ToyasCard.lean, 'card_holds'). Laid BY PROGRAM, IN A SANDBOX (cutbox-door.mjs). By AI agents, Wed Nov 11 2026. No macro, syntax, notation, axiom, sorry.
-/
import Derived.Test.YticaipedpcmhfaaDoorRows
import GoSem.ClaimSeven
namespace Go.Proofs.YticaipedpcmhfaaDoor
namespace Rows

/-- THE TIED CARD OF 'dapplelaw08.CodeNumbers'. -/
def codeNumbersCard : Claim7 := { stood := { row := codeNumbersRow, standIns := [], harness := (true, "23e811a047c7ebcc7da174f36d30a950c1a0ebfc6851f4f95d6eeb62d3093139"), looks := true }, kinds := [], alts := [], laidByText := true, laidKinds := [.data, .data, .data, .data, .sentinel, .sentinel, .data, .data, .data], laidTests := true, laidLooks := .later }
def CodeNumbersCardSaid : Prop := Claim7.holds Tryd.pinned (.plain (OpenSpec.ofChange codeNumbersSpec)) codeNumbersCard

/-- THE TIED CARD OF 'dapplelaw08.CodeMore'. -/
def codeMoreCard : Claim7 := { stood := { row := codeMoreRow, standIns := [], harness := (true, "23e811a047c7ebcc7da174f36d30a950c1a0ebfc6851f4f95d6eeb62d3093139"), looks := true }, kinds := [], alts := [], laidByText := true, laidKinds := [.data, .data, .data, .data, .sentinel, .sentinel, .data, .data, .data], laidTests := true, laidLooks := .later }
def CodeMoreCardSaid : Prop := Claim7.holds Tryd.pinned (.plain (OpenSpec.ofChange codeMoreSpec)) codeMoreCard

/-- THE TIED CARD OF 'dapplelaw08.CodeWays'. -/
def codeWaysCard : Claim7 := { stood := { row := codeWaysRow, standIns := [], harness := (true, "23e811a047c7ebcc7da174f36d30a950c1a0ebfc6851f4f95d6eeb62d3093139"), looks := true }, kinds := [], alts := [], laidByText := true, laidKinds := [.data, .data, .data, .data, .sentinel, .sentinel, .data, .data, .data], laidTests := true, laidLooks := .later }
def CodeWaysCardSaid : Prop := Claim7.holds Tryd.pinned (.plain (OpenSpec.ofChange codeWaysSpec)) codeWaysCard

/-- THE SECOND FORM's CARD OF 'dapplelaw08.CodeNumbers'. -/
def codeNumbersUptoCard : Claim7 := { stood := { row := codeNumbersUptoRow, standIns := [], harness := (true, "23e811a047c7ebcc7da174f36d30a950c1a0ebfc6851f4f95d6eeb62d3093139"), looks := true }, kinds := [], alts := [], laidByText := true, laidKinds := [.data, .data, .data, .data, .sentinel, .sentinel, .data, .data, .data], laidTests := true, laidLooks := .later }
def CodeNumbersUptoCardSaid : Prop := Claim7.holds Tryd.pinned (.plain (OpenSpec.upto codeNumbersSpec)) codeNumbersUptoCard

/-- THE SECOND FORM's CARD OF 'dapplelaw08.CodeMore'. -/
def codeMoreUptoCard : Claim7 := { stood := { row := codeMoreUptoRow, standIns := [], harness := (true, "23e811a047c7ebcc7da174f36d30a950c1a0ebfc6851f4f95d6eeb62d3093139"), looks := true }, kinds := [], alts := [], laidByText := true, laidKinds := [.data, .data, .data, .data, .sentinel, .sentinel, .data, .data, .data], laidTests := true, laidLooks := .later }
def CodeMoreUptoCardSaid : Prop := Claim7.holds Tryd.pinned (.plain (OpenSpec.upto codeMoreSpec)) codeMoreUptoCard

/-- THE SECOND FORM's CARD OF 'dapplelaw08.CodeWays'. -/
def codeWaysUptoCard : Claim7 := { stood := { row := codeWaysUptoRow, standIns := [], harness := (true, "23e811a047c7ebcc7da174f36d30a950c1a0ebfc6851f4f95d6eeb62d3093139"), looks := true }, kinds := [], alts := [], laidByText := true, laidKinds := [.data, .data, .data, .data, .sentinel, .sentinel, .data, .data, .data], laidTests := true, laidLooks := .later }
def CodeWaysUptoCardSaid : Prop := Claim7.holds Tryd.pinned (.plain (OpenSpec.upto codeWaysSpec)) codeWaysUptoCard
end Rows
end Go.Proofs.YticaipedpcmhfaaDoor
