/-
  DERIVED. GIVEN WITH THE SEED: THE CARDS: each row of YticaipedpcmhfaaGreatDoorRows.lean that lists a variable, with what it lists TIED to the program's text (the seventh form; the later family's looks); each row that meets fmt, with fmt's text TOLD by the authors' own Lean function (tested against real Go, not proved from fmt's source: count such statements apart). THE CARD IS WHAT COUNTS. Prove the row's statement (the work); the ties are given (YticaipedpcmhfaaGreatDoorTie.lean); close each card by the builder's one call (the guide's Derived/Test/ToyasCard.lean, 'card_holds'). Laid BY PROGRAM, IN A SANDBOX (cutbox-door.mjs). By AI agents, Wed Nov 11 2026. No macro, syntax, notation, axiom, sorry.
-/
import Derived.Test.YticaipedpcmhfaaGreatDoorRows
import GoSem.ClaimSeven
namespace Go.Proofs.YticaipedpcmhfaaGreatDoor
namespace Rows

/-- THE TIED CARD OF 'dapplelaw08.CodeChecks'. -/
def codeChecksCard : Claim7 := { stood := { row := codeChecksRow, standIns := [], harness := (true, "ce0f68cd943e01b685ab08a5c5a4520910d406a04bf257f5023d3cfc35a1c1fc"), looks := true }, kinds := [], alts := [], laidByText := true, laidKinds := [.data, .data, .data, .data, .sentinel, .sentinel, .data, .data, .data], laidTests := true, laidLooks := .later }
def CodeChecksCardSaid : Prop := Claim7.holds Tryz.pinned (.plain (OpenSpec.ofChange codeChecksSpec)) codeChecksCard

/-- THE TIED CARD OF 'dapplelaw08.CodeReads'. -/
def codeReadsCard : Claim7 := { stood := { row := codeReadsRow, standIns := [], harness := (true, "ce0f68cd943e01b685ab08a5c5a4520910d406a04bf257f5023d3cfc35a1c1fc"), looks := true }, kinds := [], alts := [], laidByText := true, laidKinds := [.data, .data, .data, .data, .sentinel, .sentinel, .data, .data, .data], laidTests := true, laidLooks := .later }
def CodeReadsCardSaid : Prop := Claim7.holds Tryz.pinned (.plain (OpenSpec.ofChange codeReadsSpec)) codeReadsCard

/-- THE TIED CARD OF 'dapplelaw08.CodeSame'. -/
def codeSameCard : Claim7 := { stood := { row := codeSameRow, standIns := [], harness := (true, "ce0f68cd943e01b685ab08a5c5a4520910d406a04bf257f5023d3cfc35a1c1fc"), looks := true }, kinds := [], alts := [], laidByText := true, laidKinds := [.data, .data, .data, .data, .sentinel, .sentinel, .data, .data, .data], laidTests := true, laidLooks := .later }
def CodeSameCardSaid : Prop := Claim7.holds Tryz.pinned (.plain (OpenSpec.ofChange codeSameSpec)) codeSameCard

/-- THE TIED CARD OF 'dapplelaw08.CodeBack'. -/
def codeBackCard : Claim7 := { stood := { row := codeBackRow, standIns := [], harness := (true, "ce0f68cd943e01b685ab08a5c5a4520910d406a04bf257f5023d3cfc35a1c1fc"), looks := true }, kinds := [], alts := [], laidByText := true, laidKinds := [.data, .data, .data, .data, .sentinel, .sentinel, .data, .data, .data], laidTests := true, laidLooks := .later }
def CodeBackCardSaid : Prop := Claim7.holds Tryz.pinned (.plain (OpenSpec.ofChange codeBackSpec)) codeBackCard

/-- THE TIED CARD OF 'dapplelaw08.CodeByte'. -/
def codeByteCard : Claim7 := { stood := { row := codeByteRow, standIns := [], harness := (true, "ce0f68cd943e01b685ab08a5c5a4520910d406a04bf257f5023d3cfc35a1c1fc"), looks := true }, kinds := [], alts := [], laidByText := true, laidKinds := [.data, .data, .data, .data, .sentinel, .sentinel, .data, .data, .data], laidTests := true, laidLooks := .later }
def CodeByteCardSaid : Prop := Claim7.holds Tryz.pinned (.plain (OpenSpec.ofChange codeByteSpec)) codeByteCard

/-- THE SECOND FORM's CARD OF 'dapplelaw08.CodeChecks'. -/
def codeChecksUptoCard : Claim7 := { stood := { row := codeChecksUptoRow, standIns := [], harness := (true, "ce0f68cd943e01b685ab08a5c5a4520910d406a04bf257f5023d3cfc35a1c1fc"), looks := true }, kinds := [], alts := [], laidByText := true, laidKinds := [.data, .data, .data, .data, .sentinel, .sentinel, .data, .data, .data], laidTests := true, laidLooks := .later }
def CodeChecksUptoCardSaid : Prop := Claim7.holds Tryz.pinned (.plain (OpenSpec.upto codeChecksSpec)) codeChecksUptoCard

/-- THE SECOND FORM's CARD OF 'dapplelaw08.CodeReads'. -/
def codeReadsUptoCard : Claim7 := { stood := { row := codeReadsUptoRow, standIns := [], harness := (true, "ce0f68cd943e01b685ab08a5c5a4520910d406a04bf257f5023d3cfc35a1c1fc"), looks := true }, kinds := [], alts := [], laidByText := true, laidKinds := [.data, .data, .data, .data, .sentinel, .sentinel, .data, .data, .data], laidTests := true, laidLooks := .later }
def CodeReadsUptoCardSaid : Prop := Claim7.holds Tryz.pinned (.plain (OpenSpec.upto codeReadsSpec)) codeReadsUptoCard

/-- THE SECOND FORM's CARD OF 'dapplelaw08.CodeSame'. -/
def codeSameUptoCard : Claim7 := { stood := { row := codeSameUptoRow, standIns := [], harness := (true, "ce0f68cd943e01b685ab08a5c5a4520910d406a04bf257f5023d3cfc35a1c1fc"), looks := true }, kinds := [], alts := [], laidByText := true, laidKinds := [.data, .data, .data, .data, .sentinel, .sentinel, .data, .data, .data], laidTests := true, laidLooks := .later }
def CodeSameUptoCardSaid : Prop := Claim7.holds Tryz.pinned (.plain (OpenSpec.upto codeSameSpec)) codeSameUptoCard

/-- THE SECOND FORM's CARD OF 'dapplelaw08.CodeBack'. -/
def codeBackUptoCard : Claim7 := { stood := { row := codeBackUptoRow, standIns := [], harness := (true, "ce0f68cd943e01b685ab08a5c5a4520910d406a04bf257f5023d3cfc35a1c1fc"), looks := true }, kinds := [], alts := [], laidByText := true, laidKinds := [.data, .data, .data, .data, .sentinel, .sentinel, .data, .data, .data], laidTests := true, laidLooks := .later }
def CodeBackUptoCardSaid : Prop := Claim7.holds Tryz.pinned (.plain (OpenSpec.upto codeBackSpec)) codeBackUptoCard

/-- THE SECOND FORM's CARD OF 'dapplelaw08.CodeByte'. -/
def codeByteUptoCard : Claim7 := { stood := { row := codeByteUptoRow, standIns := [], harness := (true, "ce0f68cd943e01b685ab08a5c5a4520910d406a04bf257f5023d3cfc35a1c1fc"), looks := true }, kinds := [], alts := [], laidByText := true, laidKinds := [.data, .data, .data, .data, .sentinel, .sentinel, .data, .data, .data], laidTests := true, laidLooks := .later }
def CodeByteUptoCardSaid : Prop := Claim7.holds Tryz.pinned (.plain (OpenSpec.upto codeByteSpec)) codeByteUptoCard
end Rows
end Go.Proofs.YticaipedpcmhfaaGreatDoor
