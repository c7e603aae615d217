/-
  DERIVED. GIVEN WITH THE SEED: THE CARDS: each row of YtkepcdbogeineaaGreatDoorRows.lean that lists a variable, with what it lists TIED to the program's text (the seventh form; the later family's looks); each row that meets fmt, with fmt's text TOLD by the authors' own Lean function (tested against real Go, not proved from fmt's source: count such statements apart). THE CARD IS WHAT COUNTS. Prove the row's statement (the work); the ties are given (YtkepcdbogeineaaGreatDoorTie.lean); close each card by the builder's one call (the guide's Derived/Test/ToyasCard.lean, 'card_holds'). Laid BY PROGRAM, IN A SANDBOX (cutbox-door.mjs). By AI agents, Wed Nov 11 2026. No macro, syntax, notation, axiom, sorry.
-/
import Derived.Test.YtkepcdbogeineaaGreatDoorRows
import GoSem.ClaimSeven
namespace Go.Proofs.YtkepcdbogeineaaGreatDoor
namespace Rows

/-- THE TIED CARD OF 'dapplelaw18.VmNumbers'. -/
def vmNumbersCard : Claim7 := { stood := { row := vmNumbersRow, standIns := [], harness := (true, "df3780da01116c0bac7f38a9c8a9ebd52c4cb043c422f31ea889ec771b550bbe"), looks := true }, kinds := [], alts := [], laidByText := true, laidKinds := [.data, .data], laidTests := true, laidLooks := .later }
def VmNumbersCardSaid : Prop := Claim7.holds Tryz.pinned (.plain (OpenSpec.ofChange vmNumbersSpec)) vmNumbersCard

/-- THE TIED CARD OF 'dapplelaw18.VmRenamed'. -/
def vmRenamedCard : Claim7 := { stood := { row := vmRenamedRow, standIns := [], harness := (true, "df3780da01116c0bac7f38a9c8a9ebd52c4cb043c422f31ea889ec771b550bbe"), looks := true }, kinds := [], alts := [], laidByText := true, laidKinds := [.data, .data], laidTests := true, laidLooks := .later }
def VmRenamedCardSaid : Prop := Claim7.holds Tryz.pinned (.plain (OpenSpec.ofChange vmRenamedSpec)) vmRenamedCard

/-- THE TIED CARD OF 'dapplelaw18.VmLoops'. -/
def vmLoopsCard : Claim7 := { stood := { row := vmLoopsRow, standIns := [], harness := (true, "df3780da01116c0bac7f38a9c8a9ebd52c4cb043c422f31ea889ec771b550bbe"), looks := true }, kinds := [], alts := [], laidByText := true, laidKinds := [.data, .data], laidTests := true, laidLooks := .later }
def VmLoopsCardSaid : Prop := Claim7.holds Tryz.pinned (.plain (OpenSpec.ofChange vmLoopsSpec)) vmLoopsCard

/-- THE TIED CARD OF 'dapplelaw18.VmHidden'. -/
def vmHiddenCard : Claim7 := { stood := { row := vmHiddenRow, standIns := [], harness := (true, "df3780da01116c0bac7f38a9c8a9ebd52c4cb043c422f31ea889ec771b550bbe"), looks := true }, kinds := [], alts := [], laidByText := true, laidKinds := [.data, .data], laidTests := true, laidLooks := .later }
def VmHiddenCardSaid : Prop := Claim7.holds Tryz.pinned (.plain (OpenSpec.ofChange vmHiddenSpec)) vmHiddenCard

/-- THE SECOND FORM's CARD OF 'dapplelaw18.VmNumbers'. -/
def vmNumbersUptoCard : Claim7 := { stood := { row := vmNumbersUptoRow, standIns := [], harness := (true, "df3780da01116c0bac7f38a9c8a9ebd52c4cb043c422f31ea889ec771b550bbe"), looks := true }, kinds := [], alts := [], laidByText := true, laidKinds := [.data, .data], laidTests := true, laidLooks := .later }
def VmNumbersUptoCardSaid : Prop := Claim7.holds Tryz.pinned (.plain (OpenSpec.upto vmNumbersSpec)) vmNumbersUptoCard

/-- THE SECOND FORM's CARD OF 'dapplelaw18.VmRenamed'. -/
def vmRenamedUptoCard : Claim7 := { stood := { row := vmRenamedUptoRow, standIns := [], harness := (true, "df3780da01116c0bac7f38a9c8a9ebd52c4cb043c422f31ea889ec771b550bbe"), looks := true }, kinds := [], alts := [], laidByText := true, laidKinds := [.data, .data], laidTests := true, laidLooks := .later }
def VmRenamedUptoCardSaid : Prop := Claim7.holds Tryz.pinned (.plain (OpenSpec.upto vmRenamedSpec)) vmRenamedUptoCard

/-- THE SECOND FORM's CARD OF 'dapplelaw18.VmLoops'. -/
def vmLoopsUptoCard : Claim7 := { stood := { row := vmLoopsUptoRow, standIns := [], harness := (true, "df3780da01116c0bac7f38a9c8a9ebd52c4cb043c422f31ea889ec771b550bbe"), looks := true }, kinds := [], alts := [], laidByText := true, laidKinds := [.data, .data], laidTests := true, laidLooks := .later }
def VmLoopsUptoCardSaid : Prop := Claim7.holds Tryz.pinned (.plain (OpenSpec.upto vmLoopsSpec)) vmLoopsUptoCard

/-- THE SECOND FORM's CARD OF 'dapplelaw18.VmHidden'. -/
def vmHiddenUptoCard : Claim7 := { stood := { row := vmHiddenUptoRow, standIns := [], harness := (true, "df3780da01116c0bac7f38a9c8a9ebd52c4cb043c422f31ea889ec771b550bbe"), looks := true }, kinds := [], alts := [], laidByText := true, laidKinds := [.data, .data], laidTests := true, laidLooks := .later }
def VmHiddenUptoCardSaid : Prop := Claim7.holds Tryz.pinned (.plain (OpenSpec.upto vmHiddenSpec)) vmHiddenUptoCard
end Rows
end Go.Proofs.YtkepcdbogeineaaGreatDoor
