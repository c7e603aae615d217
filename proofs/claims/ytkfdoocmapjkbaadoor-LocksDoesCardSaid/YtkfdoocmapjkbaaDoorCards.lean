/-
  DERIVED. GIVEN WITH THE SEED: THE CARDS: each row of YtkfdoocmapjkbaaDoorRows.lean that lists a variable, with what it lists TIED to the program's text (the seventh form; the later family's looks); each row that meets fmt, with fmt's text TOLD by the authors' own Lean function (tested against real Go, not proved from fmt's source: count such statements apart). THE CARD IS WHAT COUNTS. Prove the row's statement (the work); the ties are given (YtkfdoocmapjkbaaDoorTie.lean); close each card by the builder's one call (the guide's Derived/Test/ToyasCard.lean, 'card_holds'). Laid BY PROGRAM, IN A SANDBOX (cutbox-door.mjs). By AI agents, Wed Nov 11 2026. No macro, syntax, notation, axiom, sorry.
-/
import Derived.Test.YtkfdoocmapjkbaaDoorRows
import GoSem.ClaimSeven
namespace Go.Proofs.YtkfdoocmapjkbaaDoor
namespace Rows

/-- THE TIED CARD OF 'dapplelaw19.LocksNumbers'. -/
def locksNumbersCard : Claim7 := { stood := { row := locksNumbersRow, standIns := [], harness := (true, "92ee5a695cf5366afb865b60727210fe700774a16c4edf660a23ee59dc7fb308"), looks := false }, kinds := [], alts := [], laidByText := true, laidKinds := [.data], laidTests := true, laidLooks := .later }
def LocksNumbersCardSaid : Prop := Claim7.holds Tryd.pinned (.plain (OpenSpec.ofChange locksNumbersSpec)) locksNumbersCard

/-- THE TIED CARD OF 'dapplelaw19.LocksInOrder'. -/
def locksInOrderCard : Claim7 := { stood := { row := locksInOrderRow, standIns := [], harness := (true, "92ee5a695cf5366afb865b60727210fe700774a16c4edf660a23ee59dc7fb308"), looks := false }, kinds := [], alts := [], laidByText := true, laidKinds := [.data], laidTests := true, laidLooks := .later }
def LocksInOrderCardSaid : Prop := Claim7.holds Tryd.pinned (.plain (OpenSpec.ofChange locksInOrderSpec)) locksInOrderCard

/-- THE TIED CARD OF 'dapplelaw19.LocksStay'. -/
def locksStayCard : Claim7 := { stood := { row := locksStayRow, standIns := [], harness := (true, "92ee5a695cf5366afb865b60727210fe700774a16c4edf660a23ee59dc7fb308"), looks := false }, kinds := [], alts := [], laidByText := true, laidKinds := [.data], laidTests := true, laidLooks := .later }
def LocksStayCardSaid : Prop := Claim7.holds Tryd.pinned (.plain (OpenSpec.ofChange locksStaySpec)) locksStayCard

/-- THE TIED CARD OF 'dapplelaw19.LocksDoes'. -/
def locksDoesCard : Claim7 := { stood := { row := locksDoesRow, standIns := [], harness := (true, "92ee5a695cf5366afb865b60727210fe700774a16c4edf660a23ee59dc7fb308"), looks := false }, kinds := [], alts := [], laidByText := true, laidKinds := [.data], laidTests := true, laidLooks := .later }
def LocksDoesCardSaid : Prop := Claim7.holds Tryd.pinned (.plain (OpenSpec.ofChange locksDoesSpec)) locksDoesCard

/-- THE SECOND FORM's CARD OF 'dapplelaw19.LocksNumbers'. -/
def locksNumbersUptoCard : Claim7 := { stood := { row := locksNumbersUptoRow, standIns := [], harness := (true, "92ee5a695cf5366afb865b60727210fe700774a16c4edf660a23ee59dc7fb308"), looks := false }, kinds := [], alts := [], laidByText := true, laidKinds := [.data], laidTests := true, laidLooks := .later }
def LocksNumbersUptoCardSaid : Prop := Claim7.holds Tryd.pinned (.plain (OpenSpec.upto locksNumbersSpec)) locksNumbersUptoCard

/-- THE SECOND FORM's CARD OF 'dapplelaw19.LocksInOrder'. -/
def locksInOrderUptoCard : Claim7 := { stood := { row := locksInOrderUptoRow, standIns := [], harness := (true, "92ee5a695cf5366afb865b60727210fe700774a16c4edf660a23ee59dc7fb308"), looks := false }, kinds := [], alts := [], laidByText := true, laidKinds := [.data], laidTests := true, laidLooks := .later }
def LocksInOrderUptoCardSaid : Prop := Claim7.holds Tryd.pinned (.plain (OpenSpec.upto locksInOrderSpec)) locksInOrderUptoCard

/-- THE SECOND FORM's CARD OF 'dapplelaw19.LocksStay'. -/
def locksStayUptoCard : Claim7 := { stood := { row := locksStayUptoRow, standIns := [], harness := (true, "92ee5a695cf5366afb865b60727210fe700774a16c4edf660a23ee59dc7fb308"), looks := false }, kinds := [], alts := [], laidByText := true, laidKinds := [.data], laidTests := true, laidLooks := .later }
def LocksStayUptoCardSaid : Prop := Claim7.holds Tryd.pinned (.plain (OpenSpec.upto locksStaySpec)) locksStayUptoCard

/-- THE SECOND FORM's CARD OF 'dapplelaw19.LocksDoes'. -/
def locksDoesUptoCard : Claim7 := { stood := { row := locksDoesUptoRow, standIns := [], harness := (true, "92ee5a695cf5366afb865b60727210fe700774a16c4edf660a23ee59dc7fb308"), looks := false }, kinds := [], alts := [], laidByText := true, laidKinds := [.data], laidTests := true, laidLooks := .later }
def LocksDoesUptoCardSaid : Prop := Claim7.holds Tryd.pinned (.plain (OpenSpec.upto locksDoesSpec)) locksDoesUptoCard
end Rows
end Go.Proofs.YtkfdoocmapjkbaaDoor
