/- Layer 8, the plain side of the law's example. -/
import Derived.Test.YticaipedpcmhfaaGreatDoorCkT3
import Derived.Test.YticaipedpcmhfaaGreatDoorCkR3
import Derived.Test.YticaipedpcmhfaaGreatDoorCkS3
namespace Go.Proofs.YticaipedpcmhfaaGreatDoor
open Go.RowKit Hp
namespace Ck

/-- The example, its text; with the second procedure cut short. -/
def exC : Cd.Co := ⟨[85, 1], [⟨#[120]⟩], [⟨0, [⟨1, 0⟩, ⟨5, 0⟩, ⟨12, 0⟩]⟩, ⟨1, [⟨2, 0⟩, ⟨12, 0⟩]⟩]⟩
def exD : Cd.Co := ⟨[85, 1], [⟨#[120]⟩], [⟨0, [⟨1, 0⟩, ⟨5, 0⟩, ⟨12, 0⟩]⟩, ⟨1, [⟨2, 0⟩]⟩]⟩
def exT : List UInt8 := [99, 111, 110, 115, 116, 32, 105, 110, 116, 32, 53, 10, 99, 111, 110, 115, 116, 32, 110, 105, 108, 10, 103, 108, 111, 98, 97, 108, 32, 120, 10, 112, 114, 111, 99, 32, 48, 10, 32, 99, 111, 110, 115, 116, 32] ++ [48, 10, 32, 115, 101, 116, 103, 108, 111, 98, 97, 108, 32, 48, 10, 32, 114, 101, 116, 117, 114, 110, 10, 112, 114, 111, 99, 32, 49, 10, 32, 118, 97, 114, 32, 48, 10, 32, 114, 101, 116, 117, 114, 110, 10]

theorem ex_check : Cd.check Cd.sym exC = (0, 0, 0) := by kernel_rfl
theorem ex_short : Cd.check Cd.sym exD = (80, 1, 0) := by kernel_rfl
theorem ex_textT : Cd.textT exC = exT := by kernel_rfl
theorem ex_parse : Cd.parseT Cd.sym exT = (exC, 0, 0) := by kernel_rfl
theorem ex_cut : Cd.parseT Cd.sym (exT.take 89) = (Cd.none_, 81, 10) := by kernel_rfl
theorem ex_text : textR exC = (exT, 0) := by
  unfold textR
  rw [ex_check, ex_textT]
  rfl
end Ck
end Go.Proofs.YticaipedpcmhfaaGreatDoor
