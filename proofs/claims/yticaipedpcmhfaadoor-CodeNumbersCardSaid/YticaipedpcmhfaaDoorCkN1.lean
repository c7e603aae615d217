/- Layer 8, the law CodeNumbers: true. -/
import Derived.Test.YticaipedpcmhfaaDoorCkX3
namespace Go.Proofs.YticaipedpcmhfaaDoor
open Go.RowKit Hp
namespace Ck
variable {w w' : World}

def opsL : List Value := [.int .u8 1, .int .u8 2, .int .u8 3, .int .u8 4, .int .u8 5, .int .u8 6, .int .u8 7, .int .u8 8, .int .u8 9, .int .u8 10, .int .u8 11, .int .u8 12, .int .u8 13, .int .u8 14, .int .u8 15, .int .u8 16, .int .u8 17, .int .u8 18]
theorem opsL_at : ∀ k : Nat, k < 18 → opsL[k]? = some (.int .u8 (k + 1 : Nat))
  | 0, _ => rfl
  | 1, _ => rfl
  | 2, _ => rfl
  | 3, _ => rfl
  | 4, _ => rfl
  | 5, _ => rfl
  | 6, _ => rfl
  | 7, _ => rfl
  | 8, _ => rfl
  | 9, _ => rfl
  | 10, _ => rfl
  | 11, _ => rfl
  | 12, _ => rfl
  | 13, _ => rfl
  | 14, _ => rfl
  | 15, _ => rfl
  | 16, _ => rfl
  | 17, _ => rfl
  | k + 18, h => absurd h (by omega)

set_option maxHeartbeats 8000000 in
set_option maxRecDepth 100000 in
theorem numbers_any (hv : Vars w) : Calls Tryd.prog 3 #[] w fun e w' => e = .returned (.bool true) ∧ Same [] w w' := by
  have HV := Lib.hid hv
  clear hv
  go_enter Tryd.func3, Tryd.ntmps3
  go_wp2_with fail
  refine (works_any HV.out).mono ?_
  rintro e w1 ⟨rfl, hs1⟩
  have HS1 := Lib.hid hs1
  clear hs1
  go_wp2_with fail
  go_loopg [3] 18 (fun gk i wr => ∃ k : Nat, k ≤ 18 ∧ gk = 18 - k ∧ i = .int .i64 k ∧ Blk wr w1.heap.size 23 opsL ∧ Same [] w wr)
  case atStart => exact ⟨0, by omega, rfl, rfl, blk_new rfl, HS1.out.alloc _⟩
  case round =>
    obtain ⟨k, hk, rfl, rfl, hb, hs⟩ := hrel
    have HS := Lib.hid hs
    clear hs
    by_cases hlt : k < 18
    · have p0 : wr.cell? ⟨w1.heap.size, k, none⟩ = some (.int .u8 (k + 1 : Nat)) := by rw [hb.cell, opsL_at k hlt]
      have HB := Lib.hid hb
      clear hb
      go_wp2_with fail
      go_roundg (18 - (k + 1))
      case measure => omega
      case rel => exact ⟨k + 1, by omega, rfl, by go_num, HB.out, HS.out⟩
    · obtain rfl : k = 18 := by omega
      go_wp2_with fail
      go_ret
      exact ⟨rfl, HS.out⟩
end Ck
end Go.Proofs.YticaipedpcmhfaaDoor
