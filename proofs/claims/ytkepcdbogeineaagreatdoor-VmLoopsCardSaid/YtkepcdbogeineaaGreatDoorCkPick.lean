/- Layer 18, the law's pick. -/
import Derived.Test.YtkepcdbogeineaaGreatDoorCkW3
namespace Go.Proofs.YtkepcdbogeineaaGreatDoor
open Go.RowKit Hp
namespace Ck
variable {w : World}

def pickN (c : Int) (n : Nat) : Nat := ((if c < 0 then -(c + 1) else c) % (n : Int)).toNat
theorem pickN_lt (c : Int) (n : Nat) (h : 0 < n) : pickN c n < n := by
  unfold pickN
  have h1 := Int.emod_lt_of_pos (if c < 0 then -(c + 1) else c) (show (0 : Int) < n by omega)
  have h2 := Int.emod_nonneg (if c < 0 then -(c + 1) else c) (show (n : Int) ≠ 0 by omega)
  omega

theorem tmod_pos (a n : Int) (h : 0 ≤ a) : a.tmod n = a % n := Int.tmod_eq_emod_of_nonneg h

set_option maxHeartbeats 4000000 in
theorem pick_any (c : Int) (n : Nat) (hc : in64 c) (hn : 1 ≤ n) (hn2 : n ≤ 140737488351232) : Calls Tryz.prog 11 #[.int .i64 c, .int .i64 n] w fun e w' => e = .returned (.int .i64 (pickN c n)) ∧ w = w' := by
  obtain ⟨h1, h2⟩ := hc
  have hcast : ((pickN c n : Nat) : Int) = (if c < 0 then -(c + 1) else c) % (n : Int) := by
    unfold pickN
    exact Int.toNat_of_nonneg (Int.emod_nonneg _ (by omega))
  have HC := Lib.hid hcast
  clear hcast
  by_cases hneg : c < 0
  · have e1 : IntKind.i64.wrap (c + 1) = c + 1 := IntWalk.i64_in _ (by omega)
    have e2 : IntKind.i64.wrap (-(c + 1)) = -(c + 1) := IntWalk.i64_in _ (by omega)
    have b1 := Int.emod_lt_of_pos (-(c + 1)) (show (0 : Int) < n by omega)
    have b2 := Int.emod_nonneg (-(c + 1)) (show (n : Int) ≠ 0 by omega)
    have e3 : IntKind.i64.wrap ((-(c + 1)) % (n : Int)) = (-(c + 1)) % (n : Int) := IntWalk.i64_in _ (by omega)
    have e4 : (-(c + 1)).tmod (n : Int) = (-(c + 1)) % (n : Int) := tmod_pos _ _ (by omega)
    go_enter Tryz.func11, Tryz.ntmps11
    go_wp2
    all_goals
      go_ret
      refine ⟨?_, rfl⟩
      rw [HC.out, if_pos hneg]
      simp
  · have b1 := Int.emod_lt_of_pos c (show (0 : Int) < n by omega)
    have b2 := Int.emod_nonneg c (show (n : Int) ≠ 0 by omega)
    have e3 : IntKind.i64.wrap (c % (n : Int)) = c % (n : Int) := IntWalk.i64_in _ (by omega)
    have e4 : c.tmod (n : Int) = c % (n : Int) := tmod_pos _ _ (by omega)
    go_enter Tryz.func11, Tryz.ntmps11
    go_wp2
    all_goals
      go_ret
      refine ⟨?_, rfl⟩
      rw [HC.out, if_neg (by omega)]
      simp

end Ck
end Go.Proofs.YtkepcdbogeineaaGreatDoor
