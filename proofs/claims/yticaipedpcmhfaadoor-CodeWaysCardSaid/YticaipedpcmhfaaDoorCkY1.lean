/- Layer 8, the law's pick and effect. -/
import Derived.Test.YticaipedpcmhfaaDoorCkW3
namespace Go.Proofs.YticaipedpcmhfaaDoor
open Go.RowKit Hp
namespace Ck
variable {w : World}

def pickN (c : Int) (n : Nat) : Nat := ((if c < 0 then -(c + 1) else c) % (n : Int)).toNat
theorem pickN_lt (c : Int) (n : Nat) (h : 0 < n) : pickN c n < n := by
  unfold pickN
  have h1 := Int.emod_lt_of_pos (if c < 0 then -(c + 1) else c) (show (0 : Int) < n by omega)
  have h2 := Int.emod_nonneg (if c < 0 then -(c + 1) else c) (show (n : Int) ≠ 0 by omega)
  omega

theorem tmod_pos (a n : Int) (h : 0 ≤ a) : a.tmod n = a % n := Int.tmod_eq_emod_of_nonneg h

set_option maxHeartbeats 4000000 in
theorem pick_any (c : Int) (n : Nat) (hc : in64 c) (hn : 1 ≤ n) (hn2 : n ≤ 140737488351232) : Calls Tryd.prog 10 #[.int .i64 c, .int .i64 n] w fun e w' => e = .returned (.int .i64 (pickN c n)) ∧ w = w' := by
  obtain ⟨h1, h2⟩ := hc
  have hcast : ((pickN c n : Nat) : Int) = (if c < 0 then -(c + 1) else c) % (n : Int) := by
    unfold pickN
    exact Int.toNat_of_nonneg (Int.emod_nonneg _ (by omega))
  have HC := Lib.hid hcast
  clear hcast
  by_cases hneg : c < 0
  · have e1 : IntKind.i64.wrap (c + 1) = c + 1 := IntWalk.i64_in _ (by omega)
    have e2 : IntKind.i64.wrap (-(c + 1)) = -(c + 1) := IntWalk.i64_in _ (by omega)
    have b1 := Int.emod_lt_of_pos (-(c + 1)) (show (0 : Int) < n by omega)
    have b2 := Int.emod_nonneg (-(c + 1)) (show (n : Int) ≠ 0 by omega)
    have e3 : IntKind.i64.wrap ((-(c + 1)) % (n : Int)) = (-(c + 1)) % (n : Int) := IntWalk.i64_in _ (by omega)
    have e4 : (-(c + 1)).tmod (n : Int) = (-(c + 1)) % (n : Int) := tmod_pos _ _ (by omega)
    go_enter Tryd.func10, Tryd.ntmps10
    go_wp2
    all_goals
      go_ret
      refine ⟨?_, rfl⟩
      rw [HC.out, if_pos hneg]
      simp
  · have b1 := Int.emod_lt_of_pos c (show (0 : Int) < n by omega)
    have b2 := Int.emod_nonneg c (show (n : Int) ≠ 0 by omega)
    have e3 : IntKind.i64.wrap (c % (n : Int)) = c % (n : Int) := IntWalk.i64_in _ (by omega)
    have e4 : c.tmod (n : Int) = c % (n : Int) := tmod_pos _ _ (by omega)
    go_enter Tryd.func10, Tryd.ntmps10
    go_wp2
    all_goals
      go_ret
      refine ⟨?_, rfl⟩
      rw [HC.out, if_neg (by omega)]
      simp

set_option maxHeartbeats 8000000 in
theorem effect_any (i : Cd.In) (hop : 1 ≤ i.op ∧ i.op ≤ 18) (ha : i.op = 13 → 1 ≤ i.a ∧ i.a ≤ 22) (hl : -9223372036854775808 ≤ i.a) (hc : i.a ≤ 9223372036854775806) : Calls Tryd.prog 11 #[.agg #[.int .u8 i.op, .int .i64 i.a]] w fun e w' => e = .returned (.tuple #[.int .i64 (Cd.took i), .int .i64 (Cd.puts i)]) ∧ Same [] w w' := by
  obtain ⟨op, a⟩ := i
  dsimp only at *
  by_cases h13 : op = 13
  · subst h13
    obtain ⟨a1, a2⟩ := ha rfl
    have h22 : a = 1 ∨ a = 2 ∨ a = 3 ∨ a = 4 ∨ a = 5 ∨ a = 6 ∨ a = 7 ∨ a = 8 ∨ a = 9 ∨ a = 10 ∨ a = 11 ∨ a = 12 ∨ a = 13 ∨ a = 14 ∨ a = 15 ∨ a = 16 ∨ a = 17 ∨ a = 18 ∨ a = 19 ∨ a = 20 ∨ a = 21 ∨ a = 22 := by omega
    clear ha hop hl hc a1 a2
    rcases h22 with rfl | rfl | rfl | rfl | rfl | rfl | rfl | rfl | rfl | rfl | rfl | rfl | rfl | rfl | rfl | rfl | rfl | rfl | rfl | rfl | rfl | rfl
    all_goals
      go_enter Tryd.func11, Tryd.ntmps11
      go_wp2
      go_ret2
      exact ⟨rfl, (Same.refl _ _).alloc _⟩
  · clear ha
    rcases ops18 hop with rfl | rfl | rfl | rfl | rfl | rfl | rfl | rfl | rfl | rfl | rfl | rfl | rfl | rfl | rfl | rfl | rfl | rfl
    all_goals first
      | exact absurd rfl h13
      | (clear hop h13
         go_enter Tryd.func11, Tryd.ntmps11
         go_wp2
         go_ret2
         exact ⟨rfl, (Same.refl _ _).alloc _⟩)
end Ck
end Go.Proofs.YticaipedpcmhfaaDoor
