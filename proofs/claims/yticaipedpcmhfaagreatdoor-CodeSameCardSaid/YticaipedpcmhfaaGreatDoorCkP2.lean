/- Layer 1, package words: Make. -/
import Derived.Test.YticaipedpcmhfaaGreatDoorCkW1
import Derived.Test.YticaipedpcmhfaaGreatDoorCd
namespace Go.Proofs.YticaipedpcmhfaaGreatDoor
open Go.RowKit Hp
namespace Ck
variable {w w' : World}

theorem or_word (n : Int) (t : Nat) (ht : t ≤ 15) : bits .or .u64 (IntKind.u64.wrap (IntKind.u64.wrap n * 16)) (t : Int) = Cd.wordOf t n := by
  rw [IntKind.wrap_u64, IntKind.wrap_u64]
  obtain ⟨z, hz⟩ : ∃ z : Nat, (n % 18446744073709551616 * 16) % 18446744073709551616 = ((16 * z : Nat) : Int) := ⟨((n % 18446744073709551616 * 16) % 18446744073709551616 / 16).toNat, by omega⟩
  have hlt : 16 * z < 18446744073709551616 := by omega
  have hle : 16 * z + 16 ≤ 18446744073709551616 := by omega
  have e1 : (n % 18446744073709551616 * 16) % 18446744073709551616 = ((16 * z : Nat) : Int) := hz
  rw [show ((18446744073709551616 : Int)) = 18446744073709551616 from rfl] at *
  rw [e1, u64_or_nat (16 * z) t hlt (by omega)]
  have h2 := Nat.two_pow_add_eq_or_of_lt (i := 4) (b := t) (by omega) z
  rw [show (2 : Nat) ^ 4 = 16 from rfl] at h2
  rw [← h2]
  unfold Cd.wordOf
  push_cast at *
  omega

set_option maxHeartbeats 1000000 in
theorem make_any (t : Nat) (n : Int) (ht : 1 ≤ t ∧ t ≤ 8) (hn : in64 n) (h : Vars w) : Calls Tryz.prog 85 #[.int .u8 t, .int .i64 n] w fun e w' => e = .returned (.tuple (if Cd.may t n then #[.int .u64 (Cd.wordOf t n), .int .i64 0] else #[.int .u64 0, .int .i64 11])) ∧ w = w' := by
  have hm := may_any t n ht.2 h
  obtain ⟨h1, h2⟩ := ht
  obtain ⟨h3, h4⟩ := hn
  clear h
  cases hb : Cd.may t n
  · rw [hb] at hm
    clear hb
    go_enter Tryz.func85, Tryz.ntmps85
    go_wp2_with (go_at_call 113; refine hm.mono ?_; rintro e w' ⟨rfl, rfl⟩)
    go_ret2
    exact ⟨rfl, rfl⟩
  · rw [hb] at hm
    have hr : -576460752303423488 ≤ n ∧ n ≤ 2305843009213693951 := by
      unfold Cd.may Cd.least Cd.most at hb
      rw [decide_eq_true_eq] at hb
      obtain ⟨a, b⟩ := hb
      repeat' split at a
      all_goals (repeat' split at b) <;> omega
    clear hb
    go_enter Tryz.func85, Tryz.ntmps85
    go_wp2_with (go_at_call 113; refine hm.mono ?_; rintro e w' ⟨rfl, rfl⟩)
    go_ret2
    refine ⟨?_, rfl⟩
    rw [← or_word n t (by omega)]
    rfl
end Ck
end Go.Proofs.YticaipedpcmhfaaGreatDoor
