/- Layer 8, package code: stack, bounds. -/
import Derived.Test.YtkepcdbogeineaaGreatDoorCkV
import Derived.Deep.QuietTactic
import Derived.BigQuiet
namespace Go.Proofs.YtkepcdbogeineaaGreatDoor
open Go.RowKit Hp
namespace Ck
variable {w : World}

theorem ops18 {op : Int} (h : 1 ≤ op ∧ op ≤ 18) : op = 1 ∨ op = 2 ∨ op = 3 ∨ op = 4 ∨ op = 5 ∨ op = 6 ∨ op = 7 ∨ op = 8 ∨ op = 9 ∨ op = 10 ∨ op = 11 ∨ op = 12 ∨ op = 13 ∨ op = 14 ∨ op = 15 ∨ op = 16 ∨ op = 17 ∨ op = 18 := by omega

set_option maxHeartbeats 4000000 in
theorem stack_any (i : Cd.In) (hop : 1 ≤ i.op ∧ i.op ≤ 18) (ha : i.op = 13 → 1 ≤ i.a ∧ i.a ≤ 22) (hl : -9223372036854775808 ≤ i.a) (hc : i.a ≤ 9223372036854775806) (h : Vars w) : Calls Tryz.prog 67 #[.agg #[.int .u8 i.op, .int .i64 i.a]] w fun e w' => e = .returned (.tuple #[.int .i64 (Cd.took i), .int .i64 (Cd.puts i)]) ∧ Same [] w w' := by
  obtain ⟨op, a⟩ := i
  dsimp only at *
  by_cases h13 : op = 13
  · subst h13
    obtain ⟨a1, a2⟩ := ha rfl
    obtain ⟨k, rfl⟩ : ∃ k : Nat, a = k := ⟨a.toNat, by omega⟩
    have ht := h.takes k (by omega)
    have hz : 1 < w.heap.size := Nat.lt_of_lt_of_le (by decide) h.size
    clear ha h
    go_enter Tryz.func67, Tryz.ntmps67
    go_wp2
    go_ret2
    exact ⟨rfl, (Same.refl _ _).alloc _⟩
  · clear ha h
    rcases ops18 hop with rfl | rfl | rfl | rfl | rfl | rfl | rfl | rfl | rfl | rfl | rfl | rfl | rfl | rfl | rfl | rfl | rfl | rfl
    all_goals first
      | exact absurd rfl h13
      | (clear hop h13
         go_enter Tryz.func67, Tryz.ntmps67
         go_wp2
         go_ret2
         exact ⟨rfl, (Same.refl _ _).alloc _⟩)

/-- What bounds answers of an instruction. -/
theorem bounds_is (cv pv gv : Value) (c : Cd.Co) (n : Nat) (hn : n ≤ 9223372036854775807) (hr : RCoAt w cv pv gv c) (op : Int) (hop : 1 ≤ op ∧ op ≤ 18) : Calls Tryz.prog 65 #[.agg #[cv, pv, gv], .int .u8 op, .int .i64 n] w fun e w' => e = .returned (.tuple #[.int .i64 (Cd.lo op), .int .i64 (Cd.hi c op n), .bool true]) ∧ Same [] w w' := by
  obtain ⟨A1, c1, rfl, k1, m1, _⟩ := hr.consts
  obtain ⟨kv, ⟨A2, c2, rfl, k2, m2, _⟩, _⟩ := hr.procs
  obtain ⟨A3, c3, rfl, k3, m3, _⟩ := hr.globals
  clear hr
  unfold maxLen at m1 m2 m3
  rcases ops18 hop with rfl | rfl | rfl | rfl | rfl | rfl | rfl | rfl | rfl | rfl | rfl | rfl | rfl | rfl | rfl | rfl | rfl | rfl
  all_goals
    clear hop
    go_enter Tryz.func65, Tryz.ntmps65
    go_wp2
    first
      | (go_quiet (fail)
         go_wp2
         go_ret3
         exact ⟨rfl, ((Same.refl _ _).alloc _).drewN _⟩)
      | (go_ret3
         exact ⟨rfl, (Same.refl _ _).alloc _⟩)

/-- No such instruction. -/
theorem bounds_not (cv pv gv : Value) (n : Nat) (op : Int) (h0 : 0 ≤ op ∧ op ≤ 255) (hop : Cd.isOp op = false) : Calls Tryz.prog 65 #[.agg #[cv, pv, gv], .int .u8 op, .int .i64 n] w fun e w' => e = .returned (.tuple #[.int .i64 0, .int .i64 0, .bool false]) ∧ Same [] w w' := by
  have hq : op < 1 ∨ 18 < op := by simp [Cd.isOp] at hop; omega
  have hne : ∀ k : Int, 1 ≤ k → k ≤ 18 → (op == k) = false := fun k h1 h2 => by rw [beq_eq_false_iff_ne]; omega
  have f1 := hne 1 (by omega) (by omega)
  have f2 := hne 2 (by omega) (by omega)
  have f3 := hne 3 (by omega) (by omega)
  have f4 := hne 4 (by omega) (by omega)
  have f5 := hne 5 (by omega) (by omega)
  have f6 := hne 6 (by omega) (by omega)
  have f7 := hne 7 (by omega) (by omega)
  have f8 := hne 8 (by omega) (by omega)
  have f9 := hne 9 (by omega) (by omega)
  have f10 := hne 10 (by omega) (by omega)
  have f11 := hne 11 (by omega) (by omega)
  have f12 := hne 12 (by omega) (by omega)
  have f13 := hne 13 (by omega) (by omega)
  have f14 := hne 14 (by omega) (by omega)
  have f15 := hne 15 (by omega) (by omega)
  have f16 := hne 16 (by omega) (by omega)
  have f17 := hne 17 (by omega) (by omega)
  have f18 := hne 18 (by omega) (by omega)
  clear hne hq hop
  go_enter Tryz.func65, Tryz.ntmps65
  go_wp2
  go_ret3
  exact ⟨rfl, (Same.refl _ _).alloc _⟩
end Ck
end Go.Proofs.YtkepcdbogeineaaGreatDoor
