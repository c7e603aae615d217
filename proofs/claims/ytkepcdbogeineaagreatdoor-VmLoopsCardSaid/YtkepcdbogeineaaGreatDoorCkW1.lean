/- Layer 1, package words: may, Of, Make, Int, as the tables have them. -/
import Derived.Test.YtkepcdbogeineaaGreatDoorCkV
namespace Go.Proofs.YtkepcdbogeineaaGreatDoor
open Go.RowKit Hp
namespace Ck
variable {w : World}

set_option maxHeartbeats 400000 in
theorem may_any (t : Nat) (n : Int) (ht : t ≤ 8) (h : Vars w) : Calls Tryz.prog 27 #[.int .u8 t, .int .i64 n] w fun e w' => e = .returned (.bool (Cd.may t n)) ∧ w = w' := by
  have h1 := h.lo t ht
  have h2 := h.hi t ht
  clear h
  by_cases c1 : Cd.least t ≤ n
  · have e : Cd.may t n = decide (n ≤ Cd.most t) := by simp [Cd.may, c1]
    rw [e]
    clear e
    go_enter Tryz.func27, Tryz.ntmps27
    go_wp2
    go_ret
    exact ⟨rfl, rfl⟩
  · have e : Cd.may t n = false := by simp [Cd.may, c1]
    rw [e]
    have c3 : n < Cd.least t := by omega
    clear e c1
    go_enter Tryz.func27, Tryz.ntmps27
    go_wp2
    go_ret
    exact ⟨rfl, rfl⟩

theorem and15 (x : Int) (hx : 0 ≤ x ∧ x < 18446744073709551616) : bits .and .u64 x 15 = x % 16 := bits_mask .u64 64 (by decide) (fun n h0 h1 => by simp [IntKind.wrap, IntKind.bits, IntKind.signed]; omega) 4 (by decide) x hx.1 hx.2

theorem signed_eq (x : Int) (hx : 0 ≤ x ∧ x < 18446744073709551616) : wrap64 x = Cd.signed x := by
  unfold wrap64 Cd.signed
  split <;> omega

set_option maxHeartbeats 400000 in
theorem of_any (x : Int) (hx : 0 ≤ x ∧ x < 18446744073709551616) (h : Vars w) : Calls Tryz.prog 62 #[.int .u64 x] w fun e w' => e = .returned (.tuple (if Cd.isWord x then #[.int .u8 (Cd.wordT x), .int .i64 (Cd.wordN x), .bool true] else #[.int .u8 0, .int .i64 0, .bool false])) ∧ w = w' := by
  have hA := and15 x hx
  have hN : wrap64 x / 16 = Cd.wordN x := by rw [signed_eq x hx]; rfl
  have hT : ∃ t : Nat, Cd.wordT x = t ∧ t ≤ 15 := ⟨(Cd.wordT x).toNat, by unfold Cd.wordT; omega, by unfold Cd.wordT; omega⟩
  obtain ⟨t, hT, ht⟩ := hT
  have hA' : bits .and .u64 x 15 = (t : Int) := by rw [hA]; exact hT
  have hB : (t : Int) % 256 = t := by omega
  obtain ⟨n, hn⟩ : ∃ n, Cd.wordN x = n := ⟨_, rfl⟩
  rw [hn] at hN
  have hW : Cd.isWord x = (decide (1 ≤ t ∧ t ≤ 8) && Cd.may t n) := by
    unfold Cd.isWord
    rw [hT, hn]
    congr 1
    rw [decide_eq_decide]; omega
  rw [hW, hT, hn]
  clear hW hT hA hn
  by_cases c : 1 ≤ t ∧ t ≤ 8
  · obtain ⟨c1, c2⟩ := c
    have cd : decide (1 ≤ t ∧ t ≤ 8) = true := by simp [c1, c2]
    rw [cd, Bool.true_and]
    clear cd
    have hm := may_any t n c2 h
    clear h
    cases hb : Cd.may t n
    all_goals
      rw [hb] at hm
      clear hb
      go_enter Tryz.func62, Tryz.ntmps62
      go_wp2_with (go_at_call 27; refine hm.mono ?_; rintro e w' ⟨rfl, rfl⟩)
      go_ret3
      exact ⟨rfl, rfl⟩
  · have cd : decide (1 ≤ t ∧ t ≤ 8) = false := by simpa using c
    rw [cd, Bool.false_and]
    clear cd h
    by_cases c1 : 1 ≤ t
    · have c2 : 8 < t := by omega
      clear c
      go_enter Tryz.func62, Tryz.ntmps62
      go_wp2_with fail
      go_ret3
      exact ⟨rfl, rfl⟩
    · have c2 : t < 1 := by omega
      clear c c1
      go_enter Tryz.func62, Tryz.ntmps62
      go_wp2_with fail
      go_ret3
      exact ⟨rfl, rfl⟩
end Ck
end Go.Proofs.YtkepcdbogeineaaGreatDoor
