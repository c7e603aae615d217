/- The document's words, and what the toy tells as shaded. -/
import Derived.Test.YtkepcdbogeineaaGreatDoorCkW2
import Derived.Test.YtkepcdbogeineaaGreatDoorVmW
import Derived.Test.YtkepcdbogeineaaGreatDoorVmT
import Derived.Deep.LoopGhost
import Derived.Deep.AppendLies
namespace Go.Proofs.YtkepcdbogeineaaGreatDoor
open Go.RowKit Hp
namespace Ck
variable {w w' : World}

set_option maxHeartbeats 1000000 in
theorem mayR_any (t : Nat) (n : Int) (ht : t ≤ 15) : Calls Tryz.prog 154 #[.int .u8 t, .int .i64 n] w fun e w' => e = .returned (.bool (decide (1 ≤ t ∧ t ≤ 8) && Cd.may t n)) ∧ w = w' := by
  have h : t = 0 ∨ t = 1 ∨ t = 2 ∨ t = 3 ∨ t = 4 ∨ t = 5 ∨ t = 6 ∨ t = 7 ∨ t = 8 ∨ t = 9 ∨ t = 10 ∨ t = 11 ∨ t = 12 ∨ t = 13 ∨ t = 14 ∨ t = 15 := by omega
  clear ht
  rcases h with rfl | rfl | rfl | rfl | rfl | rfl | rfl | rfl | rfl | rfl | rfl | rfl | rfl | rfl | rfl | rfl
  all_goals
    go_enter Tryz.func154, Tryz.ntmps154
    go_wp2_with fail
    all_goals
      go_ret
      exact ⟨ret_bool (by rw [Bool.eq_iff_iff]; simp [Cd.may, Cd.least, Cd.most]; try omega), rfl⟩

set_option maxHeartbeats 1000000 in
theorem ofR_any (x : Int) (hx : 0 ≤ x ∧ x < 18446744073709551616) : Calls Tryz.prog 153 #[.int .u64 x] w fun e w' => e = .returned (.tuple (if Cd.isWord x then #[.int .u8 (Cd.wordT x), .int .i64 (Cd.wordN x), .bool true] else #[.int .u8 0, .int .i64 0, .bool false])) ∧ w = w' := by
  obtain ⟨t, hT, ht⟩ : ∃ t : Nat, Cd.wordT x = t ∧ t ≤ 15 := ⟨(Cd.wordT x).toNat, by unfold Cd.wordT; omega, by unfold Cd.wordT; omega⟩
  obtain ⟨q, hq⟩ : ∃ q : Int, x / 16 = q := ⟨_, rfl⟩
  obtain ⟨h1, h2⟩ := hx
  have hN : Cd.wordN x = if 576460752303423487 < q then q - 1152921504606846976 else q := by
    unfold Cd.wordN Cd.signed
    split <;> split <;> omega
  have hW : Cd.isWord x = (decide (1 ≤ t ∧ t ≤ 8) && Cd.may t (Cd.wordN x)) := by
    unfold Cd.isWord
    rw [hT]
    congr 1
    rw [decide_eq_decide]; omega
  rw [hW, hT]
  have hq1 : 0 ≤ q := by omega
  have hq2 : q < 1152921504606846976 := by omega
  have hm : (x % 16 : Int) = t := hT
  obtain ⟨n, hn⟩ : ∃ n, Cd.wordN x = n := ⟨_, rfl⟩
  rw [hn]
  rw [hn] at hN
  have HM := fun W => mayR_any (w := W) t n ht
  obtain ⟨g, hg⟩ : ∃ g, (decide (1 ≤ t ∧ t ≤ 8) && Cd.may t n) = g := ⟨_, rfl⟩
  rw [hg] at HM ⊢
  have hB : (t : Int) % 256 = t := by omega
  clear hW hT hn hg
  by_cases c : 576460752303423487 < q
  · rw [if_pos c] at hN
    subst hN
    cases g
    all_goals
      go_enter Tryz.func153, Tryz.ntmps153
      go_wp2_with (go_at_call 154; refine (HM _).mono ?_; rintro e w' ⟨rfl, rfl⟩)
      go_ret3
      exact ⟨rfl, rfl⟩
  · rw [if_neg c] at hN
    subst hN
    cases g
    all_goals
      go_enter Tryz.func153, Tryz.ntmps153
      go_wp2_with (go_at_call 154; refine (HM _).mono ?_; rintro e w' ⟨rfl, rfl⟩)
      go_ret3
      exact ⟨rfl, rfl⟩


theorem ofR_any' (x : Int) (hx : 0 ≤ x ∧ x < 18446744073709551616) : Calls Tryz.prog 153 #[.int .u64 x] w fun e w' => e = .returned (.tuple #[.int .u8 (ofT' x), .int .i64 (ofN' x), .bool (Cd.isWord x)]) ∧ w = w' := by
  refine (ofR_any x hx).mono ?_
  rintro e w' ⟨rfl, rfl⟩
  refine ⟨?_, rfl⟩
  unfold ofT' ofN'
  cases Cd.isWord x <;> simp

set_option maxHeartbeats 1000000 in
set_option maxRecDepth 100000 in
theorem cellR_any (x : Int) (hx : 0 ≤ x ∧ x < 18446744073709551616) : Calls Tryz.prog 152 #[.int .u64 x] w fun e w' => e = .returned (.tuple #[.int .i64 (cellN x), .bool (cellI x)]) ∧ w = w' := by
  have HM := Lib.hid (ofR_any' (w := w) x hx)
  have hk8 : Cd.isWord x = false → ofT' x = 0 := fun h => by unfold ofT'; rw [h]; rfl
  unfold cellN cellI
  obtain ⟨a, ha⟩ : ∃ a, a = ofT' x := ⟨_, rfl⟩
  obtain ⟨b, hb⟩ : ∃ b, b = ofN' x := ⟨_, rfl⟩
  obtain ⟨k, hk⟩ : ∃ k, k = Cd.isWord x := ⟨_, rfl⟩
  rw [← ha, ← hb, ← hk] at HM
  rw [← ha, ← hb]
  rw [← ha, ← hk] at hk8
  clear ha hb hk hx
  cases k
  · have h0 := hk8 rfl
    subst h0
    clear hk8
    go_enter Tryz.func152, Tryz.ntmps152
    go_wp2_with fail
    refine HM.out.mono ?_
    rintro e w2 ⟨rfl, rfl⟩
    go_wp2_with fail
    go_ret2
    exact ⟨rfl, rfl⟩
  · clear hk8
    by_cases h8 : a = 8
    · subst h8
      go_enter Tryz.func152, Tryz.ntmps152
      go_wp2_with fail
      refine HM.out.mono ?_
      rintro e w2 ⟨rfl, rfl⟩
      go_wp2_with fail
      go_ret2
      exact ⟨rfl, rfl⟩
    · have hne : (a != 8) = true := by simpa using h8
      rw [if_neg h8, decide_eq_false h8]
      go_enter Tryz.func152, Tryz.ntmps152
      go_wp2_with fail
      refine HM.out.mono ?_
      rintro e w2 ⟨rfl, rfl⟩
      go_wp2_with fail
      go_ret2
      exact ⟨rfl, rfl⟩
end Ck
end Go.Proofs.YtkepcdbogeineaaGreatDoor
