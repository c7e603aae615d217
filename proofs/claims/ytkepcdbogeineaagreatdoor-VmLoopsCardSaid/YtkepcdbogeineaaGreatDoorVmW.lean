/- Layer 1, package words, and what package vm makes of it: words and their numbers. -/
import Derived.Test.YtkepcdbogeineaaGreatDoorCkW1
import Derived.Deep.DeepCutAuto
import Derived.WalkSmall
namespace Go.Proofs.YtkepcdbogeineaaGreatDoor
open Go.RowKit Hp
namespace Ck
variable {w w' : World}

theorem or_word (n : Int) (t : Nat) (ht : t ≤ 15) : bits .or .u64 (IntKind.u64.wrap (IntKind.u64.wrap n * 16)) (t : Int) = Cd.wordOf t n := by
  rw [IntKind.wrap_u64, IntKind.wrap_u64]
  obtain ⟨z, hz⟩ : ∃ z : Nat, (n % 18446744073709551616 * 16) % 18446744073709551616 = ((16 * z : Nat) : Int) := ⟨((n % 18446744073709551616 * 16) % 18446744073709551616 / 16).toNat, by omega⟩
  have hlt : 16 * z < 18446744073709551616 := by omega
  have hle : 16 * z + 16 ≤ 18446744073709551616 := by omega
  have e1 : (n % 18446744073709551616 * 16) % 18446744073709551616 = ((16 * z : Nat) : Int) := hz
  rw [show ((18446744073709551616 : Int)) = 18446744073709551616 from rfl] at *
  rw [e1, u64_or_nat (16 * z) t hlt (by omega)]
  have h2 := Nat.two_pow_add_eq_or_of_lt (i := 4) (b := t) (by omega) z
  rw [show (2 : Nat) ^ 4 = 16 from rfl] at h2
  rw [← h2]
  unfold Cd.wordOf
  push_cast at *
  omega

set_option maxHeartbeats 1000000 in
theorem make_any (t : Nat) (n : Int) (ht : 1 ≤ t ∧ t ≤ 8) (hn : in64 n) (h : Vars w) : Calls Tryz.prog 9 #[.int .u8 t, .int .i64 n] w fun e w' => e = .returned (.tuple (if Cd.may t n then #[.int .u64 (Cd.wordOf t n), .int .i64 0] else #[.int .u64 0, .int .i64 11])) ∧ w = w' := by
  have hm := may_any t n ht.2 h
  obtain ⟨h1, h2⟩ := ht
  obtain ⟨h3, h4⟩ := hn
  clear h
  cases hb : Cd.may t n
  · rw [hb] at hm
    clear hb
    go_enter Tryz.func9, Tryz.ntmps9
    go_wp2_with (go_at_call 27; refine hm.mono ?_; rintro e w' ⟨rfl, rfl⟩)
    go_ret2
    exact ⟨rfl, rfl⟩
  · rw [hb] at hm
    have hr : -576460752303423488 ≤ n ∧ n ≤ 2305843009213693951 := by
      unfold Cd.may Cd.least Cd.most at hb
      rw [decide_eq_true_eq] at hb
      obtain ⟨a, b⟩ := hb
      repeat' split at a
      all_goals (repeat' split at b) <;> omega
    clear hb
    go_enter Tryz.func9, Tryz.ntmps9
    go_wp2_with (go_at_call 27; refine hm.mono ?_; rintro e w' ⟨rfl, rfl⟩)
    go_ret2
    refine ⟨?_, rfl⟩
    rw [← or_word n t (by omega)]
    rfl

def ofT' (x : Int) : Int := if Cd.isWord x then Cd.wordT x else 0
def ofN' (x : Int) : Int := if Cd.isWord x then Cd.wordN x else 0
theorem of_any' (x : Int) (hx : 0 ≤ x ∧ x < 18446744073709551616) (h : Vars w) : Calls Tryz.prog 62 #[.int .u64 x] w fun e w' => e = .returned (.tuple #[.int .u8 (ofT' x), .int .i64 (ofN' x), .bool (Cd.isWord x)]) ∧ w = w' := by
  refine (of_any x hx h).mono ?_
  rintro e w' ⟨rfl, rfl⟩
  refine ⟨?_, rfl⟩
  unfold ofT' ofN'
  cases Cd.isWord x <;> simp


theorem wordOf_in (t n : Int) : 0 ≤ Cd.wordOf t n ∧ Cd.wordOf t n < 18446744073709551616 := by unfold Cd.wordOf; omega
/-- Make's first result. -/
def mkW (t : Nat) (n : Int) : Int := if Cd.may t n then Cd.wordOf t n else 0
theorem mkW_in (t : Nat) (n : Int) : 0 ≤ mkW t n ∧ mkW t n < 18446744073709551616 := by
  unfold mkW; split
  · exact wordOf_in _ _
  · omega
def mkE (t : Nat) (n : Int) : Int := if Cd.may t n then 0 else 11
theorem make_two (t : Nat) (n : Int) (ht : 1 ≤ t ∧ t ≤ 8) (hn : in64 n) (h : Vars w) : Calls Tryz.prog 9 #[.int .u8 t, .int .i64 n] w fun e w' => e = .returned (.tuple #[.int .u64 (mkW t n), .int .i64 (mkE t n)]) ∧ w = w' := by
  refine (make_any t n ht hn h).mono ?_
  rintro e w' ⟨rfl, rfl⟩
  refine ⟨?_, rfl⟩
  unfold mkW mkE
  cases Cd.may t n <;> simp

set_option maxHeartbeats 1000000 in
set_option maxRecDepth 100000 in
theorem int_any (n : Int) (hn : in64 n) (hv : Vars w) : Calls Tryz.prog 23 #[.int .i64 n] w fun e w' => e = .returned (.tuple #[.int .u64 (mkW 5 n), .int .i64 (mkE 5 n)]) ∧ w = w' := by
  have HM := Lib.hid (make_two (w := w) 5 n (by omega) hn hv)
  obtain ⟨a, ha⟩ : ∃ a, a = mkW 5 n := ⟨_, rfl⟩
  obtain ⟨b, hb⟩ : ∃ b, b = mkE 5 n := ⟨_, rfl⟩
  rw [← ha, ← hb] at HM ⊢
  clear hv ha hb hn
  go_enter Tryz.func23, Tryz.ntmps23
  go_wp2_with fail
  refine HM.out.mono ?_
  rintro e w2 ⟨rfl, rfl⟩
  go_wp2_with fail
  refine bodyPost_ret (v := .tuple #[.int .u64 a, .int .i64 b]) (by simp [results, Tryz.results23, go_sem]) rfl ?_
  exact ⟨rfl, rfl⟩

set_option maxHeartbeats 1000000 in
set_option maxRecDepth 100000 in
theorem ref_any (n : Int) (hn : in64 n) (hv : Vars w) : Calls Tryz.prog 25 #[.int .i64 n] w fun e w' => e = .returned (.int .u64 (mkW 8 n)) ∧ w = w' := by
  have HM := Lib.hid (make_two (w := w) 8 n (by omega) hn hv)
  obtain ⟨a, ha⟩ : ∃ a, a = mkW 8 n := ⟨_, rfl⟩
  obtain ⟨b, hb⟩ : ∃ b, b = mkE 8 n := ⟨_, rfl⟩
  rw [← ha, ← hb] at HM
  rw [← ha]
  clear hv ha hb hn
  go_enter Tryz.func25, Tryz.ntmps25
  go_wp2_with fail
  refine HM.out.mono ?_
  rintro e w2 ⟨rfl, rfl⟩
  go_wp2_with fail
  go_ret
  exact ⟨rfl, rfl⟩

set_option maxHeartbeats 1000000 in
set_option maxRecDepth 100000 in
theorem vnum_any (n : Int) (hn : in64 n) (hv : Vars w) : Calls Tryz.prog 78 #[.int .i64 n] w fun e w' => e = .returned (.int .u64 (mkW 5 n)) ∧ w = w' := by
  have HM := Lib.hid (int_any (w := w) n hn hv)
  obtain ⟨a, ha⟩ : ∃ a, a = mkW 5 n := ⟨_, rfl⟩
  obtain ⟨b, hb⟩ : ∃ b, b = mkE 5 n := ⟨_, rfl⟩
  rw [← ha, ← hb] at HM
  rw [← ha]
  clear hv ha hb hn
  go_enter Tryz.func78, Tryz.ntmps78
  go_wp2_with fail
  refine HM.out.mono ?_
  rintro e w2 ⟨rfl, rfl⟩
  go_wp2_with fail
  go_ret
  exact ⟨rfl, rfl⟩

set_option maxHeartbeats 1000000 in
set_option maxRecDepth 100000 in
theorem plain_any (t : Nat) (ht : 1 ≤ t ∧ t ≤ 8) (hv : Vars w) : Calls Tryz.prog 72 #[.int .u8 t] w fun e w' => e = .returned (.int .u64 (mkW t 0)) ∧ w = w' := by
  have HM := Lib.hid (make_two (w := w) t 0 ht (by unfold in64; omega) hv)
  obtain ⟨a, ha⟩ : ∃ a, a = mkW t 0 := ⟨_, rfl⟩
  obtain ⟨b, hb⟩ : ∃ b, b = mkE t 0 := ⟨_, rfl⟩
  rw [← ha, ← hb] at HM
  rw [← ha]
  clear hv ha hb ht
  go_enter Tryz.func72, Tryz.ntmps72
  go_wp2_with fail
  refine HM.out.mono ?_
  rintro e w2 ⟨rfl, rfl⟩
  go_wp2_with fail
  go_ret
  exact ⟨rfl, rfl⟩

set_option maxHeartbeats 1000000 in
set_option maxRecDepth 100000 in
theorem integer_any (x : Int) (hx : 0 ≤ x ∧ x < 18446744073709551616) (hv : Vars w) : Calls Tryz.prog 93 #[.int .u64 x] w fun e w' => e = .returned (.tuple #[.int .i64 (ofN' x), .bool (ofT' x == 5)]) ∧ w = w' := by
  have HM := Lib.hid (of_any' (w := w) x hx hv)
  obtain ⟨a, ha⟩ : ∃ a, a = ofT' x := ⟨_, rfl⟩
  obtain ⟨b, hb⟩ : ∃ b, b = ofN' x := ⟨_, rfl⟩
  obtain ⟨k, hk⟩ : ∃ k, k = Cd.isWord x := ⟨_, rfl⟩
  rw [← ha, ← hb, ← hk] at HM
  rw [← ha, ← hb]
  clear hv ha hb hk hx
  go_enter Tryz.func93, Tryz.ntmps93
  go_wp2_with fail
  refine HM.out.mono ?_
  rintro e w2 ⟨rfl, rfl⟩
  go_wp2_with fail
  go_ret2
  exact ⟨rfl, rfl⟩

def cellN (x : Int) : Int := if ofT' x = 8 then ofN' x else 0
def cellI (x : Int) : Bool := decide (ofT' x = 8)
set_option maxHeartbeats 1000000 in
set_option maxRecDepth 100000 in
theorem cellOf_any (x : Int) (hx : 0 ≤ x ∧ x < 18446744073709551616) (hv : Vars w) : Calls Tryz.prog 34 #[.int .u64 x] w fun e w' => e = .returned (.tuple #[.int .i64 (cellN x), .bool (cellI x)]) ∧ w = w' := by
  have HM := Lib.hid (of_any' (w := w) x hx hv)
  unfold cellN cellI
  obtain ⟨a, ha⟩ : ∃ a, a = ofT' x := ⟨_, rfl⟩
  obtain ⟨b, hb⟩ : ∃ b, b = ofN' x := ⟨_, rfl⟩
  obtain ⟨k, hk⟩ : ∃ k, k = Cd.isWord x := ⟨_, rfl⟩
  rw [← ha, ← hb, ← hk] at HM
  rw [← ha, ← hb]
  clear hv ha hb hk hx
  by_cases h8 : a = 8
  · subst h8
    go_enter Tryz.func34, Tryz.ntmps34
    go_wp2_with fail
    refine HM.out.mono ?_
    rintro e w2 ⟨rfl, rfl⟩
    go_wp2_with fail
    go_ret2
    exact ⟨rfl, rfl⟩
  · have hne : (a != 8) = true := by simpa using h8
    rw [if_neg h8, decide_eq_false h8]
    go_enter Tryz.func34, Tryz.ntmps34
    go_wp2_with fail
    refine HM.out.mono ?_
    rintro e w2 ⟨rfl, rfl⟩
    go_wp2_with fail
    go_ret2
    exact ⟨rfl, rfl⟩

set_option maxHeartbeats 1000000 in
set_option maxRecDepth 100000 in
theorem need_yes (er : Int) : Calls Tryz.prog 33 #[.bool true, .int .i64 er] w fun e w' => e = .returned (.tuple #[]) ∧ w = w' := by
  go_enter Tryz.func33, Tryz.ntmps33
  go_wp2
  go_end0
  exact ⟨rfl, rfl⟩
set_option maxHeartbeats 1000000 in
set_option maxRecDepth 100000 in
theorem fails_any (er : Int) : Calls Tryz.prog 61 #[.int .i64 er] w fun e w' => e = .panicked [{ v := .iface 88 (.agg #[.int .i64 er]), recovered := false }] ∧ w = w' := by
  go_enter Tryz.func61, Tryz.ntmps61
  go_wp2
  exact ⟨rfl, rfl, rfl⟩
set_option maxHeartbeats 1000000 in
set_option maxRecDepth 100000 in
theorem need_no (er : Int) : Calls Tryz.prog 33 #[.bool false, .int .i64 er] w fun e w' => e = .panicked [{ v := .iface 88 (.agg #[.int .i64 er]), recovered := false }] ∧ w = w' := by
  go_enter Tryz.func33, Tryz.ntmps33
  go_wp2_with fail
  refine (fails_any er).mono ?_
  rintro e w2 ⟨rfl, rfl⟩
  exact ⟨rfl, rfl, rfl⟩
end Ck
end Go.Proofs.YtkepcdbogeineaaGreatDoor
