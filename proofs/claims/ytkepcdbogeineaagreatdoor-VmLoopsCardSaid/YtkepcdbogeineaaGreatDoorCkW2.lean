/- Layer 5, package lex: isWord, isDigit, digits, number, word, IsSymbol. -/
import Derived.Test.YtkepcdbogeineaaGreatDoorCkV
import Derived.Test.YtkepcdbogeineaaGreatDoorCd
import Derived.Test.YtkepcdbogeineaaGreatDoorShelfD
namespace Go.Proofs.YtkepcdbogeineaaGreatDoor
open Go.RowKit Hp
namespace Ck
variable {w : World}
theorem ret_bool {a b : Bool} (h : a = b) : Ending.returned (.bool a) = .returned (.bool b) := by rw [h]
theorem byte_at (s : ByteArray) (k : Nat) (h : k < s.size) : s.data.toList[k]'(by simpa using h) = s[k] := rfl
theorem all_snoc (s : ByteArray) (p : Nat → Bool) (k : Nat) (h : k < s.size) (ha : (s.data.toList.take k).all (fun b => p b.toNat) = true) (hp : p s[k].toNat = true) : (s.data.toList.take (k + 1)).all (fun b => p b.toNat) = true := by
  rw [List.take_succ_eq_append_getElem (by simpa using h), List.all_append, ha, Bool.true_and, byte_at s k h]
  simp [hp]
theorem all_no (s : ByteArray) (p : Nat → Bool) (k : Nat) (h : k < s.size) (hp : p s[k].toNat = false) : s.data.toList.all (fun b => p b.toNat) = false := by
  rw [List.all_eq_false]
  exact ⟨s.data.toList[k]'(by simpa using h), List.getElem_mem _, by rw [byte_at s k h]; simp [hp]⟩
theorem all_end (s : ByteArray) (p : Nat → Bool) (k : Nat) (h : ¬ k < s.size) (ha : (s.data.toList.take k).all (fun b => p b.toNat) = true) : s.data.toList.all (fun b => p b.toNat) = true := by
  rwa [List.take_of_length_le (by simp; omega)] at ha
theorem ret_i64 {a b : Int} (h : a = b) : Ending.returned (.int .i64 a) = .returned (.int .i64 b) := by rw [h]

set_option maxHeartbeats 400000 in
theorem isDigit_any (n : Nat) (hn : n < 256) : Calls Tryz.prog 108 #[.int .u8 n] w fun e w' => e = .returned (.bool (Cd.isDigN n)) ∧ w = w' := by
  by_cases c : 48 ≤ n
  · have e : Cd.isDigN n = decide (n ≤ 57) := by simp [Cd.isDigN, c]
    rw [e]
    clear e
    go_enter Tryz.func108, Tryz.ntmps108
    go_wp2
    go_ret
    exact ⟨ret_bool (by rw [decide_eq_decide]; omega), rfl⟩
  · have e : Cd.isDigN n = false := by simp [Cd.isDigN, c]
    rw [e]
    have c2 : n < 48 := by omega
    clear e c
    go_enter Tryz.func108, Tryz.ntmps108
    go_wp2
    go_ret
    exact ⟨rfl, rfl⟩

set_option maxHeartbeats 400000 in
theorem isWord_any (n : Nat) (hn : n < 256) : Calls Tryz.prog 94 #[.int .u8 n] w fun e w' => e = .returned (.bool (Cd.isWordN n)) ∧ w = w' := by
  go_enter Tryz.func94, Tryz.ntmps94
  go_wp2_with fail
  all_goals
    go_ret
    exact ⟨ret_bool (by rw [Bool.eq_iff_iff]; simp [Cd.isWordN]; omega), rfl⟩

set_option maxHeartbeats 400000 in
theorem digits_any (s : ByteArray) (hs : s.size ≤ maxLen) : Calls Tryz.prog 106 #[.string s] w fun e w' => e = .returned (.bool (Cd.allDig s.data.toList)) ∧ w = w' := by
  unfold maxLen at hs
  go_enter Tryz.func106, Tryz.ntmps106
  go_wp2
  go_loop [3, 6] (fun _ i => ∃ k : Nat, k ≤ s.size ∧ i = .int .i64 k ∧ (s.data.toList.take k).all (fun b => Cd.isDigN b.toNat) = true) (fun _ i => s.size - (intOf i).toNat)
  case atStart => exact ⟨0, Nat.zero_le _, rfl, by simp⟩
  case round =>
    obtain ⟨k, hk, rfl, ha⟩ := hrel
    have HA : Hid ((s.data.toList.take k).all (fun b => Cd.isDigN b.toNat) = true) := Lib.hid ha
    clear ha
    by_cases hlt : k < s.size
    · have hc := isDigit_any (w := w) s[k].toNat s[k].toNat_lt
      cases hb : Cd.isDigN s[k].toNat
      · rw [hb] at hc
        have HB : Hid (Cd.isDigN s[k].toNat = false) := Lib.hid hb
        clear hb
        go_wp2_with (go_at_call 108; refine hc.mono ?_; rintro e w' ⟨rfl, rfl⟩)
        go_ret
        exact ⟨ret_bool (by unfold Cd.allDig; rw [all_no s _ k hlt HB.out, Bool.false_and]), rfl⟩
      · rw [hb] at hc
        have HB : Hid (Cd.isDigN s[k].toNat = true) := Lib.hid hb
        clear hb
        go_wp2_with (go_at_call 108; refine hc.mono ?_; rintro e w' ⟨rfl, rfl⟩)
        go_round
        case rel => exact ⟨k + 1, by omega, by go_num, all_snoc s _ k hlt HA.out HB.out⟩
        case measure => simp [intOf]; omega
    · go_wp2
      go_ret
      refine ⟨ret_bool ?_, rfl⟩
      unfold Cd.allDig
      rw [all_end s _ k hlt HA.out, Bool.true_and, Lib.toList_data]

/-- What comes back where digits are read: some number, some error. -/
def Num (w : World) (e : Ending) (w' : World) : Prop := ∃ n er : Int, e = .returned (.tuple #[.int .i64 n, .int .i64 er]) ∧ Same [] w w'

theorem dig_at (t : ByteArray) (k : Nat) (h : k < t.size) (ha : t.data.toList.all (fun b => Cd.isDigN b.toNat) = true) : 48 ≤ t[k].toNat ∧ t[k].toNat ≤ 57 := by
  have := List.all_eq_true.1 ha (t.data.toList[k]'(by simpa using h)) (List.getElem_mem _)
  rw [byte_at t k h] at this
  simpa [Cd.isDigN] using this

set_option maxHeartbeats 1000000 in
theorem number_any (s : ByteArray) (hs : s.size ≤ maxLen) (h0 : 0 < s.size) (hd : Cd.allDig (Cd.bare s.data.toList) = true) : Calls Tryz.prog 107 #[.string s] w (Num w) := by
  unfold maxLen at hs
  have hhead : s.data.toList = s[0] :: s.data.toList.drop 1 := by
    rw [← byte_at s 0 h0]
    exact (List.drop_eq_getElem_cons (i := 0) (by simpa using h0))
  by_cases hm : s[0].toNat = 45
  · have hm' : ((s[0].toNat : Int) == 45) = true := by rw [hm]; rfl
    obtain ⟨t, ht⟩ : ∃ t, s.extract 1 s.size = t := ⟨_, rfl⟩
    have hz : s.size - 1 = t.size := by rw [← ht]; simp
    have HD : Hid (t.data.toList.all (fun b => Cd.isDigN b.toNat) = true) := Lib.hid (by
      have hb : s[0] = 45 := by rw [← UInt8.toNat_inj, hm]; rfl
      have e : Cd.bare s.data.toList = t.data.toList := by
        rw [← ht, Lib.extract_to_end, hhead, hb]
        simp [Cd.bare, Lib.trimPrefix, Lib.hasPrefix]
      rw [e] at hd
      unfold Cd.allDig at hd
      exact (Bool.and_eq_true_iff.1 hd).1)
    clear hd hm hhead
    go_enter Tryz.func107, Tryz.ntmps107
    go_wp2
    go_region
    go_wp2
    go_loop [5, 6, 14] (fun n _ i => ∃ (z : Int) (k : Nat), k ≤ t.size ∧ i = .int .i64 k ∧ n = .int .i64 z ∧ -576460752303423488 ≤ z ∧ z ≤ 0) (fun _ _ i => t.size - (intOf i).toNat)
    case atStart => exact ⟨0, 0, Nat.zero_le _, rfl, rfl, by omega, by omega⟩
    case round =>
      obtain ⟨z, k, hk, rfl, rfl, hz1, hz2⟩ := hrel
      by_cases hlt : k < t.size
      · obtain ⟨hd1, hd2⟩ := dig_at t k hlt HD.out
        have hb : (((t[k].toNat : Nat) : Int) - 48) % 256 = t[k].toNat - 48 := by omega
        by_cases hc : 10 * z - (t[k].toNat - 48) < -576460752303423488
        · go_wp2
          go_ret2
          exact ⟨_, _, rfl, (Same.refl [] _).drew⟩
        · have hc' : -576460752303423488 ≤ 10 * z - (t[k].toNat - 48) := by omega
          clear hc
          go_wp2
          go_round
          case rel => exact ⟨10 * z - (t[k].toNat - 48), k + 1, by omega, by go_num, rfl, by omega, by omega⟩
          case measure => simp [intOf]; omega
      · go_wp2
        all_goals
          go_ret2
          exact ⟨_, _, rfl, (Same.refl [] _).drew⟩
  · have hm' : ((s[0].toNat : Int) == 45) = false := by
      rw [beq_eq_false_iff_ne]; omega
    obtain ⟨t, rfl⟩ : ∃ t, t = s := ⟨_, rfl⟩
    have HD : Hid (t.data.toList.all (fun b => Cd.isDigN b.toNat) = true) := Lib.hid (by
      have e : Cd.bare t.data.toList = t.data.toList := by
        have hne : ¬ (45 : UInt8) = t[0] := fun h => hm (by rw [← h]; rfl)
        rw [hhead]
        simp [Cd.bare, Lib.trimPrefix, Lib.hasPrefix, hne]
      rw [e] at hd
      unfold Cd.allDig at hd
      exact (Bool.and_eq_true_iff.1 hd).1)
    clear hd hm hhead
    go_enter Tryz.func107, Tryz.ntmps107
    go_wp2
    go_loop [5, 6, 14] (fun n _ i => ∃ (z : Int) (k : Nat), k ≤ t.size ∧ i = .int .i64 k ∧ n = .int .i64 z ∧ -576460752303423488 ≤ z ∧ z ≤ 0) (fun _ _ i => t.size - (intOf i).toNat)
    case atStart => exact ⟨0, 0, Nat.zero_le _, rfl, rfl, by omega, by omega⟩
    case round =>
      obtain ⟨z, k, hk, rfl, rfl, hz1, hz2⟩ := hrel
      by_cases hlt : k < t.size
      · obtain ⟨hd1, hd2⟩ := dig_at t k hlt HD.out
        have hb : (((t[k].toNat : Nat) : Int) - 48) % 256 = t[k].toNat - 48 := by omega
        by_cases hc : 10 * z - (t[k].toNat - 48) < -576460752303423488
        · go_wp2
          go_ret2
          exact ⟨_, _, rfl, Same.refl [] _⟩
        · have hc' : -576460752303423488 ≤ 10 * z - (t[k].toNat - 48) := by omega
          clear hc
          go_wp2
          go_round
          case rel => exact ⟨10 * z - (t[k].toNat - 48), k + 1, by omega, by go_num, rfl, by omega, by omega⟩
          case measure => simp [intOf]; omega
      · go_wp2
        all_goals
          go_ret2
          exact ⟨_, _, rfl, Same.refl [] _⟩


/-- A token and an error; whether it is a symbol. -/
def WordP (y : Bool) (w : World) (e : Ending) (w' : World) : Prop := ∃ (k : Int) (t : ByteArray) (n a er : Int), e = .returned (.tuple #[.agg #[.int .u8 k, .string t, .int .i64 n, .int .i64 a], .int .i64 er]) ∧ (decide (er = 0) && decide (k = 6)) = y ∧ Same [] w w'

set_option maxHeartbeats 400000 in
theorem clone_any (s : ByteArray) (hs : s.size ≤ 281474976710656) : Calls Tryz.prog 109 #[.string s] w fun e w' => e = .returned (.string s) ∧ Same [] w w' := by
  have hc := Tryz.stringslite_Clone s
  go_enter Tryz.func109, Tryz.ntmps109
  go_wp2_with (go_at_call 114; refine (hc _ hs).mono ?_; rintro e w' ⟨rfl, hb⟩)
  go_ret
  exact ⟨rfl, Same.of_below hb⟩

theorem getD_zero (s : ByteArray) (h : 0 < s.size) : (s.data.toList.getD 0 0).toNat = s[0].toNat := by
  rw [← byte_at s 0 h, List.getD, List.getElem?_eq_getElem (by simpa using h)]; rfl

theorem some_byte (s : ByteArray) (h : 0 < s.size) : s.data.toList.isEmpty = false := by
  rw [List.isEmpty_eq_false_iff]
  intro e
  have h1 : s.data.toList.length = s.size := by simp
  rw [e, List.length_nil] at h1
  omega

theorem no_byte (s : ByteArray) (h : ¬ 0 < s.size) : s.data.toList = [] := by
  have h1 : s.data.toList.length = s.size := by simp
  exact List.eq_nil_of_length_eq_zero (by omega)

theorem tok_keep {w W' : World} {a b c d : Value} {T : TypeId} (hs : Same [] (w.alloc (.cells #[a, b, c, d] T)) W') :
    W'.cell? ⟨w.heap.size, 0, none⟩ = some a ∧ W'.cell? ⟨w.heap.size, 1, none⟩ = some b ∧ W'.cell? ⟨w.heap.size, 2, none⟩ = some c ∧ W'.cell? ⟨w.heap.size, 3, none⟩ = some d ∧ (∀ i, W'.frozen? ⟨w.heap.size, i, none⟩ = false) ∧ w.heap.size < W'.heap.size := by
  have hb : Blk W' w.heap.size T [a, b, c, d] := (Blk.new w T [a, b, c, d]).frame hs (by simp)
  exact ⟨hb.cell 0, hb.cell 1, hb.cell 2, hb.cell 3, hb.frozen, hb.lt⟩

theorem wordSym_of (l : List UInt8) (h1 : (l == [46]) = false) (h2 : (l == [35, 116]) = false) (h3 : (l == [35, 102]) = false) (hd : Cd.allDig (Cd.bare l) = false) :
    Cd.wordSym l = !(decide ((l.getD 0 0).toNat = 35) || (((!(Cd.bare l).isEmpty) && Cd.isDigN ((Cd.bare l).getD 0 0).toNat) || decide (32 < l.length))) := by
  have e1 : decide (l ≠ [46]) = true := by simpa using h1
  have e2 : decide (l ≠ [35, 116]) = true := by simpa using h2
  have e3 : decide (l ≠ [35, 102]) = true := by simpa using h3
  unfold Cd.wordSym
  rw [e1, e2, e3, hd]
  simp

theorem wordSym_no (l : List UInt8) (h : (l == [46]) = true ∨ (l == [35, 116]) = true ∨ (l == [35, 102]) = true ∨ Cd.allDig (Cd.bare l) = true) : Cd.wordSym l = false := by
  unfold Cd.wordSym
  rcases h with h | h | h | h
  · simp at h; subst h; rfl
  · simp at h; subst h; rfl
  · simp at h; subst h; rfl
  · rw [h]; simp

theorem sym_err {a n : Nat} {c : Bool} (h : a = 35 ∨ c = true ∨ 32 < n) : (decide ((51 : Int) = 0) && decide ((0 : Int) = 6)) = !(decide (a = 35) || (c || decide (32 < n))) := by
  rcases h with h | h | h <;> simp [h]
theorem sym_ok {a n : Nat} {c : Bool} (h1 : ¬ a = 35) (h2 : c = false) (h3 : ¬ 32 < n) : (decide ((0 : Int) = 0) && decide ((6 : Int) = 6)) = !(decide (a = 35) || (c || decide (32 < n))) := by
  simp [h1, h2]; omega

/-- What lex.word answers, way by way. -/
def Tok (k : Int) (t : ByteArray) (n er : Int) : Value := .tuple #[.agg #[.int .u8 k, .string t, .int .i64 n, .int .i64 0], .int .i64 er]

set_option maxHeartbeats 4000000 in
theorem word_any (s : ByteArray) (hs : s.size ≤ 281474976710656) (h0 : 0 < s.size) : Calls Tryz.prog 95 #[.string s] w (WordP (Cd.wordSym s.data.toList) w) := by
  obtain ⟨b, hb⟩ : ∃ b : ByteArray, (⟨(Lib.trimPrefix s.data.toList [45]).toArray⟩ : ByteArray) = b := ⟨_, rfl⟩
  have ht := Tryz.strings_TrimPrefix s ⟨#[45]⟩
  rw [hb] at ht
  have hB : b.data.toList = Cd.bare s.data.toList := by rw [← hb]; rfl
  have hbs : b.size ≤ s.size := by
    have h1 : b.size = b.data.toList.length := by simp
    have h2 : s.size = s.data.toList.length := by simp
    rw [h1, h2, hB]; unfold Cd.bare Lib.trimPrefix; split <;> simp
  clear hb
  have hdig := fun w => digits_any (w := w) b (by unfold maxLen; omega)
  rw [hB] at hdig
  cases hd : Cd.allDig (Cd.bare s.data.toList)
  · rw [hd] at hdig
    have HW := fun h1 h2 h3 => wordSym_of s.data.toList h1 h2 h3 hd
    rw [getD_zero s h0, show s.data.toList.length = s.size by simp] at HW
    by_cases hb0 : 0 < b.size
    · rw [← hB, some_byte b hb0, getD_zero b hb0, Bool.not_false, Bool.true_and] at HW
      have HW' : Hid _ := Lib.hid HW
      clear HW hd hB
      have hbe : (!b.toList.isEmpty) = true := by rw [Lib.toList_data, some_byte b hb0]; rfl
      have hbd : ∀ w, Calls Tryz.prog 108 #[.int .u8 b[0].toNat] w fun e w' => e = .returned (.bool (Cd.isDigN b[0].toNat)) ∧ w = w' := fun w => isDigit_any _ b[0].toNat_lt
      go_enter Tryz.func95, Tryz.ntmps95
      go_wp2_with (first
        | (go_at_call 105; refine (ht _).mono ?_; rintro e w' ⟨rfl, rfl⟩)
        | (go_at_call 106; refine (hdig _).mono ?_; rintro e w' ⟨rfl, rfl⟩)
        | (go_at_call 108; refine (hbd _).mono ?_; rintro e w' ⟨rfl, rfl⟩)
        | (go_at_call 109; refine (clone_any s hs).mono ?_; rintro e w' ⟨rfl, hk⟩; obtain ⟨k0, k1, k2, k3, k4, k5⟩ := tok_keep hk; have HK := Lib.hid (((Same.refl [] w).alloc _).trans hk); clear hk))
      · have h1 : (s.toList == [46]) = true := by assumption
        rw [Lib.toList_data] at h1
        exact bodyPost_ret (v := .tuple #[.agg #[.int .u8 4, .string ⟨#[]⟩, .int .i64 0, .int .i64 0], .int .i64 0]) (by simp [results, Tryz.results95, go_sem]) rfl ⟨4, _, _, _, _, rfl, by rw [wordSym_no _ (.inl h1)]; rfl, (by repeat (first | exact Same.refl _ _ | refine Same.setCell ?_ (.inr (by simp)) _ | refine Same.alloc ?_ _))⟩
      · have h1 : (s.toList == [35, 116]) = true := by assumption
        rw [Lib.toList_data] at h1
        exact bodyPost_ret (v := .tuple #[.agg #[.int .u8 8, .string ⟨#[]⟩, .int .i64 0, .int .i64 0], .int .i64 0]) (by simp [results, Tryz.results95, go_sem]) rfl ⟨8, _, _, _, _, rfl, by rw [wordSym_no _ (.inr (.inl h1))]; rfl, (by repeat (first | exact Same.refl _ _ | refine Same.setCell ?_ (.inr (by simp)) _ | refine Same.alloc ?_ _))⟩
      · have h1 : (s.toList == [35, 102]) = true := by assumption
        rw [Lib.toList_data] at h1
        exact bodyPost_ret (v := .tuple #[.agg #[.int .u8 7, .string ⟨#[]⟩, .int .i64 0, .int .i64 0], .int .i64 0]) (by simp [results, Tryz.results95, go_sem]) rfl ⟨7, _, _, _, _, rfl, by rw [wordSym_no _ (.inr (.inr (.inl h1)))]; rfl, (by repeat (first | exact Same.refl _ _ | refine Same.setCell ?_ (.inr (by simp)) _ | refine Same.alloc ?_ _))⟩
      · have g1 : (s.data.toList == [46]) = false := by rw [← Lib.toList_data]; assumption
        have g2 : (s.data.toList == [35, 116]) = false := by rw [← Lib.toList_data]; assumption
        have g3 : (s.data.toList == [35, 102]) = false := by rw [← Lib.toList_data]; assumption
        exact bodyPost_ret (v := .tuple #[.agg #[.int .u8 0, .string ⟨#[]⟩, .int .i64 0, .int .i64 0], .int .i64 51]) (by simp [results, Tryz.results95, go_sem]) rfl ⟨0, _, _, _, _, rfl, by rw [HW'.out g1 g2 g3]; exact sym_err (by left; omega), (by repeat (first | exact Same.refl _ _ | refine Same.setCell ?_ (.inr (by simp)) _ | refine Same.alloc ?_ _))⟩
      · have g1 : (s.data.toList == [46]) = false := by rw [← Lib.toList_data]; assumption
        have g2 : (s.data.toList == [35, 116]) = false := by rw [← Lib.toList_data]; assumption
        have g3 : (s.data.toList == [35, 102]) = false := by rw [← Lib.toList_data]; assumption
        exact bodyPost_ret (v := .tuple #[.agg #[.int .u8 0, .string ⟨#[]⟩, .int .i64 0, .int .i64 0], .int .i64 51]) (by simp [results, Tryz.results95, go_sem]) rfl ⟨0, _, _, _, _, rfl, by rw [HW'.out g1 g2 g3]; exact sym_err (by right; left; assumption), (by repeat (first | exact Same.refl _ _ | refine Same.setCell ?_ (.inr (by simp)) _ | refine Same.alloc ?_ _))⟩
      · have g1 : (s.data.toList == [46]) = false := by rw [← Lib.toList_data]; assumption
        have g2 : (s.data.toList == [35, 116]) = false := by rw [← Lib.toList_data]; assumption
        have g3 : (s.data.toList == [35, 102]) = false := by rw [← Lib.toList_data]; assumption
        have h : ((s[0].toNat : Int) == 35) = true ∨ 32 < (s.size : Int) := by assumption
        have hh : s[0].toNat = 35 ∨ Cd.isDigN b[0].toNat = true ∨ 32 < s.size := by
          rcases h with h | h
          · exact .inl (by have := eq_of_beq h; omega)
          · exact .inr (.inr (by omega))
        exact bodyPost_ret (v := .tuple #[.agg #[.int .u8 0, .string ⟨#[]⟩, .int .i64 0, .int .i64 0], .int .i64 51]) (by simp [results, Tryz.results95, go_sem]) rfl ⟨0, _, _, _, _, rfl, by rw [HW'.out g1 g2 g3]; exact sym_err hh, (by repeat (first | exact Same.refl _ _ | refine Same.setCell ?_ (.inr (by simp)) _ | refine Same.alloc ?_ _))⟩
      · have g1 : (s.data.toList == [46]) = false := by rw [← Lib.toList_data]; assumption
        have g2 : (s.data.toList == [35, 116]) = false := by rw [← Lib.toList_data]; assumption
        have g3 : (s.data.toList == [35, 102]) = false := by rw [← Lib.toList_data]; assumption
        have hc : Cd.isDigN b[0].toNat = false := by
          have h : ¬ Cd.isDigN b[0].toNat = true := by assumption
          simpa using h
        have hd8 : ¬ 32 < s.size := by
          have h : ((s[0].toNat : Int) == 35) = false ∧ (s.size : Int) ≤ 32 := by assumption
          have := h.2
          omega
        exact bodyPost_ret (v := .tuple #[.agg #[.int .u8 6, .string s, .int .i64 0, .int .i64 0], .int .i64 0]) (by simp [results, Tryz.results95, go_sem, k0, k1, k2, k3]) rfl ⟨6, _, _, _, _, rfl, by rw [HW'.out g1 g2 g3]; exact sym_ok (by omega) hc hd8, (by repeat (first | exact Same.refl _ _ | exact HK.out | refine Same.setCell ?_ (.inr (by simp)) _ | refine Same.alloc ?_ _))⟩
    · rw [← hB, no_byte b hb0, List.isEmpty_nil, Bool.not_true, Bool.false_and] at HW
      have HW' : Hid _ := Lib.hid HW
      clear HW hd hB
      have hbe : (!b.toList.isEmpty) = false := by rw [Lib.toList_data, no_byte b hb0]; rfl
      go_enter Tryz.func95, Tryz.ntmps95
      go_wp2_with (first
        | (go_at_call 105; refine (ht _).mono ?_; rintro e w' ⟨rfl, rfl⟩)
        | (go_at_call 106; refine (hdig _).mono ?_; rintro e w' ⟨rfl, rfl⟩)
        | (go_at_call 109; refine (clone_any s hs).mono ?_; rintro e w' ⟨rfl, hk⟩; obtain ⟨k0, k1, k2, k3, k4, k5⟩ := tok_keep hk; have HK := Lib.hid (((Same.refl [] w).alloc _).trans hk); clear hk))
      · have h1 : (s.toList == [46]) = true := by assumption
        rw [Lib.toList_data] at h1
        exact bodyPost_ret (v := .tuple #[.agg #[.int .u8 4, .string ⟨#[]⟩, .int .i64 0, .int .i64 0], .int .i64 0]) (by simp [results, Tryz.results95, go_sem]) rfl ⟨4, _, _, _, _, rfl, by rw [wordSym_no _ (.inl h1)]; rfl, (by repeat (first | exact Same.refl _ _ | refine Same.setCell ?_ (.inr (by simp)) _ | refine Same.alloc ?_ _))⟩
      · have h1 : (s.toList == [35, 116]) = true := by assumption
        rw [Lib.toList_data] at h1
        exact bodyPost_ret (v := .tuple #[.agg #[.int .u8 8, .string ⟨#[]⟩, .int .i64 0, .int .i64 0], .int .i64 0]) (by simp [results, Tryz.results95, go_sem]) rfl ⟨8, _, _, _, _, rfl, by rw [wordSym_no _ (.inr (.inl h1))]; rfl, (by repeat (first | exact Same.refl _ _ | refine Same.setCell ?_ (.inr (by simp)) _ | refine Same.alloc ?_ _))⟩
      · have h1 : (s.toList == [35, 102]) = true := by assumption
        rw [Lib.toList_data] at h1
        exact bodyPost_ret (v := .tuple #[.agg #[.int .u8 7, .string ⟨#[]⟩, .int .i64 0, .int .i64 0], .int .i64 0]) (by simp [results, Tryz.results95, go_sem]) rfl ⟨7, _, _, _, _, rfl, by rw [wordSym_no _ (.inr (.inr (.inl h1)))]; rfl, (by repeat (first | exact Same.refl _ _ | refine Same.setCell ?_ (.inr (by simp)) _ | refine Same.alloc ?_ _))⟩
      · have g1 : (s.data.toList == [46]) = false := by rw [← Lib.toList_data]; assumption
        have g2 : (s.data.toList == [35, 116]) = false := by rw [← Lib.toList_data]; assumption
        have g3 : (s.data.toList == [35, 102]) = false := by rw [← Lib.toList_data]; assumption
        exact bodyPost_ret (v := .tuple #[.agg #[.int .u8 0, .string ⟨#[]⟩, .int .i64 0, .int .i64 0], .int .i64 51]) (by simp [results, Tryz.results95, go_sem]) rfl ⟨0, _, _, _, _, rfl, by rw [HW'.out g1 g2 g3]; exact sym_err (by left; omega), (by repeat (first | exact Same.refl _ _ | refine Same.setCell ?_ (.inr (by simp)) _ | refine Same.alloc ?_ _))⟩
      · have g1 : (s.data.toList == [46]) = false := by rw [← Lib.toList_data]; assumption
        have g2 : (s.data.toList == [35, 116]) = false := by rw [← Lib.toList_data]; assumption
        have g3 : (s.data.toList == [35, 102]) = false := by rw [← Lib.toList_data]; assumption
        have h : ((s[0].toNat : Int) == 35) = true ∨ 32 < (s.size : Int) := by assumption
        have hh : s[0].toNat = 35 ∨ false = true ∨ 32 < s.size := by
          rcases h with h | h
          · exact .inl (by have := eq_of_beq h; omega)
          · exact .inr (.inr (by omega))
        exact bodyPost_ret (v := .tuple #[.agg #[.int .u8 0, .string ⟨#[]⟩, .int .i64 0, .int .i64 0], .int .i64 51]) (by simp [results, Tryz.results95, go_sem]) rfl ⟨0, _, _, _, _, rfl, by rw [HW'.out g1 g2 g3]; exact sym_err hh, (by repeat (first | exact Same.refl _ _ | refine Same.setCell ?_ (.inr (by simp)) _ | refine Same.alloc ?_ _))⟩
      · have g1 : (s.data.toList == [46]) = false := by rw [← Lib.toList_data]; assumption
        have g2 : (s.data.toList == [35, 116]) = false := by rw [← Lib.toList_data]; assumption
        have g3 : (s.data.toList == [35, 102]) = false := by rw [← Lib.toList_data]; assumption
        exact bodyPost_ret (v := .tuple #[.agg #[.int .u8 6, .string s, .int .i64 0, .int .i64 0], .int .i64 0]) (by simp [results, Tryz.results95, go_sem, k0, k1, k2, k3]) rfl ⟨6, _, _, _, _, rfl, by rw [HW'.out g1 g2 g3]; exact sym_ok (by omega) (rfl) (by omega), (by repeat (first | exact Same.refl _ _ | exact HK.out | refine Same.setCell ?_ (.inr (by simp)) _ | refine Same.alloc ?_ _))⟩
  · rw [hd] at hdig
    have HD : Hid (Cd.allDig (Cd.bare s.data.toList) = true) := Lib.hid hd
    have hnum := fun w => number_any (w := w) s (by unfold maxLen; omega) h0 hd
    unfold Num at hnum
    clear hd hB
    go_enter Tryz.func95, Tryz.ntmps95
    go_wp2_with (first
        | (go_at_call 105; refine (ht _).mono ?_; rintro e w' ⟨rfl, rfl⟩)
        | (go_at_call 106; refine (hdig _).mono ?_; rintro e w' ⟨rfl, rfl⟩)
        | (go_at_call 107; refine (hnum _).mono ?_; rintro e w' ⟨nn, er, rfl, hk⟩; obtain ⟨k0, k1, k2, k3, k4, k5⟩ := tok_keep hk; have HK := Lib.hid (((Same.refl [] w).alloc _).trans hk); clear hk))
    · have h1 : (s.toList == [46]) = true := by assumption
      rw [Lib.toList_data] at h1
      exact bodyPost_ret (v := .tuple #[.agg #[.int .u8 4, .string ⟨#[]⟩, .int .i64 0, .int .i64 0], .int .i64 0]) (by simp [results, Tryz.results95, go_sem]) rfl ⟨4, _, _, _, _, rfl, by rw [wordSym_no _ (.inl h1)]; rfl, (by repeat (first | exact Same.refl _ _ | refine Same.setCell ?_ (.inr (by simp)) _ | refine Same.alloc ?_ _))⟩
    · have h1 : (s.toList == [35, 116]) = true := by assumption
      rw [Lib.toList_data] at h1
      exact bodyPost_ret (v := .tuple #[.agg #[.int .u8 8, .string ⟨#[]⟩, .int .i64 0, .int .i64 0], .int .i64 0]) (by simp [results, Tryz.results95, go_sem]) rfl ⟨8, _, _, _, _, rfl, by rw [wordSym_no _ (.inr (.inl h1))]; rfl, (by repeat (first | exact Same.refl _ _ | refine Same.setCell ?_ (.inr (by simp)) _ | refine Same.alloc ?_ _))⟩
    · have h1 : (s.toList == [35, 102]) = true := by assumption
      rw [Lib.toList_data] at h1
      exact bodyPost_ret (v := .tuple #[.agg #[.int .u8 7, .string ⟨#[]⟩, .int .i64 0, .int .i64 0], .int .i64 0]) (by simp [results, Tryz.results95, go_sem]) rfl ⟨7, _, _, _, _, rfl, by rw [wordSym_no _ (.inr (.inr (.inl h1)))]; rfl, (by repeat (first | exact Same.refl _ _ | refine Same.setCell ?_ (.inr (by simp)) _ | refine Same.alloc ?_ _))⟩
    · exact bodyPost_ret (v := .tuple #[.agg #[.int .u8 5, .string ⟨#[]⟩, .int .i64 nn, .int .i64 0], .int .i64 er]) (by simp [results, Tryz.results95, go_sem, k0, k1, k2, k3]) rfl ⟨5, _, _, _, _, rfl, by rw [wordSym_no _ (.inr (.inr (.inr HD.out)))]; simp, (by repeat (first | exact Same.refl _ _ | exact HK.out | refine Same.setCell ?_ (.inr (by simp)) _ | refine Same.alloc ?_ _))⟩

set_option maxHeartbeats 1000000 in
theorem isSymbol_any (s : ByteArray) (hs : s.size ≤ 281474976710656) : Calls Tryz.prog 63 #[.string s] w fun e w' => e = .returned (.bool (Cd.sym s)) ∧ Same [] w w' := by
  have hw := fun w h0 => word_any (w := w) s hs h0
  unfold WordP at hw
  have hsz : s.size ≤ 9223372036854775807 := by omega
  go_enter Tryz.func63, Tryz.ntmps63
  go_wp2
  go_loop [3, 8] (fun _ i => ∃ k : Nat, k ≤ s.size ∧ i = .int .i64 k ∧ (s.data.toList.take k).all (fun b => Cd.isWordN b.toNat) = true) (fun _ i => s.size - (intOf i).toNat)
  case atStart => exact ⟨0, Nat.zero_le _, rfl, by simp⟩
  case round =>
    obtain ⟨k, hk, rfl, ha⟩ := hrel
    have HA : Hid ((s.data.toList.take k).all (fun b => Cd.isWordN b.toNat) = true) := Lib.hid ha
    clear ha
    by_cases hlt : k < s.size
    · have hc := isWord_any (w := w) s[k].toNat s[k].toNat_lt
      cases hb : Cd.isWordN s[k].toNat
      · rw [hb] at hc
        have HB : Hid (Cd.isWordN s[k].toNat = false) := Lib.hid hb
        clear hb
        go_wp2_with (go_at_call 94; refine hc.mono ?_; rintro e w' ⟨rfl, rfl⟩)
        go_ret
        exact ⟨ret_bool (by unfold Cd.sym Cd.isSym; rw [all_no s _ k hlt HB.out, Bool.false_and]), Same.refl _ _⟩
      · rw [hb] at hc
        have HB : Hid (Cd.isWordN s[k].toNat = true) := Lib.hid hb
        clear hb
        go_wp2_with (go_at_call 94; refine hc.mono ?_; rintro e w' ⟨rfl, rfl⟩)
        go_round
        case rel => exact ⟨k + 1, by omega, by go_num, all_snoc s _ k hlt HA.out HB.out⟩
        case measure => simp [intOf]; omega
    · have HE : Hid (s.data.toList.all (fun b => Cd.isWordN b.toNat) = true) := Lib.hid (all_end s _ k hlt HA.out)
      by_cases h0 : 0 < s.size
      · have hbe : s.toList.isEmpty = false := by rw [Lib.toList_data, some_byte s h0]
        have hbn : s.toList = [] ↔ False := by
          rw [Lib.toList_data]
          exact ⟨fun h => by have := some_byte s h0; rw [h] at this; simp at this, False.elim⟩
        have HS : Hid (Cd.sym s = Cd.wordSym s.data.toList) := Lib.hid (by unfold Cd.sym Cd.isSym; rw [HE.out, some_byte s h0]; simp)
        have hw' := fun w => hw w h0
        clear hw
        go_wp2_with (go_at_call 95; refine (hw' _).mono ?_; rintro e w' ⟨kk, tt, nn, aa, er, rfl, hy, hk2⟩; have HY := Lib.hid hy; have HK := Lib.hid hk2; clear hy hk2)
        · have he : er = 0 := by assumption
          go_ret
          refine ⟨ret_bool ?_, (by repeat (first | exact HK.out | exact Same.refl _ _ | refine Same.setCell ?_ (.inr (by first | exact HK.out.size | simp)) _ | refine Same.alloc ?_ _))⟩
          rw [HS.out, ← HY.out, he]
          simp [Bool.beq_eq_decide_eq]
        · have he : ¬ er = 0 := by assumption
          go_ret
          refine ⟨ret_bool ?_, (by repeat (first | exact HK.out | exact Same.refl _ _ | refine Same.setCell ?_ (.inr (by first | exact HK.out.size | simp)) _ | refine Same.alloc ?_ _))⟩
          rw [HS.out, ← HY.out]
          simp [he]
      · have hbn : s.toList = [] := by rw [Lib.toList_data, no_byte s h0]
        go_wp2
        go_ret
        exact ⟨ret_bool (by unfold Cd.sym Cd.isSym; rw [no_byte s h0]; rfl), Same.refl _ _⟩
end Ck
end Go.Proofs.YtkepcdbogeineaaGreatDoor
