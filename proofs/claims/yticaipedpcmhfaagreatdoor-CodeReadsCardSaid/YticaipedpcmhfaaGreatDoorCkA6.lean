/- Layers 1 and 5, the document's answers: words, symbols. -/
import Derived.Test.YticaipedpcmhfaaGreatDoorCkW2
import Derived.Test.YticaipedpcmhfaaGreatDoorCkW1
import Derived.Deep.LoopGhost
import Derived.Test.YticaipedpcmhfaaGreatDoorCkW3
namespace Go.Proofs.YticaipedpcmhfaaGreatDoor
open Go.RowKit Hp
namespace Ck
variable {w w' : World}

set_option maxHeartbeats 1000000 in
theorem mayR_any (t : Nat) (n : Int) (ht : t ≤ 15) : Calls Tryz.prog 86 #[.int .u8 t, .int .i64 n] w fun e w' => e = .returned (.bool (decide (1 ≤ t ∧ t ≤ 8) && Cd.may t n)) ∧ w = w' := by
  have h : t = 0 ∨ t = 1 ∨ t = 2 ∨ t = 3 ∨ t = 4 ∨ t = 5 ∨ t = 6 ∨ t = 7 ∨ t = 8 ∨ t = 9 ∨ t = 10 ∨ t = 11 ∨ t = 12 ∨ t = 13 ∨ t = 14 ∨ t = 15 := by omega
  clear ht
  rcases h with rfl | rfl | rfl | rfl | rfl | rfl | rfl | rfl | rfl | rfl | rfl | rfl | rfl | rfl | rfl | rfl
  all_goals
    go_enter Tryz.func86, Tryz.ntmps86
    go_wp2_with fail
    all_goals
      go_ret
      exact ⟨ret_bool (by rw [Bool.eq_iff_iff]; simp [Cd.may, Cd.least, Cd.most]; try omega), rfl⟩

set_option maxHeartbeats 1000000 in
theorem ofR_any (x : Int) (hx : 0 ≤ x ∧ x < 18446744073709551616) : Calls Tryz.prog 26 #[.int .u64 x] w fun e w' => e = .returned (.tuple (if Cd.isWord x then #[.int .u8 (Cd.wordT x), .int .i64 (Cd.wordN x), .bool true] else #[.int .u8 0, .int .i64 0, .bool false])) ∧ w = w' := by
  obtain ⟨t, hT, ht⟩ : ∃ t : Nat, Cd.wordT x = t ∧ t ≤ 15 := ⟨(Cd.wordT x).toNat, by unfold Cd.wordT; omega, by unfold Cd.wordT; omega⟩
  obtain ⟨q, hq⟩ : ∃ q : Int, x / 16 = q := ⟨_, rfl⟩
  obtain ⟨h1, h2⟩ := hx
  have hN : Cd.wordN x = if 576460752303423487 < q then q - 1152921504606846976 else q := by
    unfold Cd.wordN Cd.signed
    split <;> split <;> omega
  have hW : Cd.isWord x = (decide (1 ≤ t ∧ t ≤ 8) && Cd.may t (Cd.wordN x)) := by
    unfold Cd.isWord
    rw [hT]
    congr 1
    rw [decide_eq_decide]; omega
  rw [hW, hT]
  have hq1 : 0 ≤ q := by omega
  have hq2 : q < 1152921504606846976 := by omega
  have hm : (x % 16 : Int) = t := hT
  obtain ⟨n, hn⟩ : ∃ n, Cd.wordN x = n := ⟨_, rfl⟩
  rw [hn]
  rw [hn] at hN
  have HM := fun W => mayR_any (w := W) t n ht
  obtain ⟨g, hg⟩ : ∃ g, (decide (1 ≤ t ∧ t ≤ 8) && Cd.may t n) = g := ⟨_, rfl⟩
  rw [hg] at HM ⊢
  have hB : (t : Int) % 256 = t := by omega
  clear hW hT hn hg
  by_cases c : 576460752303423487 < q
  · rw [if_pos c] at hN
    subst hN
    cases g
    all_goals
      go_enter Tryz.func26, Tryz.ntmps26
      go_wp2_with (go_at_call 86; refine (HM _).mono ?_; rintro e w' ⟨rfl, rfl⟩)
      go_ret3
      exact ⟨rfl, rfl⟩
  · rw [if_neg c] at hN
    subst hN
    cases g
    all_goals
      go_enter Tryz.func26, Tryz.ntmps26
      go_wp2_with (go_at_call 86; refine (HM _).mono ?_; rintro e w' ⟨rfl, rfl⟩)
      go_ret3
      exact ⟨rfl, rfl⟩

set_option maxHeartbeats 400000 in
theorem plainR_any (n : Nat) (hn : n < 256) : Calls Tryz.prog 87 #[.int .u8 n] w fun e w' => e = .returned (.bool (Cd.isWordN n)) ∧ w = w' := by
  go_enter Tryz.func87, Tryz.ntmps87
  go_wp2_with fail
  all_goals
    go_ret
    exact ⟨ret_bool (by rw [Bool.eq_iff_iff]; simp [Cd.isWordN]; omega), rfl⟩

set_option maxHeartbeats 400000 in
theorem digitR_any (n : Nat) (hn : n < 256) : Calls Tryz.prog 114 #[.int .u8 n] w fun e w' => e = .returned (.bool (Cd.isDigN n)) ∧ w = w' := by
  go_enter Tryz.func114, Tryz.ntmps114
  go_wp2_with fail
  all_goals
    go_ret
    exact ⟨ret_bool (by rw [Bool.eq_iff_iff]; simp [Cd.isDigN]; omega), rfl⟩

/-- dappleref05.number: some number, some answer. -/
def NumR (w : World) (e : Ending) (w' : World) : Prop := ∃ (n : Int) (b : Bool), e = .returned (.tuple #[.int .i64 n, .bool b]) ∧ w = w'

set_option maxHeartbeats 1000000 in
theorem numberR_any (s : ByteArray) (hs : s.size ≤ maxLen) (m : Bool) (hd : s.data.toList.all (fun b => Cd.isDigN b.toNat) = true) : Calls Tryz.prog 115 #[.string s, .bool m] w (NumR w) := by
  unfold maxLen at hs
  have HD := Lib.hid (fun k h => dig_at s k h hd)
  clear hd
  go_enter Tryz.func115, Tryz.ntmps115
  go_wp2_with fail
  go_loop [6, 7] (fun n i => ∃ (k : Nat) (v : Int), k ≤ s.size ∧ i = .int .i64 k ∧ n = .int .i64 v ∧ 0 ≤ v ∧ v ≤ 576460752303423488) (fun _ i => s.size - (intOf i).toNat)
  case atStart => exact ⟨0, 0, Nat.zero_le _, rfl, rfl, by omega, by omega⟩
  case round =>
    obtain ⟨k, v, hk, rfl, rfl, h1, h2⟩ := hrel
    by_cases hlt : k < s.size
    · obtain ⟨d1, d2⟩ := HD.out k hlt
      have hb : (((s[k].toNat : Nat) : Int) - 48) % 256 = s[k].toNat - 48 := by omega
      by_cases hc : 576460752303423488 < 10 * v + (s[k].toNat - 48)
      · go_wp2_with fail
        go_ret2
        exact ⟨_, _, rfl, rfl⟩
      · have hc' : 10 * v + (s[k].toNat - 48) ≤ 576460752303423488 := by omega
        clear hc
        go_wp2_with fail
        go_round
        case rel => exact ⟨k + 1, 10 * v + (s[k].toNat - 48), by omega, by go_num, rfl, by omega, by omega⟩
        case measure => simp [intOf]; omega
    · cases m
      all_goals
        go_wp2_with fail
        go_ret2
        exact ⟨_, _, rfl, rfl⟩

theorem bare_eq (s : ByteArray) (h0 : 0 < s.size) : (((s[0].toNat : Int) == 45) = true → Cd.bare s.data.toList = (s.extract 1 s.size).data.toList) ∧ (((s[0].toNat : Int) == 45) = false → Cd.bare s.data.toList = s.data.toList) := by
  have hhead : s.data.toList = s[0] :: s.data.toList.drop 1 := by
    rw [← byte_at s 0 h0]
    exact (List.drop_eq_getElem_cons (i := 0) (by simpa using h0))
  refine ⟨fun h => ?_, fun h => ?_⟩
  · have hb : s[0] = 45 := by rw [← UInt8.toNat_inj]; have := eq_of_beq h; show s[0].toNat = 45; omega
    rw [Lib.extract_to_end, hhead, hb]
    simp [Cd.bare, Lib.trimPrefix, Lib.hasPrefix]
  · have hne : ¬ (45 : UInt8) = s[0] := fun e => by
      rw [← e] at h; exact absurd h (by decide)
    rw [hhead]
    simp [Cd.bare, Lib.trimPrefix, Lib.hasPrefix, hne]

/-- dappleref05.Word: a token and an error; whether it is a symbol. -/
theorem all_take_snoc (s : ByteArray) (k : Nat) (h : k < s.size) : (s.data.toList.take (k + 1)).all (fun b => Cd.isDigN b.toNat) = ((s.data.toList.take k).all (fun b => Cd.isDigN b.toNat) && Cd.isDigN s[k].toNat) := by
  rw [List.take_succ_eq_append_getElem (by simpa using h), List.all_append, byte_at s k h]
  simp
end Ck
end Go.Proofs.YticaipedpcmhfaaGreatDoor
/- Layer 5, the document's answer: the token of a word; what a symbol is. -/
namespace Go.Proofs.YticaipedpcmhfaaGreatDoor
open Go.RowKit Hp
namespace Ck
variable {w w' : World}

theorem dig_not45 : Cd.isDigN 45 = false := by decide

set_option maxHeartbeats 8000000 in
set_option maxRecDepth 100000 in
theorem wordR_any (s : ByteArray) (hs : s.size ≤ 281474976710656) (h0 : 0 < s.size) : Calls Tryz.prog 88 #[.string s] w (WordP (Cd.wordSym s.data.toList) w) := by
  obtain ⟨hbm, hbn⟩ := bare_eq s h0
  cases hm : ((s[0].toNat : Int) == 45)
  · have hB := hbn hm
    clear hbm hbn
    have HB := Lib.hid hB
    have HM := Lib.hid hm
    clear hB
    go_enter Tryz.func88, Tryz.ntmps88
    go_wp2_with fail
    · have h1 : (s.toList == [46]) = true := by assumption
      rw [Lib.toList_data] at h1
      exact bodyPost_ret (v := .tuple #[.agg #[.int .u8 4, .string ⟨#[]⟩, .int .i64 0, .int .i64 0], .int .i64 0]) (by simp [results, Tryz.results88, go_sem]) rfl ⟨4, _, _, _, _, rfl, by rw [wordSym_no _ (.inl h1)]; rfl, (by repeat (first | exact Same.refl _ _ | refine Same.setCell ?_ (.inr (by simp)) _ | refine Same.alloc ?_ _))⟩
    · have h1 : (s.toList == [35, 116]) = true := by assumption
      rw [Lib.toList_data] at h1
      exact bodyPost_ret (v := .tuple #[.agg #[.int .u8 8, .string ⟨#[]⟩, .int .i64 0, .int .i64 0], .int .i64 0]) (by simp [results, Tryz.results88, go_sem]) rfl ⟨8, _, _, _, _, rfl, by rw [wordSym_no _ (.inr (.inl h1))]; rfl, (by repeat (first | exact Same.refl _ _ | refine Same.setCell ?_ (.inr (by simp)) _ | refine Same.alloc ?_ _))⟩
    · have h1 : (s.toList == [35, 102]) = true := by assumption
      rw [Lib.toList_data] at h1
      exact bodyPost_ret (v := .tuple #[.agg #[.int .u8 7, .string ⟨#[]⟩, .int .i64 0, .int .i64 0], .int .i64 0]) (by simp [results, Tryz.results88, go_sem]) rfl ⟨7, _, _, _, _, rfl, by rw [wordSym_no _ (.inr (.inr (.inl h1)))]; rfl, (by repeat (first | exact Same.refl _ _ | refine Same.setCell ?_ (.inr (by simp)) _ | refine Same.alloc ?_ _))⟩
    · have g1 : (s.data.toList == [46]) = false := by rw [← Lib.toList_data]; assumption
      have g2 : (s.data.toList == [35, 116]) = false := by rw [← Lib.toList_data]; assumption
      have g3 : (s.data.toList == [35, 102]) = false := by rw [← Lib.toList_data]; assumption
      have HW := Lib.hid (fun hd => wordSym_of s.data.toList g1 g2 g3 hd)
      clear g1 g2 g3
      have f1 : (s.toList == [46]) = false := by assumption
      have f2 : (s.toList == [35, 116]) = false := by assumption
      have f3 : (s.toList == [35, 102]) = false := by assumption
      rw [f1, f2, f3]
      clear f1 f2 f3
      go_loop [6, 7] (fun a i => ∃ k : Nat, k ≤ s.size ∧ i = .int .i64 k ∧ a = .bool (decide (0 < s.size) && (s.data.toList.take k).all (fun b => Cd.isDigN b.toNat))) (fun _ i => s.size - (intOf i).toNat)
      case atStart => exact ⟨0, Nat.zero_le _, rfl, by first | (simp; done) | simp [h0]⟩
      case round =>
        obtain ⟨k, hk, rfl, rfl⟩ := hrel
        obtain ⟨q, hq⟩ : ∃ q, (decide (0 < s.size) && (s.data.toList.take k).all (fun b => Cd.isDigN b.toNat)) = q := ⟨_, rfl⟩
        rw [hq]
        have HQ := Lib.hid hq
        clear hq
        by_cases hlt : k < s.size
        · have hc := fun w => digitR_any (w := w) s[k].toNat s[k].toNat_lt
          obtain ⟨dg, hdg⟩ : ∃ dg, Cd.isDigN s[k].toNat = dg := ⟨_, rfl⟩
          rw [hdg] at hc
          have HDG := Lib.hid hdg
          clear hdg
          cases q
          all_goals
            go_wp2_with (go_at_call 114; refine (hc _).mono ?_; rintro e w' ⟨rfl, rfl⟩)
            go_round
            case rel => exact ⟨k + 1, by omega, by go_num, by rw [all_take_snoc _ _ hlt, HDG.out, ← Bool.and_assoc, HQ.out]; simp⟩
            case measure => simp [intOf]; omega
        · have hfull : Cd.allDig s.data.toList = q := by
            rw [← HQ.out, List.take_of_length_le (by simp; omega)]
            unfold Cd.allDig
            rw [Bool.and_comm]
            congr 1
            rw [Bool.eq_iff_iff]
            simp
            rw [← ByteArray.size_data, Array.size_pos_iff]
          cases q
          · have hW := HW.out (by rw [HB.out]; exact hfull)
            rw [HB.out, some_byte s h0, getD_zero s h0, show s.data.toList.length = s.size by simp, Bool.not_false, Bool.true_and] at hW
            have HWS := Lib.hid hW
            clear hW hfull
            have hc := fun w => digitR_any (w := w) s[0].toNat s[0].toNat_lt
            obtain ⟨d1, hd1⟩ : ∃ d, Cd.isDigN s[0].toNat = d := ⟨_, rfl⟩
            rw [hd1] at hc HWS
            clear hd1
            cases d1
            · cases f35 : ((s[0].toNat : Int) == 35)
              · have n35 : Hid (decide (s[0].toNat = 35) = false) := Lib.hid (by rw [decide_eq_false_iff_not]; intro e; rw [e] at f35; exact absurd f35 (by decide))
                by_cases c32 : 32 < s.size
                · have H32 := Lib.hid c32
                  go_wp2_with (go_at_call 114; refine (hc _).mono ?_; rintro e w' ⟨rfl, rfl⟩)
                  exact bodyPost_ret (v := .tuple #[.agg #[.int .u8 0, .string ⟨#[]⟩, .int .i64 0, .int .i64 0], .int .i64 51]) (by simp [results, Tryz.results88, go_sem]) rfl ⟨0, _, _, _, _, rfl, by rw [HWS.out, n35.out, decide_eq_true H32.out]; rfl, (by repeat (first | exact Same.refl _ _ | refine Same.setCell ?_ (.inr (by simp)) _ | refine Same.alloc ?_ _))⟩
                · have H32 := Lib.hid c32
                  have c33 : s.size ≤ 32 := by omega
                  clear c32
                  go_wp2_with (go_at_call 114; refine (hc _).mono ?_; rintro e w' ⟨rfl, rfl⟩)
                  exact bodyPost_ret (v := .tuple #[.agg #[.int .u8 6, .string s, .int .i64 0, .int .i64 0], .int .i64 0]) (by simp [results, Tryz.results88, go_sem]) rfl ⟨6, _, _, _, _, rfl, by rw [HWS.out, n35.out, decide_eq_false H32.out]; rfl, (by repeat (first | exact Same.refl _ _ | refine Same.setCell ?_ (.inr (by simp)) _ | refine Same.alloc ?_ _))⟩
              · have n35 : Hid (decide (s[0].toNat = 35) = true) := Lib.hid (by rw [decide_eq_true_iff]; have := eq_of_beq f35; omega)
                go_wp2_with (go_at_call 114; refine (hc _).mono ?_; rintro e w' ⟨rfl, rfl⟩)
                exact bodyPost_ret (v := .tuple #[.agg #[.int .u8 0, .string ⟨#[]⟩, .int .i64 0, .int .i64 0], .int .i64 51]) (by simp [results, Tryz.results88, go_sem]) rfl ⟨0, _, _, _, _, rfl, by rw [HWS.out, n35.out]; rfl, (by repeat (first | exact Same.refl _ _ | refine Same.setCell ?_ (.inr (by simp)) _ | refine Same.alloc ?_ _))⟩
            · go_wp2_with (go_at_call 114; refine (hc _).mono ?_; rintro e w' ⟨rfl, rfl⟩)
              exact bodyPost_ret (v := .tuple #[.agg #[.int .u8 0, .string ⟨#[]⟩, .int .i64 0, .int .i64 0], .int .i64 51]) (by simp [results, Tryz.results88, go_sem]) rfl ⟨0, _, _, _, _, rfl, by rw [HWS.out]; simp, (by repeat (first | exact Same.refl _ _ | refine Same.setCell ?_ (.inr (by simp)) _ | refine Same.alloc ?_ _))⟩
          · have hall : s.data.toList.all (fun b => Cd.isDigN b.toNat) = true := by unfold Cd.allDig at hfull; exact (Bool.and_eq_true_iff.1 hfull).1
            have HN := fun W => numberR_any (w := W) s (by unfold maxLen; omega) false hall
            unfold NumR at HN
            have HF : Hid (Cd.allDig (Cd.bare s.data.toList) = true) := Lib.hid (by rw [HB.out]; exact hfull)
            clear hfull hall
            go_wp2_with fail
            refine (HN _).mono ?_
            rintro e w2 ⟨n, bb, rfl, rfl⟩
            cases bb
            · go_wp2_with fail
              exact bodyPost_ret (v := .tuple #[.agg #[.int .u8 0, .string ⟨#[]⟩, .int .i64 0, .int .i64 0], .int .i64 52]) (by simp [results, Tryz.results88, go_sem]) rfl ⟨0, _, _, _, _, rfl, by rw [wordSym_no _ (.inr (.inr (.inr HF.out)))]; rfl, (by repeat (first | exact Same.refl _ _ | refine Same.setCell ?_ (.inr (by simp)) _ | refine Same.alloc ?_ _))⟩
            · go_wp2_with fail
              exact bodyPost_ret (v := .tuple #[.agg #[.int .u8 5, .string ⟨#[]⟩, .int .i64 n, .int .i64 0], .int .i64 0]) (by simp [results, Tryz.results88, go_sem]) rfl ⟨5, _, _, _, _, rfl, by rw [wordSym_no _ (.inr (.inr (.inr HF.out)))]; rfl, (by repeat (first | exact Same.refl _ _ | refine Same.setCell ?_ (.inr (by simp)) _ | refine Same.alloc ?_ _))⟩
  · have hB := hbm hm
    clear hbm hbn
    obtain ⟨t, ht⟩ : ∃ t : ByteArray, s.extract 1 s.size = t := ⟨_, rfl⟩
    rw [ht] at hB
    have hsz : s.size - 1 = t.size := by rw [← ht]; simp
    have hszI : (s.size : Int) - 1 = t.size := by omega
    have HD1 : Hid (t.data.toList = s.data.toList.drop 1) := Lib.hid (by rw [← ht, Lib.extract_to_end])
    have HB := Lib.hid hB
    have HM := Lib.hid hm
    clear hB
    go_enter Tryz.func88, Tryz.ntmps88
    go_wp2_with fail
    · have h1 : (s.toList == [46]) = true := by assumption
      rw [Lib.toList_data] at h1
      exact bodyPost_ret (v := .tuple #[.agg #[.int .u8 4, .string ⟨#[]⟩, .int .i64 0, .int .i64 0], .int .i64 0]) (by simp [results, Tryz.results88, go_sem]) rfl ⟨4, _, _, _, _, rfl, by rw [wordSym_no _ (.inl h1)]; rfl, (by repeat (first | exact Same.refl _ _ | refine Same.setCell ?_ (.inr (by simp)) _ | refine Same.alloc ?_ _))⟩
    · have h1 : (s.toList == [35, 116]) = true := by assumption
      rw [Lib.toList_data] at h1
      exact bodyPost_ret (v := .tuple #[.agg #[.int .u8 8, .string ⟨#[]⟩, .int .i64 0, .int .i64 0], .int .i64 0]) (by simp [results, Tryz.results88, go_sem]) rfl ⟨8, _, _, _, _, rfl, by rw [wordSym_no _ (.inr (.inl h1))]; rfl, (by repeat (first | exact Same.refl _ _ | refine Same.setCell ?_ (.inr (by simp)) _ | refine Same.alloc ?_ _))⟩
    · have h1 : (s.toList == [35, 102]) = true := by assumption
      rw [Lib.toList_data] at h1
      exact bodyPost_ret (v := .tuple #[.agg #[.int .u8 7, .string ⟨#[]⟩, .int .i64 0, .int .i64 0], .int .i64 0]) (by simp [results, Tryz.results88, go_sem]) rfl ⟨7, _, _, _, _, rfl, by rw [wordSym_no _ (.inr (.inr (.inl h1)))]; rfl, (by repeat (first | exact Same.refl _ _ | refine Same.setCell ?_ (.inr (by simp)) _ | refine Same.alloc ?_ _))⟩
    · have g1 : (s.data.toList == [46]) = false := by rw [← Lib.toList_data]; assumption
      have g2 : (s.data.toList == [35, 116]) = false := by rw [← Lib.toList_data]; assumption
      have g3 : (s.data.toList == [35, 102]) = false := by rw [← Lib.toList_data]; assumption
      have HW := Lib.hid (fun hd => wordSym_of s.data.toList g1 g2 g3 hd)
      clear g1 g2 g3
      have f1 : (s.toList == [46]) = false := by assumption
      have f2 : (s.toList == [35, 116]) = false := by assumption
      have f3 : (s.toList == [35, 102]) = false := by assumption
      rw [f1, f2, f3]
      clear f1 f2 f3
      go_loop [6, 7] (fun a i => ∃ k : Nat, k ≤ t.size ∧ i = .int .i64 k ∧ a = .bool (decide (0 < t.size) && (t.data.toList.take k).all (fun b => Cd.isDigN b.toNat))) (fun _ i => t.size - (intOf i).toNat)
      case atStart => exact ⟨0, Nat.zero_le _, rfl, by first | (simp; done) | simp [h0]⟩
      case round =>
        obtain ⟨k, hk, rfl, rfl⟩ := hrel
        obtain ⟨q, hq⟩ : ∃ q, (decide (0 < t.size) && (t.data.toList.take k).all (fun b => Cd.isDigN b.toNat)) = q := ⟨_, rfl⟩
        rw [hq]
        have HQ := Lib.hid hq
        clear hq
        by_cases hlt : k < t.size
        · have hc := fun w => digitR_any (w := w) t[k].toNat t[k].toNat_lt
          obtain ⟨dg, hdg⟩ : ∃ dg, Cd.isDigN t[k].toNat = dg := ⟨_, rfl⟩
          rw [hdg] at hc
          have HDG := Lib.hid hdg
          clear hdg
          cases q
          all_goals
            go_wp2_with (go_at_call 114; refine (hc _).mono ?_; rintro e w' ⟨rfl, rfl⟩)
            go_round
            case rel => exact ⟨k + 1, by omega, by go_num, by rw [all_take_snoc _ _ hlt, HDG.out, ← Bool.and_assoc, HQ.out]; simp⟩
            case measure => simp [intOf]; omega
        · have hfull : Cd.allDig t.data.toList = q := by
            rw [← HQ.out, List.take_of_length_le (by simp; omega)]
            unfold Cd.allDig
            rw [Bool.and_comm]
            congr 1
            rw [Bool.eq_iff_iff]
            simp
            rw [← ByteArray.size_data, Array.size_pos_iff]
          cases q
          · have hW := HW.out (by rw [HB.out]; exact hfull)
            rw [HB.out, getD_zero s h0, show s.data.toList.length = s.size by simp] at hW
            have h45 : s[0].toNat = 45 := by have := eq_of_beq HM.out; omega
            rw [show decide (s[0].toNat = 35) = false from by rw [h45]; rfl, Bool.false_or] at hW
            have hc := fun w => digitR_any (w := w) s[0].toNat s[0].toNat_lt
            rw [show Cd.isDigN s[0].toNat = false from by rw [h45]; rfl] at hc
            have f35 : ((s[0].toNat : Int) == 35) = false := by rw [h45]; rfl
            by_cases c1 : 1 < s.size
            · have ht0 : 0 < t.size := by omega
              have e0 : (t.data.toList.getD 0 0).toNat = s[1].toNat := by
                rw [HD1.out, List.getD, List.getElem?_drop, ← byte_at s 1 c1, List.getElem?_eq_getElem (by simpa using c1)]; rfl
              rw [some_byte t ht0, Bool.not_false, Bool.true_and, e0] at hW
              have hc1 := fun w => digitR_any (w := w) s[1].toNat s[1].toNat_lt
              obtain ⟨d1, hd1⟩ : ∃ d, Cd.isDigN s[1].toNat = d := ⟨_, rfl⟩
              rw [hd1] at hc1 hW
              have HWS := Lib.hid hW
              clear hd1 hW hfull e0 h45
              cases d1
              · by_cases c32 : 32 < s.size
                · have H32 := Lib.hid c32
                  go_wp2_with (go_at_call 114; first | (refine (hc _).mono ?_; rintro e w' ⟨rfl, rfl⟩) | (refine (hc1 _).mono ?_; rintro e w' ⟨rfl, rfl⟩))
                  exact bodyPost_ret (v := .tuple #[.agg #[.int .u8 0, .string ⟨#[]⟩, .int .i64 0, .int .i64 0], .int .i64 51]) (by simp [results, Tryz.results88, go_sem]) rfl ⟨0, _, _, _, _, rfl, by rw [HWS.out, decide_eq_true H32.out]; rfl, (by repeat (first | exact Same.refl _ _ | refine Same.setCell ?_ (.inr (by simp)) _ | refine Same.alloc ?_ _))⟩
                · have H32 := Lib.hid c32
                  have c33 : s.size ≤ 32 := by omega
                  clear c32
                  go_wp2_with (go_at_call 114; first | (refine (hc _).mono ?_; rintro e w' ⟨rfl, rfl⟩) | (refine (hc1 _).mono ?_; rintro e w' ⟨rfl, rfl⟩))
                  exact bodyPost_ret (v := .tuple #[.agg #[.int .u8 6, .string s, .int .i64 0, .int .i64 0], .int .i64 0]) (by simp [results, Tryz.results88, go_sem]) rfl ⟨6, _, _, _, _, rfl, by rw [HWS.out, decide_eq_false H32.out]; rfl, (by repeat (first | exact Same.refl _ _ | refine Same.setCell ?_ (.inr (by simp)) _ | refine Same.alloc ?_ _))⟩
              · go_wp2_with (go_at_call 114; first | (refine (hc _).mono ?_; rintro e w' ⟨rfl, rfl⟩) | (refine (hc1 _).mono ?_; rintro e w' ⟨rfl, rfl⟩))
                exact bodyPost_ret (v := .tuple #[.agg #[.int .u8 0, .string ⟨#[]⟩, .int .i64 0, .int .i64 0], .int .i64 51]) (by simp [results, Tryz.results88, go_sem]) rfl ⟨0, _, _, _, _, rfl, by rw [HWS.out]; simp, (by repeat (first | exact Same.refl _ _ | refine Same.setCell ?_ (.inr (by simp)) _ | refine Same.alloc ?_ _))⟩
            · have ht0 : ¬ 0 < t.size := by omega
              rw [no_byte t ht0] at hW
              have c33 : s.size ≤ 1 := by omega
              have HWS : Hid (Cd.wordSym s.data.toList = true) := Lib.hid (by rw [hW, decide_eq_false (by omega)]; rfl)
              clear hW hfull h45 c1
              go_wp2_with (go_at_call 114; refine (hc _).mono ?_; rintro e w' ⟨rfl, rfl⟩)
              exact bodyPost_ret (v := .tuple #[.agg #[.int .u8 6, .string s, .int .i64 0, .int .i64 0], .int .i64 0]) (by simp [results, Tryz.results88, go_sem]) rfl ⟨6, _, _, _, _, rfl, by rw [HWS.out]; rfl, (by repeat (first | exact Same.refl _ _ | refine Same.setCell ?_ (.inr (by simp)) _ | refine Same.alloc ?_ _))⟩
          · have hall : t.data.toList.all (fun b => Cd.isDigN b.toNat) = true := by unfold Cd.allDig at hfull; exact (Bool.and_eq_true_iff.1 hfull).1
            have HN := fun W => numberR_any (w := W) t (by unfold maxLen; omega) true hall
            unfold NumR at HN
            have HF : Hid (Cd.allDig (Cd.bare s.data.toList) = true) := Lib.hid (by rw [HB.out]; exact hfull)
            clear hfull hall
            go_wp2_with fail
            refine (HN _).mono ?_
            rintro e w2 ⟨n, bb, rfl, rfl⟩
            cases bb
            · go_wp2_with fail
              exact bodyPost_ret (v := .tuple #[.agg #[.int .u8 0, .string ⟨#[]⟩, .int .i64 0, .int .i64 0], .int .i64 52]) (by simp [results, Tryz.results88, go_sem]) rfl ⟨0, _, _, _, _, rfl, by rw [wordSym_no _ (.inr (.inr (.inr HF.out)))]; rfl, (by repeat (first | exact Same.refl _ _ | refine Same.setCell ?_ (.inr (by simp)) _ | refine Same.alloc ?_ _))⟩
            · go_wp2_with fail
              exact bodyPost_ret (v := .tuple #[.agg #[.int .u8 5, .string ⟨#[]⟩, .int .i64 n, .int .i64 0], .int .i64 0]) (by simp [results, Tryz.results88, go_sem]) rfl ⟨5, _, _, _, _, rfl, by rw [wordSym_no _ (.inr (.inr (.inr HF.out)))]; rfl, (by repeat (first | exact Same.refl _ _ | refine Same.setCell ?_ (.inr (by simp)) _ | refine Same.alloc ?_ _))⟩
end Ck
end Go.Proofs.YticaipedpcmhfaaGreatDoor
/- Layer 5, the document's answer: what a symbol is; layer 8: may an instruction have that argument? -/
namespace Go.Proofs.YticaipedpcmhfaaGreatDoor
open Go.RowKit Hp
namespace Ck
variable {w w' : World}

set_option maxHeartbeats 1000000 in
theorem isSymbolR_any (s : ByteArray) (hs : s.size ≤ 281474976710656) : Calls Tryz.prog 27 #[.string s] w fun e w' => e = .returned (.bool (Cd.sym s)) ∧ Same [] w w' := by
  have hw := fun w h0 => wordR_any (w := w) s hs h0
  unfold WordP at hw
  have hsz : s.size ≤ 9223372036854775807 := by omega
  by_cases h0 : 0 < s.size
  · have hbe : s.toList.isEmpty = false := by rw [Lib.toList_data, some_byte s h0]
    have hbn : s.toList = [] ↔ False := by
      rw [Lib.toList_data]
      exact ⟨fun h => by have := some_byte s h0; rw [h] at this; simp at this, False.elim⟩
    have hw' := fun w => hw w h0
    clear hw
    go_enter Tryz.func27, Tryz.ntmps27
    go_wp2_with fail
    go_loop [3] (fun i => ∃ k : Nat, k ≤ s.size ∧ i = .int .i64 k ∧ (s.data.toList.take k).all (fun b => Cd.isWordN b.toNat) = true) (fun i => s.size - (intOf i).toNat)
    case atStart => exact ⟨0, Nat.zero_le _, rfl, by simp⟩
    case round =>
      obtain ⟨k, hk, rfl, ha⟩ := hrel
      have HA : Hid ((s.data.toList.take k).all (fun b => Cd.isWordN b.toNat) = true) := Lib.hid ha
      clear ha
      by_cases hlt : k < s.size
      · have hc := plainR_any (w := w) s[k].toNat s[k].toNat_lt
        cases hb : Cd.isWordN s[k].toNat
        · rw [hb] at hc
          have HB : Hid (Cd.isWordN s[k].toNat = false) := Lib.hid hb
          clear hb
          go_wp2_with (go_at_call 87; refine hc.mono ?_; rintro e w' ⟨rfl, rfl⟩)
          go_ret
          exact ⟨ret_bool (by unfold Cd.sym Cd.isSym; rw [all_no s _ k hlt HB.out, Bool.false_and]), Same.refl _ _⟩
        · rw [hb] at hc
          have HB : Hid (Cd.isWordN s[k].toNat = true) := Lib.hid hb
          clear hb
          go_wp2_with (go_at_call 87; refine hc.mono ?_; rintro e w' ⟨rfl, rfl⟩)
          go_round
          case rel => exact ⟨k + 1, by omega, by go_num, all_snoc s _ k hlt HA.out HB.out⟩
          case measure => simp [intOf]; omega
      · have HE : Hid (s.data.toList.all (fun b => Cd.isWordN b.toNat) = true) := Lib.hid (all_end s _ k hlt HA.out)
        have HS : Hid (Cd.sym s = Cd.wordSym s.data.toList) := Lib.hid (by unfold Cd.sym Cd.isSym; rw [HE.out, some_byte s h0]; simp)
        go_wp2_with fail
        refine (hw' _).mono ?_
        rintro e w2 ⟨kk, tt, nn, aa, er, rfl, hy, hk2⟩
        have HY := Lib.hid hy
        have HK := Lib.hid hk2
        clear hy hk2
        by_cases he : er = 0
        · have he' : (er == 0) = true := by rw [he]; rfl
          have HE0 := Lib.hid he
          clear he
          go_wp2_with fail
          go_ret
          refine ⟨ret_bool ?_, HK.out.alloc _⟩
          rw [HS.out, ← HY.out, HE0.out]
          simp [Bool.beq_eq_decide_eq]
        · have he' : (er == 0) = false := by rw [beq_eq_false_iff_ne]; exact he
          have HE0 := Lib.hid he
          clear he
          go_wp2_with fail
          go_ret
          refine ⟨ret_bool ?_, HK.out.alloc _⟩
          rw [HS.out, ← HY.out]
          simp [HE0.out]
  · have hbn : s.toList = [] := by rw [Lib.toList_data, no_byte s h0]
    clear hw
    go_enter Tryz.func27, Tryz.ntmps27
    go_wp2
    go_ret
    exact ⟨ret_bool (by unfold Cd.sym Cd.isSym; rw [no_byte s h0]; rfl), Same.refl _ _⟩

set_option maxHeartbeats 4000000 in
theorem argR_any (cv pv gv v : Value) (c : Cd.Co) (p : Cd.Pr) (i : Cd.In) (hr : RCoAt w cv pv gv c) (hp : RPr w v p) (hop : 1 ≤ i.op ∧ i.op ≤ 18) (ha : in64 i.a) (_ : p.code.length ≤ 4096) : Calls Tryz.prog 89 #[.agg #[cv, pv, gv], v, .agg #[.int .u8 i.op, .int .i64 i.a]] w fun e w' => e = .returned (.bool (decide (Cd.lo i.op ≤ i.a ∧ i.a ≤ Cd.hi c i.op p.code.length))) ∧ Same [] w w' := by
  obtain ⟨A1, c1, rfl, k1, m1, _⟩ := hr.consts
  obtain ⟨kv, ⟨A2, c2, rfl, k2, m2, _⟩, _⟩ := hr.procs
  obtain ⟨A3, c3, rfl, k3, m3, _⟩ := hr.globals
  obtain ⟨pk, rfl, A4, c4, rfl, k4, m4, _⟩ := hp
  clear hr
  unfold maxLen at m1 m2 m3 m4
  obtain ⟨op, a⟩ := i
  dsimp only at *
  unfold in64 at ha
  obtain ⟨ha1, ha2⟩ := ha
  rcases ops18 hop with rfl | rfl | rfl | rfl | rfl | rfl | rfl | rfl | rfl | rfl | rfl | rfl | rfl | rfl | rfl | rfl | rfl | rfl
  all_goals
    clear hop
    go_enter Tryz.func89, Tryz.ntmps89
    go_wp2_with fail
    all_goals
      go_ret
      exact ⟨ret_bool (by rw [Bool.eq_iff_iff]; simp [Cd.lo, Cd.hi]; try omega), (((Same.refl _ _).alloc _).alloc _).alloc _⟩
end Ck
end Go.Proofs.YticaipedpcmhfaaGreatDoor
