/- Layer 8, package code: long, place, Make. -/
import Derived.Test.YticaipedpcmhfaaGreatDoorCkT1
import Derived.Lib.ParseIntBTie
import Derived.Lib.AtoiErrMem
import Derived.WalkSpells
import Derived.Test.YticaipedpcmhfaaGreatDoorCkW1
import Derived.Test.YticaipedpcmhfaaGreatDoorCd
import Derived.Deep.LoopGhost
namespace Go.Proofs.YticaipedpcmhfaaGreatDoor
open Go.RowKit Hp
namespace Ck
variable {w w' : World}

/-- What long, place, readConst, readInstr answer: whether it is; if it is, what. -/
def Got {α : Type} (f : Option α) (enc : α → Value) (P : Value → Prop) (w : World) (e : Ending) (w' : World) : Prop := ∃ v, e = .returned (.tuple #[v, .bool f.isSome]) ∧ P v ∧ (∀ x, f = some x → v = enc x) ∧ Same [] w w'
def isInt64 (v : Value) : Prop := ∃ n : Int, v = .int .i64 n ∧ in64 n

theorem longT_ok {s : List UInt8} {v : Int} (h : Lib.parseIntB 64 s = .ok v) : Cd.longT s = if Lib.itoa v = s then some v else none := by unfold Cd.longT; rw [h]
theorem parse_in {s : List UInt8} {v : Int} (h : Lib.parseIntB 64 s = .ok v) : in64 v := by
  have := Lib.parseIntB_bounds h
  unfold in64
  have e : ((2 ^ (64 - 1) : Nat) : Int) = 9223372036854775808 := by decide
  rw [e] at this
  omega

theorem ret_vb {v : Value} {a b : Bool} (h : a = b) : Ending.returned (.tuple #[v, .bool a]) = .returned (.tuple #[v, .bool b]) := by rw [h]
theorem longT_no {s : List UInt8} (h : ∀ v, Lib.parseIntB 64 s ≠ .ok v) : Cd.longT s = none := by
  unfold Cd.longT
  cases hp : Lib.parseIntB 64 s with
  | ok v => exact absurd hp (h v)
  | _ => rfl

set_option maxHeartbeats 1000000 in
set_option maxRecDepth 100000 in
theorem long_any (s : ByteArray) (hs : s.size ≤ 281474976710656) (h : Vars w) : Calls Tryz.prog 130 #[.string s] w (Got (Cd.longT s.data.toList) (fun n => .int .i64 n) isInt64 w) := by
  cases hp : Lib.parseIntB 64 s.data.toList with
  | ok v =>
    have hv := parse_in hp
    obtain ⟨t, ht⟩ : ∃ t, bs (Lib.itoa v) = t := ⟨_, rfl⟩
    have htl : t.data.toList = Lib.itoa v := by rw [← ht]; rfl
    have HPI := Lib.hid (Tryz.strconv_ParseInt_10_at64_ok s (by omega) v hp w)
    have HF : ∀ w2, Same [] w w2 → Hid (Calls Tryz.prog 99 #[.int .i64 v, .int .i64 10] w2 fun e w' => e = .returned (.string t) ∧ Same [] w2 w') := fun w2 hs2 => Lib.hid (format_str v hv t ht (h.frame hs2 (by simp)))
    have HL := Lib.hid (longT_ok hp)
    have HV := Lib.hid hv
    have HTL := Lib.hid htl
    clear hp hv ht htl
    go_enter Tryz.func130, Tryz.ntmps130
    go_wp2_with fail
    refine HPI.out.mono ?_
    rintro e w2 ⟨rfl, hw2⟩
    have hs2 : Same [] w w2 := by
      rcases hw2 with rfl | ⟨t2, rfl⟩
      · exact Same.refl _ _
      · exact Same.of_below (Lib.bytesWorld_below w _ _)
    have HF2 := HF w2 hs2
    have HS2 := Lib.hid hs2
    clear hs2 HF hw2
    go_wp2_with fail
    refine HF2.out.mono ?_
    rintro e w3 ⟨rfl, hs3⟩
    have HS3 := Lib.hid (HS2.out.trans hs3)
    clear hs3
    go_wp2_with fail
    go_ret2
    refine ⟨.int .i64 v, ret_vb ?_, ⟨v, rfl, HV.out⟩, fun x hx => ?_, HS3.out⟩
    · rw [HL.out, Lib.toList_data, Lib.toList_data, HTL.out]
      by_cases hq : Lib.itoa v = s.data.toList
      · rw [if_pos hq, hq]; simp
      · rw [if_neg hq]
        simpa using hq
    · rw [HL.out] at hx
      by_cases hq : Lib.itoa v = s.data.toList
      · rw [if_pos hq] at hx; injection hx with hx; rw [hx]
      · rw [if_neg hq] at hx; cases hx
  | range =>
    obtain ⟨te, pe, hev⟩ := h.eran
    have HPI := Lib.hid (Tryz.strconv_ParseInt_10_at64_range s hs hp (.iface te pe) w hev (.inr ⟨te, pe, rfl⟩))
    have HL := Lib.hid (longT_no (fun v hv => by rw [hp] at hv; cases hv))
    clear hp h hev
    go_enter Tryz.func130, Tryz.ntmps130
    go_wp2_with fail
    refine HPI.out.mono ?_
    rintro e w2 ⟨N, rfl, _, _, hb⟩
    have HB := Lib.hid hb
    clear hb
    go_wp2_with fail
    go_ret2
    refine ⟨.int .i64 (Lib.intSat 64 s.data.toList), ret_vb (by rw [HL.out]; rfl), ⟨_, rfl, ?_⟩, fun x hx => by rw [HL.out] at hx; (cases hx), Same.of_below HB.out⟩
    unfold in64 Lib.intSat
    split <;> decide
  | _ =>
    obtain ⟨te, pe, hev⟩ := h.esyn
    have HPI := Lib.hid (Tryz.strconv_ParseInt_10_at64_syntax s hs hp (.iface te pe) w hev (.inr ⟨te, pe, rfl⟩))
    have HL := Lib.hid (longT_no (fun v hv => by rw [hp] at hv; cases hv))
    clear hp h hev
    go_enter Tryz.func130, Tryz.ntmps130
    go_wp2_with fail
    refine HPI.out.mono ?_
    rintro e w2 ⟨N, rfl, _, _, hb⟩
    have HB := Lib.hid hb
    clear hb
    go_wp2_with fail
    go_ret2
    exact ⟨.int .i64 0, ret_vb (by rw [HL.out]; rfl), ⟨0, rfl, by unfold in64; omega⟩, fun x hx => by rw [HL.out] at hx; (cases hx), Same.of_below HB.out⟩

set_option maxHeartbeats 1000000 in
theorem place_any (s : ByteArray) (hs : s.size ≤ 281474976710656) (h : Vars w) : Calls Tryz.prog 111 #[.string s] w (Got (Cd.placeT s.data.toList) (fun n => .int .i64 n) isInt64 w) := by
  have HLN := Lib.hid (long_any s hs h)
  unfold Got at HLN
  cases hl : Cd.longT s.data.toList with
  | none =>
    rw [hl] at HLN
    have HP : Hid (Cd.placeT s.data.toList = none) := Lib.hid (by unfold Cd.placeT; rw [hl])
    clear hl h
    go_enter Tryz.func111, Tryz.ntmps111
    go_wp2_with fail
    refine HLN.out.mono ?_
    rintro e w2 ⟨v, rfl, ⟨n, rfl, hn⟩, _, hs2⟩
    have HS2 := Lib.hid hs2
    have HN := Lib.hid hn
    obtain ⟨hn1, hn2⟩ := hn
    clear hs2
    go_wp2_with fail
    go_ret2
    exact ⟨.int .i64 n, ret_vb (by rw [HP.out]; rfl), ⟨_, rfl, HN.out⟩, fun x hx => by rw [HP.out] at hx; (cases hx), HS2.out⟩
  | some m =>
    rw [hl] at HLN
    have HP : Hid (Cd.placeT s.data.toList = if 0 ≤ m ∧ m ≤ 2147483647 then some m else none) := Lib.hid (by unfold Cd.placeT; rw [hl])
    clear hl h
    go_enter Tryz.func111, Tryz.ntmps111
    go_wp2_with fail
    refine HLN.out.mono ?_
    rintro e w2 ⟨v, rfl, ⟨n, rfl, hn⟩, hv, hs2⟩
    have hv' := hv m rfl
    injection hv' with _ hv'
    subst hv'
    have HS2 := Lib.hid hs2
    have HN := Lib.hid hn
    obtain ⟨hn1, hn2⟩ := hn
    clear hs2 hv
    by_cases q1 : 0 ≤ n
    · by_cases q2 : n ≤ 2147483647
      · have HP2 : Hid (Cd.placeT s.data.toList = some n) := Lib.hid (by rw [HP.out, if_pos ⟨q1, q2⟩])
        go_wp2_with fail
        go_ret2
        exact ⟨.int .i64 n, by rw [HP2.out]; simp, ⟨_, rfl, HN.out⟩, fun x hx => by rw [HP2.out] at hx; injection hx with hx; rw [hx], HS2.out⟩
      · have q2' : 2147483647 < n := by omega
        have HP2 : Hid (Cd.placeT s.data.toList = none) := Lib.hid (by rw [HP.out, if_neg (fun h => q2 h.2)])
        clear q2
        go_wp2_with fail
        go_ret2
        exact ⟨.int .i64 n, by rw [HP2.out]; first | (simp; done) | (simp; omega), ⟨_, rfl, HN.out⟩, fun x hx => by rw [HP2.out] at hx; (cases hx), HS2.out⟩
    · have q1' : n < 0 := by omega
      have HP2 : Hid (Cd.placeT s.data.toList = none) := Lib.hid (by rw [HP.out, if_neg (fun h => q1 h.1)])
      clear q1
      go_wp2_with fail
      go_ret2
      exact ⟨.int .i64 n, by rw [HP2.out]; first | (simp; done) | (simp; omega), ⟨_, rfl, HN.out⟩, fun x hx => by rw [HP2.out] at hx; (cases hx), HS2.out⟩
end Ck
end Go.Proofs.YticaipedpcmhfaaGreatDoor
/- Layer 1, package words: Make. -/
namespace Go.Proofs.YticaipedpcmhfaaGreatDoor
open Go.RowKit Hp
namespace Ck
variable {w w' : World}

theorem or_word (n : Int) (t : Nat) (ht : t ≤ 15) : bits .or .u64 (IntKind.u64.wrap (IntKind.u64.wrap n * 16)) (t : Int) = Cd.wordOf t n := by
  rw [IntKind.wrap_u64, IntKind.wrap_u64]
  obtain ⟨z, hz⟩ : ∃ z : Nat, (n % 18446744073709551616 * 16) % 18446744073709551616 = ((16 * z : Nat) : Int) := ⟨((n % 18446744073709551616 * 16) % 18446744073709551616 / 16).toNat, by omega⟩
  have hlt : 16 * z < 18446744073709551616 := by omega
  have hle : 16 * z + 16 ≤ 18446744073709551616 := by omega
  have e1 : (n % 18446744073709551616 * 16) % 18446744073709551616 = ((16 * z : Nat) : Int) := hz
  rw [show ((18446744073709551616 : Int)) = 18446744073709551616 from rfl] at *
  rw [e1, u64_or_nat (16 * z) t hlt (by omega)]
  have h2 := Nat.two_pow_add_eq_or_of_lt (i := 4) (b := t) (by omega) z
  rw [show (2 : Nat) ^ 4 = 16 from rfl] at h2
  rw [← h2]
  unfold Cd.wordOf
  push_cast at *
  omega

set_option maxHeartbeats 1000000 in
theorem make_any (t : Nat) (n : Int) (ht : 1 ≤ t ∧ t ≤ 8) (hn : in64 n) (h : Vars w) : Calls Tryz.prog 85 #[.int .u8 t, .int .i64 n] w fun e w' => e = .returned (.tuple (if Cd.may t n then #[.int .u64 (Cd.wordOf t n), .int .i64 0] else #[.int .u64 0, .int .i64 11])) ∧ w = w' := by
  have hm := may_any t n ht.2 h
  obtain ⟨h1, h2⟩ := ht
  obtain ⟨h3, h4⟩ := hn
  clear h
  cases hb : Cd.may t n
  · rw [hb] at hm
    clear hb
    go_enter Tryz.func85, Tryz.ntmps85
    go_wp2_with (go_at_call 113; refine hm.mono ?_; rintro e w' ⟨rfl, rfl⟩)
    go_ret2
    exact ⟨rfl, rfl⟩
  · rw [hb] at hm
    have hr : -576460752303423488 ≤ n ∧ n ≤ 2305843009213693951 := by
      unfold Cd.may Cd.least Cd.most at hb
      rw [decide_eq_true_eq] at hb
      obtain ⟨a, b⟩ := hb
      repeat' split at a
      all_goals (repeat' split at b) <;> omega
    clear hb
    go_enter Tryz.func85, Tryz.ntmps85
    go_wp2_with (go_at_call 113; refine hm.mono ?_; rintro e w' ⟨rfl, rfl⟩)
    go_ret2
    refine ⟨?_, rfl⟩
    rw [← or_word n t (by omega)]
    rfl
end Ck
end Go.Proofs.YticaipedpcmhfaaGreatDoor
/- Layer 8, package code: readConst. -/
namespace Go.Proofs.YticaipedpcmhfaaGreatDoor
open Go.RowKit Hp
namespace Ck
variable {w w' : World}

def isU64 (v : Value) : Prop := ∃ n : Int, v = .int .u64 n ∧ 0 ≤ n ∧ n < 18446744073709551616

theorem range_step (k m : Nat) (h : k < m) : List.range' k (m - k) = k :: List.range' (k + 1) (m - (k + 1)) := by
  rw [show m - k = (m - (k + 1)) + 1 by omega, List.range'_succ]

theorem wordOf_in (t n : Int) : 0 ≤ Cd.wordOf t n ∧ Cd.wordOf t n < 18446744073709551616 := by unfold Cd.wordOf; omega

/-- strings.CutPrefix, in our own words. -/
theorem cut_prefix (s p : ByteArray) (x : Bool) (hx : Lib.hasPrefix s.data.toList p.data.toList = x) (r : ByteArray) (hr : bs (Lib.trimPrefix s.data.toList p.data.toList) = r) : ∀ w, Calls Tryz.prog 107 #[.string s, .string p] w fun e w' => e = .returned (.tuple #[.string r, .bool x]) ∧ w' = w := fun w => by
  have := Tryz.strings_CutPrefix s p w
  rw [hx] at this
  rw [← hr]
  exact this
theorem trim_len (s p : List UInt8) : (Lib.trimPrefix s p).length ≤ s.length := by
  unfold Lib.trimPrefix
  split
  · simp
  · exact Nat.le_refl _
theorem trim_drop (s p : List UInt8) (h : Lib.hasPrefix s p = true) : Lib.trimPrefix s p = s.drop p.length := by
  unfold Lib.trimPrefix
  rw [if_pos h]

theorem tag_may (k : Nat) (hk : k < 8) (hk1 : 1 ≤ k) (h : Cd.sp (Cd.tagL.getD k []) = false) : Cd.may k 0 = true := by
  have : ∀ k : Fin 8, 1 ≤ k.val → Cd.sp (Cd.tagL.getD k.val []) = false → Cd.may (k.val : Nat) 0 = true := by decide
  exact this ⟨k, hk⟩ hk1 h

set_option maxHeartbeats 4000000 in
set_option maxRecDepth 100000 in
theorem readConst_any (s : ByteArray) (hs : s.size ≤ 281474976710656) (h : Vars w) : Calls Tryz.prog 109 #[.string s] w (Got (Cd.constR s.data.toList) (fun n => .int .u64 n) isU64 w) := by
  have HV := Lib.hid h
  have hz : 0 < w.heap.size := Nat.lt_of_lt_of_le (by decide) h.size
  clear h
  go_enter Tryz.func109, Tryz.ntmps109
  go_wp2_with fail
  go_loopg [4, 5, 6, 7, 8, 9, 10, 11, 12, 13] 7 (fun gk t _ _ _ _ _ _ _ _ _ wr => ∃ k : Nat, 1 ≤ k ∧ k ≤ 8 ∧ gk = 8 - k ∧ t = .int .u8 k ∧ wr = w ∧ Cd.constR s.data.toList = Cd.constFrom (List.range' k (8 - k)) s.data.toList)
  case atStart => exact ⟨1, by omega, by omega, rfl, rfl, rfl, rfl⟩
  case round =>
    obtain ⟨k, hk1, hk2, rfl, rfl, rfl, hc⟩ := hrel
    by_cases hlt : k ≤ 7
    · have hcell := HV.out.tags k (by omega)
      obtain ⟨nm, hnm⟩ : ∃ nm, tagS k = nm := ⟨_, rfl⟩
      have hnl : nm.data.toList = Cd.tagL.getD k [] := by rw [← hnm]; rfl
      rw [hnm] at hcell
      have hsz : nm.size ≤ 11 := by rw [list_size nm hnl]; exact tag_short k
      rw [range_step k 8 (by omega), Cd.constFrom] at hc
      cases hsp : Cd.sp (Cd.tagL.getD k [])
      · rw [hsp, if_neg (by simp)] at hc
        have hsuf := suffix_sp nm (by omega) false (by rw [hnl]; exact hsp)
        by_cases hq : s.data.toList = Cd.tagL.getD k []
        · rw [if_pos hq] at hc
          have HMK := Lib.hid (make_any (w := wr) k 0 (by omega) (by unfold in64; omega) HV.out)
          rw [tag_may k (by omega) hk1 hsp, if_pos rfl] at HMK
          have hqq : (s.toList == nm.toList) = true := by rw [Lib.toList_data, Lib.toList_data, hnl, hq]; simp
          have HC := Lib.hid hc
          clear hc hq hnl hsp hnm
          go_wp2_with (first
            | (go_at_call 98; refine (hsuf _).mono ?_; rintro e w' ⟨rfl, rfl⟩)
            | (go_at_call 85; refine HMK.out.mono ?_; rintro e w' ⟨rfl, rfl⟩))
          go_ret2
          exact ⟨.int .u64 (Cd.wordOf k 0), by rw [HC.out]; rfl, ⟨_, rfl, wordOf_in _ _⟩, fun x hx => by rw [HC.out] at hx; injection hx with hx; rw [← hx], Same.refl _ _⟩
        · rw [if_neg hq] at hc
          have hqq : (s.toList == nm.toList) = false := by rw [Lib.toList_data, Lib.toList_data, hnl]; simpa using hq
          have HC := Lib.hid hc
          clear hc hq hnl hsp hnm
          go_wp2_with (first
            | (go_at_call 98; refine (hsuf _).mono ?_; rintro e w' ⟨rfl, rfl⟩))
          go_roundg (8 - (k + 1))
          case measure => omega
          case rel => exact ⟨k + 1, by omega, by omega, rfl, by go_num, rfl, HC.out⟩
      · rw [hsp, if_pos rfl] at hc
        have hsuf := suffix_sp nm (by omega) true (by rw [hnl]; exact hsp)
        obtain ⟨r, hr⟩ : ∃ r, bs (Lib.trimPrefix s.data.toList nm.data.toList) = r := ⟨_, rfl⟩
        have hrz : r.size ≤ 281474976710656 := by
          have := trim_len s.data.toList nm.data.toList
          rw [← hr, bs_size]
          rw [← list_size s rfl] at this
          omega
        cases hpre : Lib.hasPrefix s.data.toList (Cd.tagL.getD k [])
        · rw [hpre, if_neg (by simp)] at hc
          have hcut := cut_prefix s nm false (by rw [hnl]; exact hpre) r hr
          have HC := Lib.hid hc
          clear hc hpre hnl hsp hnm hr
          go_wp2_with (first
            | (go_at_call 98; refine (hsuf _).mono ?_; rintro e w' ⟨rfl, rfl⟩)
            | (go_at_call 107; refine (hcut _).mono ?_; rintro e w' ⟨rfl, rfl⟩))
          go_roundg (8 - (k + 1))
          case measure => omega
          case rel => exact ⟨k + 1, by omega, by omega, rfl, by go_num, rfl, HC.out⟩
        · rw [hpre, if_pos rfl] at hc
          have hcut := cut_prefix s nm true (by rw [hnl]; exact hpre) r hr
          have hrl : r.data.toList = s.data.toList.drop (Cd.tagL.getD k []).length := by
            rw [← hr, bs_list, hnl, trim_drop _ _ hpre]
          have HLN := Lib.hid (long_any r hrz HV.out)
          unfold Got at HLN
          rw [hrl] at HLN
          cases hl : Cd.longT (s.data.toList.drop (Cd.tagL.getD k []).length) with
          | none =>
            rw [hl] at hc HLN
            have HC := Lib.hid hc
            clear hc hl hrl hpre hnl hsp hnm hr
            go_wp2_with (first
              | (go_at_call 98; refine (hsuf _).mono ?_; rintro e w' ⟨rfl, rfl⟩)
              | (go_at_call 107; refine (hcut _).mono ?_; rintro e w' ⟨rfl, rfl⟩))
            refine HLN.out.mono ?_
            rintro e w2 ⟨v, rfl, ⟨n, rfl, hn⟩, _, hs2⟩
            have HMK := Lib.hid (make_any (w := w2) k n (by omega) hn (HV.out.frame hs2 (by simp)))
            have HS2 := Lib.hid hs2
            clear hs2 hn
            cases hmay : Cd.may k n
            · rw [hmay, if_neg (by simp)] at HMK
              clear hmay
              go_wp2_with (go_at_call 85; refine HMK.out.mono ?_; rintro e w' ⟨rfl, rfl⟩)
              go_ret2
              exact ⟨.int .u64 0, by rw [HC.out]; rfl, ⟨0, rfl, by omega, by omega⟩, fun x hx => by rw [HC.out] at hx; (cases hx), HS2.out⟩
            · rw [hmay, if_pos rfl] at HMK
              clear hmay
              go_wp2_with (go_at_call 85; refine HMK.out.mono ?_; rintro e w' ⟨rfl, rfl⟩)
              go_ret2
              exact ⟨.int .u64 (Cd.wordOf k n), by rw [HC.out]; rfl, ⟨_, rfl, wordOf_in _ _⟩, fun x hx => by rw [HC.out] at hx; (cases hx), HS2.out⟩
          | some m =>
            rw [hl] at hc HLN
            have HC := Lib.hid hc
            clear hc hl hrl hpre hnl hsp hnm hr
            go_wp2_with (first
              | (go_at_call 98; refine (hsuf _).mono ?_; rintro e w' ⟨rfl, rfl⟩)
              | (go_at_call 107; refine (hcut _).mono ?_; rintro e w' ⟨rfl, rfl⟩))
            refine HLN.out.mono ?_
            rintro e w2 ⟨v, rfl, ⟨n, rfl, hn⟩, hv, hs2⟩
            have hv' := hv m rfl
            injection hv' with _ hv'
            subst hv'
            have HMK := Lib.hid (make_any (w := w2) k n (by omega) hn (HV.out.frame hs2 (by simp)))
            have HS2 := Lib.hid hs2
            clear hs2 hn hv
            cases hmay : Cd.may k n
            · rw [hmay, if_neg (by simp)] at HMK
              have HC2 : Hid (Cd.constR s.data.toList = none) := Lib.hid (by rw [HC.out]; unfold Cd.makeW; rw [if_neg (by rw [hmay]; simp)])
              clear hmay
              go_wp2_with (go_at_call 85; refine HMK.out.mono ?_; rintro e w' ⟨rfl, rfl⟩)
              go_ret2
              exact ⟨.int .u64 0, by rw [HC2.out]; rfl, ⟨0, rfl, by omega, by omega⟩, fun x hx => by rw [HC2.out] at hx; (cases hx), HS2.out⟩
            · rw [hmay, if_pos rfl] at HMK
              have HC2 : Hid (Cd.constR s.data.toList = some (Cd.wordOf k n)) := Lib.hid (by rw [HC.out]; unfold Cd.makeW; rw [if_pos ⟨by omega, by omega, hmay⟩])
              clear hmay
              go_wp2_with (go_at_call 85; refine HMK.out.mono ?_; rintro e w' ⟨rfl, rfl⟩)
              go_ret2
              exact ⟨.int .u64 (Cd.wordOf k n), by rw [HC2.out]; rfl, ⟨_, rfl, wordOf_in _ _⟩, fun x hx => by rw [HC2.out] at hx; injection hx with hx; rw [hx], HS2.out⟩
    · obtain rfl : k = 8 := by omega
      have HC : Hid (Cd.constR s.data.toList = none) := Lib.hid (by rw [hc]; rfl)
      clear hc
      go_wp2_with fail
      go_ret2
      exact ⟨.int .u64 0, by rw [HC.out]; rfl, ⟨0, rfl, by omega, by omega⟩, fun x hx => by rw [HC.out] at hx; (cases hx), Same.refl _ _⟩
end Ck
end Go.Proofs.YticaipedpcmhfaaGreatDoor
/- Layer 8, package code: readInstr. -/
namespace Go.Proofs.YticaipedpcmhfaaGreatDoor
open Go.RowKit Hp
namespace Ck
variable {w w' : World}

def encI (x : Cd.In) : Value := .agg #[.int .u8 x.op, .int .i64 x.a]
def isInstr (v : Value) : Prop := ∃ x : Cd.In, v = encI x ∧ WIn x

/-- A box of two cells, behind a call that leaves it alone: it may be written. -/
theorem box_keep2 {w W' : World} {a b : Value} {T : TypeId} (hs : Same [] (w.alloc (.cells #[a, b] T)) W') : W'.cell? ⟨w.heap.size, 0, none⟩ = some a ∧ W'.cell? ⟨w.heap.size, 1, none⟩ = some b ∧ (∀ i, W'.frozen? ⟨w.heap.size, i, none⟩ = false) ∧ w.heap.size < W'.heap.size := by
  have hb : Blk W' w.heap.size T [a, b] := (Blk.new w T [a, b]).frame hs (by simp)
  exact ⟨hb.cell 0, hb.cell 1, hb.frozen, hb.lt⟩

theorem range_step19 (k : Nat) (h : k < 19) : List.range' k (19 - k) = k :: List.range' (k + 1) (19 - (k + 1)) := by
  rw [show 19 - k = (19 - (k + 1)) + 1 by omega, List.range'_succ]

theorem got_instr {f : Option Cd.In} {w w' : World} {op a : Int} {x : Bool} (h1 : x = f.isSome) (h2 : WIn ⟨op, a⟩) (h3 : ∀ y, f = some y → y = ⟨op, a⟩) (hs : Same [] w w') : Got f encI isInstr w (.returned (.tuple #[.agg #[.int .u8 op, .int .i64 a], .bool x])) w' :=
  ⟨.agg #[.int .u8 op, .int .i64 a], by rw [h1], ⟨⟨op, a⟩, rfl, h2⟩, fun y hy => by rw [h3 y hy]; rfl, hs⟩

set_option maxHeartbeats 4000000 in
set_option maxRecDepth 100000 in
theorem readInstr_any (s : ByteArray) (hs : s.size ≤ 281474976710656) (h : Vars w) : Calls Tryz.prog 108 #[.string s] w (Got (Cd.instrR s.data.toList) encI isInstr w) := by
  have HV := Lib.hid (h.frame ((Same.refl [] w).alloc (.cells #[.int .u8 0, .int .i64 0] 82)) (by simp))
  have hz : 1 < w.heap.size := Nat.lt_of_lt_of_le (by decide) h.size
  clear h
  go_enter Tryz.func108, Tryz.ntmps108
  go_wp2_with fail
  go_loopg [4, 5, 6, 7, 8, 9] 18 (fun gk t _ _ _ _ _ wr => ∃ k : Nat, 1 ≤ k ∧ k ≤ 19 ∧ gk = 19 - k ∧ t = .int .u8 k ∧ wr = w.alloc (.cells #[.int .u8 0, .int .i64 0] 82) ∧ Cd.instrR s.data.toList = Cd.instrFrom (List.range' k (19 - k)) s.data.toList)
  case atStart => exact ⟨1, by omega, by omega, rfl, rfl, rfl, rfl⟩
  case round =>
    obtain ⟨k, hk1, hk2, rfl, rfl, rfl, hc⟩ := hrel
    by_cases hlt : k ≤ 18
    · have hcell0 := HV.out.called k (by omega)
      have hcell : w.cell? ⟨1, k, none⟩ = some (.string (callS k)) := by
        rw [← hcell0]; exact ((Same.cell ((Same.refl [] w).alloc _) hz (by simp))).symm
      obtain ⟨nm, hnm⟩ : ∃ nm, callS k = nm := ⟨_, rfl⟩
      have hnl : nm.data.toList = Cd.calledL.getD k [] := by rw [← hnm]; rfl
      rw [hnm] at hcell
      have hsz : nm.size ≤ 11 := by rw [list_size nm hnl]; exact called_short k
      rw [range_step19 k (by omega), Cd.instrFrom] at hc
      clear hcell0
      cases hsp : Cd.sp (Cd.calledL.getD k [])
      · rw [hsp, if_neg (by simp)] at hc
        have hsuf := suffix_sp nm (by omega) false (by rw [hnl]; exact hsp)
        by_cases hq : s.data.toList = Cd.calledL.getD k []
        · rw [if_pos hq] at hc
          have hqq : (s.toList == nm.toList) = true := by rw [Lib.toList_data, Lib.toList_data, hnl, hq]; simp
          have HC := Lib.hid hc
          clear hc hq hnl hsp hnm
          go_wp2_with (first
            | (go_at_call 98; refine (hsuf _).mono ?_; rintro e w' ⟨rfl, rfl⟩))
          exact bodyPost_ret (v := .tuple #[.agg #[.int .u8 k, .int .i64 0], .bool true]) (by simp [results, Tryz.results108, go_sem]) rfl (got_instr (by rw [HC.out]; rfl) ⟨by dsimp only; omega, by unfold in64; dsimp only; omega⟩ (fun y hy => by rw [HC.out] at hy; injection hy with hy; exact hy.symm) (by repeat (first | exact Same.refl _ _ | refine Same.setCell ?_ (.inr (by simp)) _ | refine Same.alloc ?_ _)))
        · rw [if_neg hq] at hc
          have hqq : (s.toList == nm.toList) = false := by rw [Lib.toList_data, Lib.toList_data, hnl]; simpa using hq
          have HC := Lib.hid hc
          clear hc hq hnl hsp hnm
          go_wp2_with (first
            | (go_at_call 98; refine (hsuf _).mono ?_; rintro e w' ⟨rfl, rfl⟩))
          go_roundg (19 - (k + 1))
          case measure => omega
          case rel => exact ⟨k + 1, by omega, by omega, rfl, by go_num, rfl, HC.out⟩
      · rw [hsp, if_pos rfl] at hc
        have hsuf := suffix_sp nm (by omega) true (by rw [hnl]; exact hsp)
        obtain ⟨r, hr⟩ : ∃ r, bs (Lib.trimPrefix s.data.toList nm.data.toList) = r := ⟨_, rfl⟩
        have hrz : r.size ≤ 281474976710656 := by
          have := trim_len s.data.toList nm.data.toList
          rw [← hr, bs_size]
          rw [← list_size s rfl] at this
          omega
        cases hpre : Lib.hasPrefix s.data.toList (Cd.calledL.getD k [])
        · rw [hpre, if_neg (by simp)] at hc
          have hcut := cut_prefix s nm false (by rw [hnl]; exact hpre) r hr
          have HC := Lib.hid hc
          clear hc hpre hnl hsp hnm hr
          go_wp2_with (first
            | (go_at_call 98; refine (hsuf _).mono ?_; rintro e w' ⟨rfl, rfl⟩)
            | (go_at_call 107; refine (hcut _).mono ?_; rintro e w' ⟨rfl, rfl⟩))
          go_roundg (19 - (k + 1))
          case measure => omega
          case rel => exact ⟨k + 1, by omega, by omega, rfl, by go_num, rfl, HC.out⟩
        · rw [hpre, if_pos rfl] at hc
          have hcut := cut_prefix s nm true (by rw [hnl]; exact hpre) r hr
          have hrl : r.data.toList = s.data.toList.drop (Cd.calledL.getD k []).length := by
            rw [← hr, bs_list, hnl, trim_drop _ _ hpre]
          have HLN := Lib.hid (place_any r hrz HV.out)
          unfold Got at HLN
          rw [hrl] at HLN
          cases hl : Cd.placeT (s.data.toList.drop (Cd.calledL.getD k []).length) with
          | none =>
            rw [hl] at hc HLN
            have HC := Lib.hid hc
            clear hc hl hrl hpre hnl hsp hnm hr
            go_wp2_with (first
              | (go_at_call 98; refine (hsuf _).mono ?_; rintro e w' ⟨rfl, rfl⟩)
              | (go_at_call 107; refine (hcut _).mono ?_; rintro e w' ⟨rfl, rfl⟩))
            refine HLN.out.mono ?_
            rintro e w2 ⟨v, rfl, ⟨n, rfl, hn⟩, _, hs2⟩
            obtain ⟨e0, e1, e2, e3⟩ := box_keep2 hs2
            have HS2 := Lib.hid (((Same.refl [] w).alloc _).trans hs2)
            have HN := Lib.hid hn
            clear hs2 hn
            go_wp2_with fail
            exact bodyPost_ret (v := .tuple #[.agg #[.int .u8 k, .int .i64 n], .bool false]) (by simp [results, Tryz.results108, go_sem, e0, e1]) rfl (got_instr (by rw [HC.out]; rfl) ⟨by dsimp only; omega, HN.out⟩ (fun y hy => by rw [HC.out] at hy; cases hy) (by repeat (first | exact HS2.out | refine Same.setCell ?_ (.inr (by simp)) _ | refine Same.alloc ?_ _)))
          | some m =>
            rw [hl] at hc HLN
            have HC := Lib.hid hc
            clear hc hl hrl hpre hnl hsp hnm hr
            go_wp2_with (first
              | (go_at_call 98; refine (hsuf _).mono ?_; rintro e w' ⟨rfl, rfl⟩)
              | (go_at_call 107; refine (hcut _).mono ?_; rintro e w' ⟨rfl, rfl⟩))
            refine HLN.out.mono ?_
            rintro e w2 ⟨v, rfl, ⟨n, rfl, hn⟩, hv, hs2⟩
            have hv' := hv m rfl
            injection hv' with _ hv'
            subst hv'
            obtain ⟨e0, e1, e2, e3⟩ := box_keep2 hs2
            have HS2 := Lib.hid (((Same.refl [] w).alloc _).trans hs2)
            have HN := Lib.hid hn
            clear hs2 hn hv
            go_wp2_with fail
            exact bodyPost_ret (v := .tuple #[.agg #[.int .u8 k, .int .i64 n], .bool true]) (by simp [results, Tryz.results108, go_sem, e0, e1]) rfl (got_instr (by rw [HC.out]; rfl) ⟨by dsimp only; omega, HN.out⟩ (fun y hy => by rw [HC.out] at hy; injection hy with hy; exact hy.symm) (by repeat (first | exact HS2.out | refine Same.setCell ?_ (.inr (by simp)) _ | refine Same.alloc ?_ _)))
    · obtain rfl : k = 19 := by omega
      have HC : Hid (Cd.instrR s.data.toList = none) := Lib.hid (by rw [hc]; rfl)
      clear hc
      go_wp2_with fail
      exact bodyPost_ret (v := .tuple #[.agg #[.int .u8 0, .int .i64 0], .bool false]) (by simp [results, Tryz.results108, go_sem]) rfl (got_instr (by rw [HC.out]; rfl) ⟨by dsimp only; omega, by unfold in64; dsimp only; omega⟩ (fun y hy => by rw [HC.out] at hy; cases hy) (by repeat (first | exact Same.refl _ _ | refine Same.setCell ?_ (.inr (by simp)) _ | refine Same.alloc ?_ _)))
end Ck
end Go.Proofs.YticaipedpcmhfaaGreatDoor
