/- Layer 8, package code: readConst. -/
import Derived.Test.YticaipedpcmhfaaGreatDoorCkP2
import Derived.Deep.LoopGhost
namespace Go.Proofs.YticaipedpcmhfaaGreatDoor
open Go.RowKit Hp
namespace Ck
variable {w w' : World}

def isU64 (v : Value) : Prop := ∃ n : Int, v = .int .u64 n ∧ 0 ≤ n ∧ n < 18446744073709551616

theorem range_step (k m : Nat) (h : k < m) : List.range' k (m - k) = k :: List.range' (k + 1) (m - (k + 1)) := by
  rw [show m - k = (m - (k + 1)) + 1 by omega, List.range'_succ]

theorem wordOf_in (t n : Int) : 0 ≤ Cd.wordOf t n ∧ Cd.wordOf t n < 18446744073709551616 := by unfold Cd.wordOf; omega

/-- strings.CutPrefix, in our own words. -/
theorem cut_prefix (s p : ByteArray) (x : Bool) (hx : Lib.hasPrefix s.data.toList p.data.toList = x) (r : ByteArray) (hr : bs (Lib.trimPrefix s.data.toList p.data.toList) = r) : ∀ w, Calls Tryz.prog 107 #[.string s, .string p] w fun e w' => e = .returned (.tuple #[.string r, .bool x]) ∧ w' = w := fun w => by
  have := Tryz.strings_CutPrefix s p w
  rw [hx] at this
  rw [← hr]
  exact this
theorem trim_len (s p : List UInt8) : (Lib.trimPrefix s p).length ≤ s.length := by
  unfold Lib.trimPrefix
  split
  · simp
  · exact Nat.le_refl _
theorem trim_drop (s p : List UInt8) (h : Lib.hasPrefix s p = true) : Lib.trimPrefix s p = s.drop p.length := by
  unfold Lib.trimPrefix
  rw [if_pos h]

theorem tag_may (k : Nat) (hk : k < 8) (hk1 : 1 ≤ k) (h : Cd.sp (Cd.tagL.getD k []) = false) : Cd.may k 0 = true := by
  have : ∀ k : Fin 8, 1 ≤ k.val → Cd.sp (Cd.tagL.getD k.val []) = false → Cd.may (k.val : Nat) 0 = true := by decide
  exact this ⟨k, hk⟩ hk1 h

set_option maxHeartbeats 4000000 in
set_option maxRecDepth 100000 in
theorem readConst_any (s : ByteArray) (hs : s.size ≤ 281474976710656) (h : Vars w) : Calls Tryz.prog 109 #[.string s] w (Got (Cd.constR s.data.toList) (fun n => .int .u64 n) isU64 w) := by
  have HV := Lib.hid h
  have hz : 0 < w.heap.size := Nat.lt_of_lt_of_le (by decide) h.size
  clear h
  go_enter Tryz.func109, Tryz.ntmps109
  go_wp2_with fail
  go_loopg [4, 5, 6, 7, 8, 9, 10, 11, 12, 13] 7 (fun gk t _ _ _ _ _ _ _ _ _ wr => ∃ k : Nat, 1 ≤ k ∧ k ≤ 8 ∧ gk = 8 - k ∧ t = .int .u8 k ∧ wr = w ∧ Cd.constR s.data.toList = Cd.constFrom (List.range' k (8 - k)) s.data.toList)
  case atStart => exact ⟨1, by omega, by omega, rfl, rfl, rfl, rfl⟩
  case round =>
    obtain ⟨k, hk1, hk2, rfl, rfl, rfl, hc⟩ := hrel
    by_cases hlt : k ≤ 7
    · have hcell := HV.out.tags k (by omega)
      obtain ⟨nm, hnm⟩ : ∃ nm, tagS k = nm := ⟨_, rfl⟩
      have hnl : nm.data.toList = Cd.tagL.getD k [] := by rw [← hnm]; rfl
      rw [hnm] at hcell
      have hsz : nm.size ≤ 11 := by rw [list_size nm hnl]; exact tag_short k
      rw [range_step k 8 (by omega), Cd.constFrom] at hc
      cases hsp : Cd.sp (Cd.tagL.getD k [])
      · rw [hsp, if_neg (by simp)] at hc
        have hsuf := suffix_sp nm (by omega) false (by rw [hnl]; exact hsp)
        by_cases hq : s.data.toList = Cd.tagL.getD k []
        · rw [if_pos hq] at hc
          have HMK := Lib.hid (make_any (w := wr) k 0 (by omega) (by unfold in64; omega) HV.out)
          rw [tag_may k (by omega) hk1 hsp, if_pos rfl] at HMK
          have hqq : (s.toList == nm.toList) = true := by rw [Lib.toList_data, Lib.toList_data, hnl, hq]; simp
          have HC := Lib.hid hc
          clear hc hq hnl hsp hnm
          go_wp2_with (first
            | (go_at_call 98; refine (hsuf _).mono ?_; rintro e w' ⟨rfl, rfl⟩)
            | (go_at_call 85; refine HMK.out.mono ?_; rintro e w' ⟨rfl, rfl⟩))
          go_ret2
          exact ⟨.int .u64 (Cd.wordOf k 0), by rw [HC.out]; rfl, ⟨_, rfl, wordOf_in _ _⟩, fun x hx => by rw [HC.out] at hx; injection hx with hx; rw [← hx], Same.refl _ _⟩
        · rw [if_neg hq] at hc
          have hqq : (s.toList == nm.toList) = false := by rw [Lib.toList_data, Lib.toList_data, hnl]; simpa using hq
          have HC := Lib.hid hc
          clear hc hq hnl hsp hnm
          go_wp2_with (first
            | (go_at_call 98; refine (hsuf _).mono ?_; rintro e w' ⟨rfl, rfl⟩))
          go_roundg (8 - (k + 1))
          case measure => omega
          case rel => exact ⟨k + 1, by omega, by omega, rfl, by go_num, rfl, HC.out⟩
      · rw [hsp, if_pos rfl] at hc
        have hsuf := suffix_sp nm (by omega) true (by rw [hnl]; exact hsp)
        obtain ⟨r, hr⟩ : ∃ r, bs (Lib.trimPrefix s.data.toList nm.data.toList) = r := ⟨_, rfl⟩
        have hrz : r.size ≤ 281474976710656 := by
          have := trim_len s.data.toList nm.data.toList
          rw [← hr, bs_size]
          rw [← list_size s rfl] at this
          omega
        cases hpre : Lib.hasPrefix s.data.toList (Cd.tagL.getD k [])
        · rw [hpre, if_neg (by simp)] at hc
          have hcut := cut_prefix s nm false (by rw [hnl]; exact hpre) r hr
          have HC := Lib.hid hc
          clear hc hpre hnl hsp hnm hr
          go_wp2_with (first
            | (go_at_call 98; refine (hsuf _).mono ?_; rintro e w' ⟨rfl, rfl⟩)
            | (go_at_call 107; refine (hcut _).mono ?_; rintro e w' ⟨rfl, rfl⟩))
          go_roundg (8 - (k + 1))
          case measure => omega
          case rel => exact ⟨k + 1, by omega, by omega, rfl, by go_num, rfl, HC.out⟩
        · rw [hpre, if_pos rfl] at hc
          have hcut := cut_prefix s nm true (by rw [hnl]; exact hpre) r hr
          have hrl : r.data.toList = s.data.toList.drop (Cd.tagL.getD k []).length := by
            rw [← hr, bs_list, hnl, trim_drop _ _ hpre]
          have HLN := Lib.hid (long_any r hrz HV.out)
          unfold Got at HLN
          rw [hrl] at HLN
          cases hl : Cd.longT (s.data.toList.drop (Cd.tagL.getD k []).length) with
          | none =>
            rw [hl] at hc HLN
            have HC := Lib.hid hc
            clear hc hl hrl hpre hnl hsp hnm hr
            go_wp2_with (first
              | (go_at_call 98; refine (hsuf _).mono ?_; rintro e w' ⟨rfl, rfl⟩)
              | (go_at_call 107; refine (hcut _).mono ?_; rintro e w' ⟨rfl, rfl⟩))
            refine HLN.out.mono ?_
            rintro e w2 ⟨v, rfl, ⟨n, rfl, hn⟩, _, hs2⟩
            have HMK := Lib.hid (make_any (w := w2) k n (by omega) hn (HV.out.frame hs2 (by simp)))
            have HS2 := Lib.hid hs2
            clear hs2 hn
            cases hmay : Cd.may k n
            · rw [hmay, if_neg (by simp)] at HMK
              clear hmay
              go_wp2_with (go_at_call 85; refine HMK.out.mono ?_; rintro e w' ⟨rfl, rfl⟩)
              go_ret2
              exact ⟨.int .u64 0, by rw [HC.out]; rfl, ⟨0, rfl, by omega, by omega⟩, fun x hx => by rw [HC.out] at hx; (cases hx), HS2.out⟩
            · rw [hmay, if_pos rfl] at HMK
              clear hmay
              go_wp2_with (go_at_call 85; refine HMK.out.mono ?_; rintro e w' ⟨rfl, rfl⟩)
              go_ret2
              exact ⟨.int .u64 (Cd.wordOf k n), by rw [HC.out]; rfl, ⟨_, rfl, wordOf_in _ _⟩, fun x hx => by rw [HC.out] at hx; (cases hx), HS2.out⟩
          | some m =>
            rw [hl] at hc HLN
            have HC := Lib.hid hc
            clear hc hl hrl hpre hnl hsp hnm hr
            go_wp2_with (first
              | (go_at_call 98; refine (hsuf _).mono ?_; rintro e w' ⟨rfl, rfl⟩)
              | (go_at_call 107; refine (hcut _).mono ?_; rintro e w' ⟨rfl, rfl⟩))
            refine HLN.out.mono ?_
            rintro e w2 ⟨v, rfl, ⟨n, rfl, hn⟩, hv, hs2⟩
            have hv' := hv m rfl
            injection hv' with _ hv'
            subst hv'
            have HMK := Lib.hid (make_any (w := w2) k n (by omega) hn (HV.out.frame hs2 (by simp)))
            have HS2 := Lib.hid hs2
            clear hs2 hn hv
            cases hmay : Cd.may k n
            · rw [hmay, if_neg (by simp)] at HMK
              have HC2 : Hid (Cd.constR s.data.toList = none) := Lib.hid (by rw [HC.out]; unfold Cd.makeW; rw [if_neg (by rw [hmay]; simp)])
              clear hmay
              go_wp2_with (go_at_call 85; refine HMK.out.mono ?_; rintro e w' ⟨rfl, rfl⟩)
              go_ret2
              exact ⟨.int .u64 0, by rw [HC2.out]; rfl, ⟨0, rfl, by omega, by omega⟩, fun x hx => by rw [HC2.out] at hx; (cases hx), HS2.out⟩
            · rw [hmay, if_pos rfl] at HMK
              have HC2 : Hid (Cd.constR s.data.toList = some (Cd.wordOf k n)) := Lib.hid (by rw [HC.out]; unfold Cd.makeW; rw [if_pos ⟨by omega, by omega, hmay⟩])
              clear hmay
              go_wp2_with (go_at_call 85; refine HMK.out.mono ?_; rintro e w' ⟨rfl, rfl⟩)
              go_ret2
              exact ⟨.int .u64 (Cd.wordOf k n), by rw [HC2.out]; rfl, ⟨_, rfl, wordOf_in _ _⟩, fun x hx => by rw [HC2.out] at hx; injection hx with hx; rw [hx], HS2.out⟩
    · obtain rfl : k = 8 := by omega
      have HC : Hid (Cd.constR s.data.toList = none) := Lib.hid (by rw [hc]; rfl)
      clear hc
      go_wp2_with fail
      go_ret2
      exact ⟨.int .u64 0, by rw [HC.out]; rfl, ⟨0, rfl, by omega, by omega⟩, fun x hx => by rw [HC.out] at hx; (cases hx), Same.refl _ _⟩
end Ck
end Go.Proofs.YticaipedpcmhfaaGreatDoor
