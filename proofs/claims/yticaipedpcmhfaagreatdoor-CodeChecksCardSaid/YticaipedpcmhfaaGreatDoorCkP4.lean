/- Layer 8, package code: readInstr. -/
import Derived.Test.YticaipedpcmhfaaGreatDoorCkP3
namespace Go.Proofs.YticaipedpcmhfaaGreatDoor
open Go.RowKit Hp
namespace Ck
variable {w w' : World}

def encI (x : Cd.In) : Value := .agg #[.int .u8 x.op, .int .i64 x.a]
def isInstr (v : Value) : Prop := ∃ x : Cd.In, v = encI x ∧ WIn x

/-- A box of two cells, behind a call that leaves it alone: it may be written. -/
theorem box_keep2 {w W' : World} {a b : Value} {T : TypeId} (hs : Same [] (w.alloc (.cells #[a, b] T)) W') : W'.cell? ⟨w.heap.size, 0, none⟩ = some a ∧ W'.cell? ⟨w.heap.size, 1, none⟩ = some b ∧ (∀ i, W'.frozen? ⟨w.heap.size, i, none⟩ = false) ∧ w.heap.size < W'.heap.size := by
  have hb : Blk W' w.heap.size T [a, b] := (Blk.new w T [a, b]).frame hs (by simp)
  exact ⟨hb.cell 0, hb.cell 1, hb.frozen, hb.lt⟩

theorem range_step19 (k : Nat) (h : k < 19) : List.range' k (19 - k) = k :: List.range' (k + 1) (19 - (k + 1)) := by
  rw [show 19 - k = (19 - (k + 1)) + 1 by omega, List.range'_succ]

theorem got_instr {f : Option Cd.In} {w w' : World} {op a : Int} {x : Bool} (h1 : x = f.isSome) (h2 : WIn ⟨op, a⟩) (h3 : ∀ y, f = some y → y = ⟨op, a⟩) (hs : Same [] w w') : Got f encI isInstr w (.returned (.tuple #[.agg #[.int .u8 op, .int .i64 a], .bool x])) w' :=
  ⟨.agg #[.int .u8 op, .int .i64 a], by rw [h1], ⟨⟨op, a⟩, rfl, h2⟩, fun y hy => by rw [h3 y hy]; rfl, hs⟩

set_option maxHeartbeats 4000000 in
set_option maxRecDepth 100000 in
theorem readInstr_any (s : ByteArray) (hs : s.size ≤ 281474976710656) (h : Vars w) : Calls Tryz.prog 108 #[.string s] w (Got (Cd.instrR s.data.toList) encI isInstr w) := by
  have HV := Lib.hid (h.frame ((Same.refl [] w).alloc (.cells #[.int .u8 0, .int .i64 0] 82)) (by simp))
  have hz : 1 < w.heap.size := Nat.lt_of_lt_of_le (by decide) h.size
  clear h
  go_enter Tryz.func108, Tryz.ntmps108
  go_wp2_with fail
  go_loopg [4, 5, 6, 7, 8, 9] 18 (fun gk t _ _ _ _ _ wr => ∃ k : Nat, 1 ≤ k ∧ k ≤ 19 ∧ gk = 19 - k ∧ t = .int .u8 k ∧ wr = w.alloc (.cells #[.int .u8 0, .int .i64 0] 82) ∧ Cd.instrR s.data.toList = Cd.instrFrom (List.range' k (19 - k)) s.data.toList)
  case atStart => exact ⟨1, by omega, by omega, rfl, rfl, rfl, rfl⟩
  case round =>
    obtain ⟨k, hk1, hk2, rfl, rfl, rfl, hc⟩ := hrel
    by_cases hlt : k ≤ 18
    · have hcell0 := HV.out.called k (by omega)
      have hcell : w.cell? ⟨1, k, none⟩ = some (.string (callS k)) := by
        rw [← hcell0]; exact ((Same.cell ((Same.refl [] w).alloc _) hz (by simp))).symm
      obtain ⟨nm, hnm⟩ : ∃ nm, callS k = nm := ⟨_, rfl⟩
      have hnl : nm.data.toList = Cd.calledL.getD k [] := by rw [← hnm]; rfl
      rw [hnm] at hcell
      have hsz : nm.size ≤ 11 := by rw [list_size nm hnl]; exact called_short k
      rw [range_step19 k (by omega), Cd.instrFrom] at hc
      clear hcell0
      cases hsp : Cd.sp (Cd.calledL.getD k [])
      · rw [hsp, if_neg (by simp)] at hc
        have hsuf := suffix_sp nm (by omega) false (by rw [hnl]; exact hsp)
        by_cases hq : s.data.toList = Cd.calledL.getD k []
        · rw [if_pos hq] at hc
          have hqq : (s.toList == nm.toList) = true := by rw [Lib.toList_data, Lib.toList_data, hnl, hq]; simp
          have HC := Lib.hid hc
          clear hc hq hnl hsp hnm
          go_wp2_with (first
            | (go_at_call 98; refine (hsuf _).mono ?_; rintro e w' ⟨rfl, rfl⟩))
          exact bodyPost_ret (v := .tuple #[.agg #[.int .u8 k, .int .i64 0], .bool true]) (by simp [results, Tryz.results108, go_sem]) rfl (got_instr (by rw [HC.out]; rfl) ⟨by dsimp only; omega, by unfold in64; dsimp only; omega⟩ (fun y hy => by rw [HC.out] at hy; injection hy with hy; exact hy.symm) (by repeat (first | exact Same.refl _ _ | refine Same.setCell ?_ (.inr (by simp)) _ | refine Same.alloc ?_ _)))
        · rw [if_neg hq] at hc
          have hqq : (s.toList == nm.toList) = false := by rw [Lib.toList_data, Lib.toList_data, hnl]; simpa using hq
          have HC := Lib.hid hc
          clear hc hq hnl hsp hnm
          go_wp2_with (first
            | (go_at_call 98; refine (hsuf _).mono ?_; rintro e w' ⟨rfl, rfl⟩))
          go_roundg (19 - (k + 1))
          case measure => omega
          case rel => exact ⟨k + 1, by omega, by omega, rfl, by go_num, rfl, HC.out⟩
      · rw [hsp, if_pos rfl] at hc
        have hsuf := suffix_sp nm (by omega) true (by rw [hnl]; exact hsp)
        obtain ⟨r, hr⟩ : ∃ r, bs (Lib.trimPrefix s.data.toList nm.data.toList) = r := ⟨_, rfl⟩
        have hrz : r.size ≤ 281474976710656 := by
          have := trim_len s.data.toList nm.data.toList
          rw [← hr, bs_size]
          rw [← list_size s rfl] at this
          omega
        cases hpre : Lib.hasPrefix s.data.toList (Cd.calledL.getD k [])
        · rw [hpre, if_neg (by simp)] at hc
          have hcut := cut_prefix s nm false (by rw [hnl]; exact hpre) r hr
          have HC := Lib.hid hc
          clear hc hpre hnl hsp hnm hr
          go_wp2_with (first
            | (go_at_call 98; refine (hsuf _).mono ?_; rintro e w' ⟨rfl, rfl⟩)
            | (go_at_call 107; refine (hcut _).mono ?_; rintro e w' ⟨rfl, rfl⟩))
          go_roundg (19 - (k + 1))
          case measure => omega
          case rel => exact ⟨k + 1, by omega, by omega, rfl, by go_num, rfl, HC.out⟩
        · rw [hpre, if_pos rfl] at hc
          have hcut := cut_prefix s nm true (by rw [hnl]; exact hpre) r hr
          have hrl : r.data.toList = s.data.toList.drop (Cd.calledL.getD k []).length := by
            rw [← hr, bs_list, hnl, trim_drop _ _ hpre]
          have HLN := Lib.hid (place_any r hrz HV.out)
          unfold Got at HLN
          rw [hrl] at HLN
          cases hl : Cd.placeT (s.data.toList.drop (Cd.calledL.getD k []).length) with
          | none =>
            rw [hl] at hc HLN
            have HC := Lib.hid hc
            clear hc hl hrl hpre hnl hsp hnm hr
            go_wp2_with (first
              | (go_at_call 98; refine (hsuf _).mono ?_; rintro e w' ⟨rfl, rfl⟩)
              | (go_at_call 107; refine (hcut _).mono ?_; rintro e w' ⟨rfl, rfl⟩))
            refine HLN.out.mono ?_
            rintro e w2 ⟨v, rfl, ⟨n, rfl, hn⟩, _, hs2⟩
            obtain ⟨e0, e1, e2, e3⟩ := box_keep2 hs2
            have HS2 := Lib.hid (((Same.refl [] w).alloc _).trans hs2)
            have HN := Lib.hid hn
            clear hs2 hn
            go_wp2_with fail
            exact bodyPost_ret (v := .tuple #[.agg #[.int .u8 k, .int .i64 n], .bool false]) (by simp [results, Tryz.results108, go_sem, e0, e1]) rfl (got_instr (by rw [HC.out]; rfl) ⟨by dsimp only; omega, HN.out⟩ (fun y hy => by rw [HC.out] at hy; cases hy) (by repeat (first | exact HS2.out | refine Same.setCell ?_ (.inr (by simp)) _ | refine Same.alloc ?_ _)))
          | some m =>
            rw [hl] at hc HLN
            have HC := Lib.hid hc
            clear hc hl hrl hpre hnl hsp hnm hr
            go_wp2_with (first
              | (go_at_call 98; refine (hsuf _).mono ?_; rintro e w' ⟨rfl, rfl⟩)
              | (go_at_call 107; refine (hcut _).mono ?_; rintro e w' ⟨rfl, rfl⟩))
            refine HLN.out.mono ?_
            rintro e w2 ⟨v, rfl, ⟨n, rfl, hn⟩, hv, hs2⟩
            have hv' := hv m rfl
            injection hv' with _ hv'
            subst hv'
            obtain ⟨e0, e1, e2, e3⟩ := box_keep2 hs2
            have HS2 := Lib.hid (((Same.refl [] w).alloc _).trans hs2)
            have HN := Lib.hid hn
            clear hs2 hn hv
            go_wp2_with fail
            exact bodyPost_ret (v := .tuple #[.agg #[.int .u8 k, .int .i64 n], .bool true]) (by simp [results, Tryz.results108, go_sem, e0, e1]) rfl (got_instr (by rw [HC.out]; rfl) ⟨by dsimp only; omega, HN.out⟩ (fun y hy => by rw [HC.out] at hy; injection hy with hy; exact hy.symm) (by repeat (first | exact HS2.out | refine Same.setCell ?_ (.inr (by simp)) _ | refine Same.alloc ?_ _)))
    · obtain rfl : k = 19 := by omega
      have HC : Hid (Cd.instrR s.data.toList = none) := Lib.hid (by rw [hc]; rfl)
      clear hc
      go_wp2_with fail
      exact bodyPost_ret (v := .tuple #[.agg #[.int .u8 0, .int .i64 0], .bool false]) (by simp [results, Tryz.results108, go_sem]) rfl (got_instr (by rw [HC.out]; rfl) ⟨by dsimp only; omega, by unfold in64; dsimp only; omega⟩ (fun y hy => by rw [HC.out] at hy; cases hy) (by repeat (first | exact Same.refl _ _ | refine Same.setCell ?_ (.inr (by simp)) _ | refine Same.alloc ?_ _)))
end Ck
end Go.Proofs.YticaipedpcmhfaaGreatDoor
