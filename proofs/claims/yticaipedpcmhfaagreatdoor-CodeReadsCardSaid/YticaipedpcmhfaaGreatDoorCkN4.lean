/- Layer 8, the document's answer: an instruction of a line. -/
import Derived.Test.YticaipedpcmhfaaGreatDoorCkN3
import Derived.Test.YticaipedpcmhfaaGreatDoorCkA11
namespace Go.Proofs.YticaipedpcmhfaaGreatDoor
open Go.RowKit Hp
namespace Ck
variable {w w' : World}

theorem nameR_sp (k : Nat) (h : Cd.sp (Cd.calledL.getD k []) = true) : nameR k ++ [32] = Cd.calledL.getD k [] := by
  have hk : k < 19 := by
    rcases Nat.lt_or_ge k 19 with h1 | h1
    · exact h1
    · rw [List.getD, List.getElem?_eq_none (by show (19 : Nat) ≤ k; exact h1)] at h; cases h
  have : ∀ k : Fin 19, Cd.sp (Cd.calledL.getD k.val []) = true → nameR k.val ++ [32] = Cd.calledL.getD k.val [] := by decide
  exact this ⟨k, hk⟩ h
theorem nameR_plain (k : Nat) (h : Cd.sp (Cd.calledL.getD k []) = false) : nameR k = Cd.calledL.getD k [] := by
  unfold nameR; rw [h]; rfl
theorem nameR_short (k : Nat) : (nameR k).length ≤ 11 := by
  unfold nameR
  have := called_short k
  split
  · rw [List.length_dropLast]; omega
  · exact this

set_option maxHeartbeats 4000000 in
set_option maxRecDepth 100000 in
theorem instrR_any (s : ByteArray) (hs : s.size ≤ 281474976710656) : Calls Tryz.prog 105 #[.string s] w (Got (Cd.instrR s.data.toList) encI isInstr w) := by
  obtain ⟨R, hR⟩ : ∃ R, Cd.instrR s.data.toList = R := ⟨_, rfl⟩
  have H0 : Hid (Cd.instrFrom (List.range' 1 (19 - 1)) s.data.toList = R) := Lib.hid hR
  rw [hR]
  have HNM := Lib.hid (namesR_any (w := w.alloc (.cells #[.int .u8 0, .int .i64 0] 82)))
  clear hR
  go_enter Tryz.func105, Tryz.ntmps105
  go_wp2_with fail
  refine HNM.out.mono ?_
  rintro e w2 ⟨rfl, hbl, hs2⟩
  obtain ⟨b0, b1, bf, bz⟩ := box_keep2 hs2
  rw [show (w.alloc (.cells #[.int .u8 0, .int .i64 0] 82)).heap.size = w.heap.size + 1 by simp] at hbl
  have HBL := Lib.hid hbl
  have HS2 := Lib.hid (((Same.refl [] w).alloc _).trans hs2)
  clear hbl hs2 HNM
  go_wp2_with fail
  go_loopg [5, 6, 7, 8, 9] 18 (fun gk i _ _ _ _ wr => ∃ k : Nat, 1 ≤ k ∧ k ≤ 19 ∧ gk = 19 - k ∧ i = .int .i64 k ∧ Cd.instrFrom (List.range' k (19 - k)) s.data.toList = R ∧ wr = w2)
  case atStart => exact ⟨1, by omega, by omega, rfl, rfl, H0.out, rfl⟩
  case round =>
    obtain ⟨k, hk1, hk2, rfl, rfl, hc, rfl⟩ := hrel
    by_cases hlt : k < 19
    · have hcell := HBL.out.cell k
      rw [show ((List.range 19).map (fun o => Value.string (bs (nameR o))))[k]? = some (.string (bs (nameR k))) by
        rw [List.getElem?_map, List.getElem?_range hlt]; rfl] at hcell
      obtain ⟨nm, hnm⟩ : ∃ nm, bs (nameR k) = nm := ⟨_, rfl⟩
      have hnl : nm.data.toList = nameR k := by rw [← hnm, bs_list]
      rw [hnm] at hcell
      have hsz : nm.size ≤ 11 := by rw [list_size nm hnl]; exact nameR_short k
      have hns : (nm ++ ⟨#[32]⟩ : ByteArray).data.toList = nameR k ++ [32] := by rw [← hnl]; simp
      have hnz : (nm ++ ⟨#[32]⟩ : ByteArray).size ≤ 100 := by rw [list_size _ hns, List.length_append, ← hnl, ← list_size nm rfl]; simp; omega
      rw [range_step19 k (by omega), Cd.instrFrom] at hc
      have hhas := fun W => hasR_any (w := W) (k : Int) (by omega)
      rw [show Cd.nameI (k : Int) = Cd.calledL.getD k [] from rfl] at hhas
      cases hsp : Cd.sp (Cd.calledL.getD k [])
      · rw [hsp, if_neg (by simp)] at hc
        rw [hsp] at hhas
        have hnp := nameR_plain k hsp
        by_cases hq : s.data.toList = Cd.calledL.getD k []
        · rw [if_pos hq] at hc
          have hqq : (s.toList == nm.toList) = true := by rw [Lib.toList_data, Lib.toList_data, hnl, hnp, hq]; simp
          have HC := Lib.hid hc
          clear hc hq hnl hsp hnm hns hnz hnp H0
          go_wp2_with fail
          refine (hhas _).mono ?_
          rintro e w3 ⟨rfl, rfl⟩
          go_wp2_with fail
          refine bodyPost_ret (v := .tuple #[.agg #[.int .u8 k, .int .i64 0], .bool true]) (by simp [results, Tryz.results105, go_sem, b0, b1, bf]) rfl ?_
          rw [← HC.out]
          exact got_instr rfl ⟨by dsimp only; omega, by unfold in64; dsimp only; omega⟩ (fun y hy => by injection hy with hy; exact hy.symm) (by repeat (first | exact HS2.out | refine Same.setCell ?_ (.inr (by simp)) _ | refine Same.alloc ?_ _))
        · rw [if_neg hq] at hc
          have hqq : (s.toList == nm.toList) = false := by rw [Lib.toList_data, Lib.toList_data, hnl, hnp]; simpa using hq
          obtain ⟨x, hx⟩ : ∃ x, Lib.hasPrefix s.data.toList (nm ++ ⟨#[32]⟩ : ByteArray).data.toList = x := ⟨_, rfl⟩
          have hcut := fun W => cutR_any (w := W) s (nm ++ ⟨#[32]⟩) hs x hx hnz
          have HC := Lib.hid hc
          clear hc hq hnl hsp hnm hns hnz hnp H0 hx
          cases x
          all_goals
            go_wp2_with fail
            refine (hhas _).mono ?_
            rintro e w3 ⟨rfl, rfl⟩
            go_wp2_with fail
            refine (hcut _).mono ?_
            rintro e w3 ⟨rfl, rfl⟩
            go_wp2_with fail
            refine (hhas _).mono ?_
            rintro e w3 ⟨rfl, rfl⟩
            go_wp2_with fail
            go_roundg (19 - (k + 1))
            case measure => omega
            case rel => exact ⟨k + 1, by omega, by omega, rfl, by go_num, HC.out, rfl⟩
      · rw [hsp, if_pos rfl] at hc
        rw [hsp] at hhas
        have hnp := nameR_sp k hsp
        obtain ⟨x, hx⟩ : ∃ x, Lib.hasPrefix s.data.toList (Cd.calledL.getD k []) = x := ⟨_, rfl⟩
        have hcut := fun W => cutR_any (w := W) s (nm ++ ⟨#[32]⟩) hs x (by rw [hns, hnp]; exact hx) hnz
        rw [hx] at hc
        cases x
        · rw [if_neg (by simp)] at hc
          have HC := Lib.hid hc
          clear hc hnl hsp hnm hns hnz hnp H0 hx
          go_wp2_with fail
          refine (hhas _).mono ?_
          rintro e w3 ⟨rfl, rfl⟩
          go_wp2_with fail
          refine (hcut _).mono ?_
          rintro e w3 ⟨rfl, rfl⟩
          go_wp2_with fail
          refine (hhas _).mono ?_
          rintro e w3 ⟨rfl, rfl⟩
          go_wp2_with fail
          go_roundg (19 - (k + 1))
          case measure => omega
          case rel => exact ⟨k + 1, by omega, by omega, rfl, by go_num, HC.out, rfl⟩
        · rw [if_pos rfl] at hc hcut
          obtain ⟨r, hr⟩ : ∃ r, bs (s.data.toList.drop (nm ++ ⟨#[32]⟩ : ByteArray).size) = r := ⟨_, rfl⟩
          have hrl : r.data.toList = s.data.toList.drop (Cd.calledL.getD k []).length := by
            rw [← hr, bs_list, list_size _ hns, hnp]
          have hrz : r.size ≤ 281474976710656 := by
            rw [list_size r hrl, List.length_drop]
            have h1 : s.data.toList.length = s.size := by simp
            omega
          rw [hr] at hcut
          have hsm := fun W => smallR_any (w := W) r hrz
          rw [hrl] at hsm
          obtain ⟨o, ho⟩ : ∃ o, Cd.placeT (s.data.toList.drop (Cd.calledL.getD k []).length) = o := ⟨_, rfl⟩
          rw [ho] at hsm hc
          have HC := Lib.hid hc
          clear hc hnl hsp hnm hns hnz hnp H0 hx hr hrl ho
          go_wp2_with fail
          refine (hhas _).mono ?_
          rintro e w3 ⟨rfl, rfl⟩
          go_wp2_with fail
          refine (hcut _).mono ?_
          rintro e w3 ⟨rfl, rfl⟩
          go_wp2_with fail
          refine (hhas _).mono ?_
          rintro e w3 ⟨rfl, rfl⟩
          go_wp2_with fail
          refine (hsm _).mono ?_
          rintro e w3 ⟨v, rfl, ⟨n, rfl, hn, hv⟩, rfl⟩
          have HN := Lib.hid (And.intro hn hv)
          clear hn hv
          go_wp2_with fail
          refine bodyPost_ret (v := .tuple #[.agg #[.int .u8 k, .int .i64 n], .bool o.isSome]) (by simp [results, Tryz.results105, go_sem, b0, b1, bf]) rfl ?_
          rw [← HC.out]
          cases o with
          | none => exact got_instr rfl ⟨by dsimp only; omega, HN.out.1⟩ (fun y hy => by cases hy) (by repeat (first | exact HS2.out | refine Same.setCell ?_ (.inr (by simp)) _ | refine Same.alloc ?_ _))
          | some m =>
            obtain rfl := HN.out.2 m rfl
            exact got_instr rfl ⟨by dsimp only; omega, HN.out.1⟩ (fun y hy => by injection hy with hy; exact hy.symm) (by repeat (first | exact HS2.out | refine Same.setCell ?_ (.inr (by simp)) _ | refine Same.alloc ?_ _))
    · obtain rfl : k = 19 := by omega
      have HC : Hid (none = R) := Lib.hid (by rw [← hc]; rfl)
      clear hc H0
      go_wp2_with fail
      refine bodyPost_ret (v := .tuple #[.agg #[.int .u8 0, .int .i64 0], .bool false]) (by simp [results, Tryz.results105, go_sem, b0, b1, bf]) rfl ?_
      rw [← HC.out]
      exact got_instr rfl ⟨by dsimp only; omega, by unfold in64; dsimp only; omega⟩ (fun y hy => by cases hy) (by repeat (first | exact HS2.out | refine Same.setCell ?_ (.inr (by simp)) _ | refine Same.alloc ?_ _))
end Ck
end Go.Proofs.YticaipedpcmhfaaGreatDoor
