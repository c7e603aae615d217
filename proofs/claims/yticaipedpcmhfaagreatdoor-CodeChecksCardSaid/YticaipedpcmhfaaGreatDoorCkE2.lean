/- Layer 0, the document's lent code: LentCode. -/
import Derived.Test.YticaipedpcmhfaaGreatDoorCkE1
import Derived.Deep.LoopGhost
import Derived.Deep.DeepCutAuto
import Derived.Deep.RegionHeld3
namespace Go.Proofs.YticaipedpcmhfaaGreatDoor
open Go.RowKit Hp
namespace Ck
variable {w w' : World}

def markP : List Value := [.int .i64 (-77), .slice none 0 0]
/-- Procedures' instructions, each list lent, in blocks one behind the other from B on. -/
def LKs (w : World) (B : Nat) (kvs : List Value) (l : List Cd.Pr) : Prop :=
  kvs.length = l.length ∧ ∃ kb : Nat → Nat, (∀ i, i < l.length → kvs.getD i undef = .slice (some ⟨kb i, 0, none⟩) (l.getD i ⟨0, []⟩).code.length ((l.getD i ⟨0, []⟩).code.length + 2) ∧ Blk w (kb i) 82 (flatI (l.getD i ⟨0, []⟩).code ++ markI) ∧ B ≤ kb i) ∧ ∀ i j, i < j → j < l.length → kb i < kb j

theorem LKs.snoc {B G kb : Nat} {kvs : List Value} {l : List Cd.Pr} {q : Cd.Pr} (h : LKs w B kvs l) (hs : Same [G] w w') (hG : G < B) (hb : Blk w' kb 82 (flatI q.code ++ markI)) (hz : w.heap.size ≤ kb) (hB : B ≤ w.heap.size) : LKs w' B (kvs ++ [.slice (some ⟨kb, 0, none⟩) q.code.length (q.code.length + 2)]) (l ++ [q]) := by
  obtain ⟨h1, f, h2, h3⟩ := h
  refine ⟨by simp [h1], fun i => if i < l.length then f i else kb, fun i hi => ?_, fun i j hij hj => ?_⟩
  · rw [List.length_append, List.length_singleton] at hi
    rw [getD_snoc, getD_snoc, h1]
    by_cases h : i < l.length
    · simp only [if_pos h]
      obtain ⟨a1, a2, a3⟩ := h2 i h
      exact ⟨a1, a2.frame hs (by simp; omega), a3⟩
    · have hi' : i = l.length := by omega
      simp only [if_neg h, if_pos hi']
      exact ⟨trivial, hb, Nat.le_trans hB hz⟩
  · rw [List.length_append, List.length_singleton] at hj
    dsimp only
    rw [if_pos (by omega)]
    by_cases h : j < l.length
    · rw [if_pos h]; exact h3 i j hij h
    · rw [if_neg h]
      exact Nat.lt_of_lt_of_le (h2 i (by omega)).2.1.lt hz
theorem LKs.frame {B : Nat} {kvs : List Value} {l : List Cd.Pr} {F : List Nat} (h : LKs w B kvs l) (hs : Same F w w') (hF : ∀ x ∈ F, x < B) : LKs w' B kvs l := by
  obtain ⟨h1, f, h2, h3⟩ := h
  refine ⟨h1, f, fun i hi => ?_, h3⟩
  obtain ⟨a1, a2, a3⟩ := h2 i hi
  exact ⟨a1, a2.frame hs (fun hm => by have := hF _ hm; omega), a3⟩

theorem LKs.mono {B B' : Nat} {kvs : List Value} {l : List Cd.Pr} (h : LKs w B kvs l) (hB : B' ≤ B) : LKs w B' kvs l := by
  obtain ⟨h1, f, h2, h3⟩ := h
  exact ⟨h1, f, fun i hi => by obtain ⟨a1, a2, a3⟩ := h2 i hi; exact ⟨a1, a2, Nat.le_trans hB a3⟩, h3⟩

/-- Code that is lent. -/
structure LC (w : World) (B : Nat) (cv pv gv : Value) (kvs : List Value) (c : Cd.Co) : Prop where
  cr : ∃ b, B ≤ b ∧ Lent w b 74 c.consts.length (c.consts.map (Value.int .u64)) markW cv
  gr : ∃ b, B ≤ b ∧ Lent w b 9 c.globals.length (c.globals.map Value.string) markS gv
  pr : ∃ b, B ≤ b ∧ pv = .slice (some ⟨b, 0, none⟩) c.procs.length (c.procs.length + 1) ∧ Blk w b 68 (flatP c.procs kvs ++ markP)
  ks : LKs w B kvs c.procs

set_option maxHeartbeats 8000000 in
set_option maxRecDepth 100000 in
theorem lentC_any (v : Value) (c : Cd.Co) (hr : RCo w v c) (hl : c.consts.length ≤ 10000000 ∧ c.globals.length ≤ 10000000 ∧ c.procs.length ≤ 10000000 ∧ ∀ p ∈ c.procs, p.code.length ≤ 10000000) : Calls Tryz.prog 12 #[v] w fun e w' => ∃ cv pv gv kvs, e = .returned (.agg #[cv, pv, gv]) ∧ LC w' w.heap.size cv pv gv kvs c ∧ Same [] w w' := by
  obtain ⟨cv, pv, gv, rfl, hr⟩ := hr
  obtain ⟨A1, c1, rfl, hc1, hc1'⟩ := hr.consts.form
  obtain ⟨kv, hps, hks⟩ := hr.procs
  obtain ⟨A2, c2, rfl, hc2, hc2'⟩ := hps.form
  obtain ⟨A3, c3, rfl, hc3, hc3'⟩ := hr.globals.form
  obtain ⟨l1, l2, l3, l4⟩ := hl
  have HR := Lib.hid hr
  have HPS := Lib.hid hps
  have HKS := Lib.hid hks
  have HL4 := Lib.hid l4
  unfold maxLen at hc1' hc2' hc3'
  clear hr hps hks l4
  go_enter Tryz.func12, Tryz.ntmps12
  go_wp2_with (first
    | (refine wpList_make_cap _ rfl _ (.tmp 9) 23 rfl 68 (.agg #[.int .i64 0, .slice none 0 0]) 2 32 Tryz.underlying23 infoP _ (c.procs.length + 1) rfl rfl ?a1 ?a2 ?a3 ?mk))
  case a1 => omega
  case a2 => omega
  case a3 => unfold maxLen; omega
  case mk =>
    intro w1 hown hs1
    have hbx : Blk w1 w.heap.size 26 [.slice A1 c.consts.length c1, .slice A2 c.procs.length c2, .slice A3 c.globals.length c3] := Blk.frame ((Blk.new w _ _).alloc _) hs1 (by simp)
    have hbr : Blk w1 (w.heap.size + 1) 26 [.slice none 0 0, .slice none 0 0, .slice none 0 0] := Blk.frame (blk_at (by simp)) hs1 (by simp)
    have HO := Lib.hid hown
    have HS1 : Hid (Same [] w w1) := Lib.hid ((((Same.refl [] w).alloc _).alloc _).trans hs1)
    have HBX := Lib.hid hbx
    have HBR := Lib.hid hbr
    have hz1 : w.heap.size + 1 + 1 < w1.heap.size := (own_zero hown).lt rfl
    clear hown hs1 hbx hbr
    go_wp2_with fail
    go_loopg [3, 4] c.procs.length (fun gk x i wr => ∃ (k : Nat) (kvs : List Value), k ≤ c.procs.length ∧ gk = c.procs.length - k ∧ i = .int .i64 k ∧ x = .slice (some ⟨w.heap.size + 1 + 1, 0, none⟩) k (c.procs.length + 1) ∧ wr.ownsRow (w.heap.size + 1 + 1) 68 2 (.slice (some ⟨w.heap.size + 1 + 1, 0, none⟩) k (c.procs.length + 1)) k (flatP (c.procs.take k) kvs) ∧ LKs wr (w.heap.size + 1 + 1 + 1) kvs (c.procs.take k) ∧ Same [w.heap.size + 1 + 1] w1 wr)
    case atStart => exact ⟨0, [], Nat.zero_le _, rfl, rfl, rfl, by simpa [flatP] using HO.out, ⟨rfl, fun _ => 0, fun i hi => absurd hi (by simp), fun i j _ hj => absurd hj (by simp)⟩, Same.refl _ _⟩
    case round =>
      obtain ⟨k, kvs, hk, rfl, rfl, rfl, how, hlk, hs⟩ := hrel
      have hsw : Same [] w wr := HS1.out.trans' hs (fun x hx => .inr (by rw [List.mem_singleton.1 hx]; omega))
      have hbx := HBX.out.frame hs (by simp; omega)
      have p1 := hbx.cell 1
      have bz := hbx.lt
      have hgz := Nat.lt_of_lt_of_le hz1 hs.size
      have HSW := Lib.hid hsw
      have HS := Lib.hid hs
      have HLK := Lib.hid hlk
      have HBX2 := Lib.hid hbx
      have HOW : Hid (∀ W, Same [] wr W → W.ownsRow (w.heap.size + 1 + 1) 68 2 (.slice (some ⟨w.heap.size + 1 + 1, 0, none⟩) k (c.procs.length + 1)) k (flatP (c.procs.take k) kvs)) := Lib.hid (fun W h => own_frame how h (by simp))
      clear hs hsw hlk how hbx
      by_cases hlt : k < c.procs.length
      · obtain ⟨b, off, cap2, he, _, _, hbb, hcell⟩ := HPS.out.lit (by omega)
        injection he with he1 _ he3
        subst he1 he3
        obtain ⟨q, hq⟩ : ∃ q, q = c.procs.getD k ⟨0, []⟩ := ⟨_, rfl⟩
        have hri := HKS.out k hlt
        rw [← hq] at hri
        obtain ⟨U, cu, hkv, _, _⟩ := hri.form
        have x0 : wr.cell? ⟨b, off + k * 2, none⟩ = some (.int .i64 q.params) := by rw [HSW.out.cell hbb (by simp), hq]; exact hcell k 0 hlt (by omega)
        have x1 : wr.cell? ⟨b, off + k * 2 + 1, none⟩ = some (.slice U q.code.length cu) := by rw [HSW.out.cell hbb (by simp), ← hkv]; exact hcell k 1 hlt (by omega)
        have hql : q.code.length ≤ 10000000 := HL4.out q (by rw [hq, List.getD, List.getElem?_eq_getElem hlt]; exact List.getElem_mem _)
        rw [hkv] at hri
        have HLI : Hid (∀ W, Same [] w W → Calls Tryz.prog 33 #[.slice U q.code.length cu] W fun e w' => ∃ b, e = .returned (.slice (some ⟨b, 0, none⟩) q.code.length (q.code.length + 2)) ∧ Blk w' b 82 (flatI q.code ++ markI) ∧ W.heap.size ≤ b ∧ Same [] W w') := Lib.hid (fun W h => lentI_any _ _ (Sq.frame hri h) (by omega))
        have hbz : b < wr.heap.size := Nat.lt_of_lt_of_le hbb HSW.out.size
        have HQ := Lib.hid hq
        have k1 : (0 : Int) ≤ (k : Int) := by omega
        have k2 : (k : Int) < (c.procs.length : Int) := by omega
        clear hcell hkv hri hq
        go_upto_region 5 with fail
        go_region_law (first
          | ((refine step_fits rfl (.tmp 18) (.tmp 33) 23 rfl (w.heap.size + 1 + 1) 68 (.agg #[.int .i64 0, .slice none 0 0]) 2 32 Tryz.underlying23 infoP (w.heap.size + 1 + 1) k (c.procs.length + 1) (flatP (c.procs.take k) kvs) rfl (HOW.out _ (by repeat (first | exact HS2.out | refine Same.drew ?_ | refine Same.drewN ?_ _ | refine Same.alloc ?_ _))) _ 1 1 [.int .i64 q.params, .slice (some ⟨kb, 0, none⟩) q.code.length (q.code.length + 2)] rfl rfl (by first | exact news2 (blk_at (by simp)) | exact news2 (Blk.drew (blk_at (by simp)))) (one2 rfl rfl) (by omega) ?_); (intro w5 hown5 hs5; have HO5 := Lib.hid hown5; have HS5 := Lib.hid hs5; clear hown5 hs5))
          | (go_simp; go_at_call 33; refine (HLI.out _ (by repeat (first | exact HSW.out | refine Same.drew ?_ | refine Same.drewN ?_ _ | refine Same.alloc ?_ _))).mono ?_; rintro e w2 ⟨kb, rfl, hkb, hkz, hs2⟩; have HKB := Lib.hid hkb; have HKZ := Lib.hid hkz; have HS2 : Hid (Same [] wr w2) := Lib.hid (Same.trans (by repeat (first | exact Same.refl _ _ | refine Same.drew ?_ | refine Same.drewN ?_ _ | refine Same.alloc ?_ _)) hs2); have x02 := (HS2.out.cell hbz (by simp)).trans x0; have x12 := (HS2.out.cell hbz (by simp)).trans x1; have p12 := (HS2.out.cell bz (by simp)).trans p1; have bz2 := Nat.lt_of_lt_of_le bz HS2.out.size; have hbz2 := Nat.lt_of_lt_of_le hbz HS2.out.size; clear hs2 hkb hkz))
        all_goals
          go_wp2_with fail
          have hG5 : Same [w.heap.size + 1 + 1] wr w5 := Same.trans (by repeat (first | exact (HS2.out.mono (fun x hx => by cases hx)) | refine Same.drew ?_ | refine Same.drewN ?_ _ | refine Same.alloc ?_ _)) HS5.out
          have hY5 : Same [w.heap.size + 1 + 1] w2 w5 := Same.trans (by repeat (first | exact Same.refl _ _ | refine Same.drew ?_ | refine Same.drewN ?_ _ | refine Same.alloc ?_ _)) HS5.out
          have hkz : wr.heap.size ≤ kb := HKZ.out
          have hkb5 : Blk w5 kb 82 (flatI q.code ++ markI) := Blk.frame HKB.out hY5 (by simp; omega)
          have htk : c.procs.take (k + 1) = c.procs.take k ++ [q] := by
            rw [List.take_succ_eq_append_getElem hlt, HQ.out, List.getD, List.getElem?_eq_getElem hlt]; rfl
          have hlk5 := HLK.out.snoc hG5 (Nat.lt_succ_self _) hkb5 hkz (by omega)
          have how5 := HO5.out
          rw [flatP_snoc _ _ _ _ HLK.out.1] at how5
          rw [← htk] at how5 hlk5
          have HF5 := Lib.hid how5
          have HL5 := Lib.hid hlk5
          have HG5 : Hid (Same [w.heap.size + 1 + 1] w1 w5) := Lib.hid (HS.out.trans hG5)
          clear hY5 hG5 hkz hkb5 htk hlk5 how5
          go_roundg (c.procs.length - (k + 1))
          case measure => omega
          case rel => exact ⟨k + 1, _, by omega, rfl, by go_num, rfl, HF5.out, by first | exact HL5.out | exact HL5.out.frame ((Same.refl [] _).drew) (by simp), by repeat (first | exact HG5.out | refine Same.drew ?_ | refine Same.drewN ?_ _)⟩
      · obtain rfl : k = c.procs.length := by omega
        rw [List.take_length] at HLK
        have HOW2 : Hid (∀ W, Same [] wr W → W.ownsRow (w.heap.size + 1 + 1) 68 2 (.slice (some ⟨w.heap.size + 1 + 1, 0, none⟩) c.procs.length (c.procs.length + 1)) c.procs.length (flatP c.procs kvs)) := Lib.hid (fun W h => by have := HOW.out W h; rwa [List.take_length] at this)
        go_wp2_with (first
          | (at_builtin; refine wpList_fits_sq _ rfl (.tmp 35) (.tmp 37) 23 rfl (w.heap.size + 1 + 1) 68 (.agg #[.int .i64 0, .slice none 0 0]) 2 32 Tryz.underlying23 infoP (w.heap.size + 1 + 1) c.procs.length (c.procs.length + 1) (flatP c.procs kvs) rfl ?d0 (some _) 1 1 markP rfl rfl ?d2 ?d3 ?d4 ?d5 ?dp))
        case d0 => exact HOW2.out _ ((Same.refl [] _).alloc _)
        case d2 => exact fun h => by cases h
        case d3 => exact news_blk (blk_at (by simp))
        case d4 => decide
        case d5 => omega
        case dp =>
          intro w6 hown hs6
          have hG : Blk w6 (w.heap.size + 1 + 1) 68 (flatP c.procs kvs ++ markP) := Blk.of_own hown
          have h61 : Same [w.heap.size + 1 + 1] w1 w6 := (HS.out.alloc _).trans' hs6 (fun x hx => .inl hx)
          have hw6 : Same [] w w6 := HS1.out.trans' h61 (fun x hx => .inr (by rw [List.mem_singleton.1 hx]; omega))
          have hlk6 : LKs w6 (w.heap.size + 1 + 1 + 1) kvs c.procs := (HLK.out.frame ((Same.refl [] wr).alloc _) (by simp)).frame hs6 (fun x hx => by rw [List.mem_singleton.1 hx]; exact Nat.lt_succ_self _)
          have hbx6 := HBX.out.frame h61 (by simp; omega)
          have hbr6 := HBR.out.frame h61 (by simp)
          have p0 := hbx6.cell 0
          have p1 := hbx6.cell 1
          have p2 := hbx6.cell 2
          have bz := hbx6.lt
          have r0 := hbr6.cell 0
          have r1 := hbr6.cell 1
          have r2 := hbr6.cell 2
          have rz := hbr6.lt
          have rf := hbr6.frozen
          have gz := hG.lt
          have hne1 : ¬ w.heap.size = w.heap.size + 1 := by omega
          have hne2 : ¬ w.heap.size + 1 = w.heap.size := by omega
          have HG6 := Lib.hid hG
          have HW6 := Lib.hid hw6
          have HK6 := Lib.hid hlk6
          have HLW : Hid (∀ W, Same [] w W → Calls Tryz.prog 34 #[.slice A1 c.consts.length c1] W fun e w' => ∃ b, e = .returned (.slice (some ⟨b, 0, none⟩) c.consts.length (c.consts.length + 2)) ∧ Blk w' b 74 (c.consts.map (Value.int .u64) ++ markW) ∧ W.heap.size ≤ b ∧ Same [] W w') := Lib.hid (fun W h => lentW_any _ _ (HR.out.consts.frame h) (by omega))
          have HLT : Hid (∀ W, Same [] w W → Calls Tryz.prog 35 #[.slice A3 c.globals.length c3] W fun e w' => ∃ b, e = .returned (.slice (some ⟨b, 0, none⟩) c.globals.length (c.globals.length + 2)) ∧ Blk w' b 9 (c.globals.map Value.string ++ markS) ∧ W.heap.size ≤ b ∧ Same [] W w') := Lib.hid (fun W h => lentT_any _ _ (HR.out.globals.frame h) (by omega))
          clear hown hs6 hG h61 hw6 hlk6 hbx6 hbr6
          have hb1 : (0 : Int) ≤ (c.procs.length : Int) := by omega
          have hb2 : (c.procs.length : Int) ≤ ((c.procs.length + 1 : Nat) : Int) := by omega
          have hb3 : (c.procs.length : Int) ≤ (c.procs.length : Int) + 1 := by omega
          go_upto_region 7 with fail
          go_region_held3 (fun W => W.cell? ⟨w.heap.size, 0, none⟩ = some (.slice A1 c.consts.length c1) ∧ W.cell? ⟨w.heap.size, 1, none⟩ = some (.slice A2 c.procs.length c2) ∧ W.cell? ⟨w.heap.size, 2, none⟩ = some (.slice A3 c.globals.length c3)) (go_keep) (first
            | (go_simp; go_at_call 34; refine (HLW.out _ (Same.trans HW6.out (by repeat (first | exact Same.refl _ _ | exact HSB.out | refine Same.drew ?_ | refine Same.drewN ?_ _ | refine Same.alloc ?_ _)))).mono ?_; rintro e wA ⟨ba, rfl, hba, hza, hsa⟩; have HBA := Lib.hid hba; have HZA := Lib.hid hza; have HSA0 := Lib.hid hsa; have HSA : Hid (Same [] w6 wA) := Lib.hid (Same.trans (by repeat (first | exact Same.refl _ _ | exact HSB.out | refine Same.drew ?_ | refine Same.drewN ?_ _ | refine Same.alloc ?_ _)) hsa); have p0a := (HSA.out.cell bz (by simp)).trans p0; have p1a := (HSA.out.cell bz (by simp)).trans p1; have p2a := (HSA.out.cell bz (by simp)).trans p2; have r0a := (HSA.out.cell rz (by simp)).trans r0; have r1a := (HSA.out.cell rz (by simp)).trans r1; have r2a := (HSA.out.cell rz (by simp)).trans r2; have rza := Nat.lt_of_lt_of_le rz HSA.out.size; have bza := Nat.lt_of_lt_of_le bz HSA.out.size; have rfa : ∀ j, wA.frozen? ⟨w.heap.size + 1, j, none⟩ = false := (fun j => (HSA.out.frozen rz (by simp)).trans (rf j)); clear hba hza hsa)
            | (go_simp; go_at_call 35; refine (HLT.out _ (Same.trans HW6.out (by repeat (first | exact Same.refl _ _ | exact HSA.out | refine Same.drew ?_ | refine Same.drewN ?_ _ | refine Same.alloc ?_ _)))).mono ?_; rintro e wB ⟨bb, rfl, hbb, hzb, hsb⟩; have HBB := Lib.hid hbb; have HZB := Lib.hid hzb; have HSB0 := Lib.hid hsb; have HSB : Hid (Same [] w6 wB) := Lib.hid (Same.trans (by repeat (first | exact Same.refl _ _ | exact HSA.out | refine Same.drew ?_ | refine Same.drewN ?_ _ | refine Same.alloc ?_ _)) hsb); have p0b := (HSB.out.cell bz (by simp)).trans p0; have p1b := (HSB.out.cell bz (by simp)).trans p1; have p2b := (HSB.out.cell bz (by simp)).trans p2; have r0b := (HSB.out.cell rz (by simp)).trans r0; have r1b := (HSB.out.cell rz (by simp)).trans r1; have r2b := (HSB.out.cell rz (by simp)).trans r2; have rzb := Nat.lt_of_lt_of_le rz HSB.out.size; have bzb := Nat.lt_of_lt_of_le bz HSB.out.size; have rfb : ∀ j, wB.frozen? ⟨w.heap.size + 1, j, none⟩ = false := (fun j => (HSB.out.frozen rz (by simp)).trans (rf j)); clear hbb hzb hsb))
          all_goals
            go_wp2_with fail
            have hza : w6.heap.size ≤ ba := HZA.out
            have hzb : w6.heap.size ≤ bb := Nat.le_trans HSA.out.size HZB.out
            have hS : Same [w.heap.size + 1] wB (((wB.setCell ⟨w.heap.size + 1, 0, none⟩ (.slice (some ⟨ba, 0, none⟩) c.consts.length (c.consts.length + 2))).setCell ⟨w.heap.size + 1, 1, none⟩ (.slice (some ⟨w.heap.size + 1 + 1, 0, none⟩) c.procs.length (c.procs.length + 1))).setCell ⟨w.heap.size + 1, 2, none⟩ (.slice (some ⟨bb, 0, none⟩) c.globals.length (c.globals.length + 2))) :=
              (((Same.refl _ _).setCell (.inl (by simp)) _).setCell (.inl (by simp)) _).setCell (.inl (by simp)) _
            have hBA := (HBA.out.frame HSB0.out (by simp)).frame hS (by simp; omega)
            have hBB := HBB.out.frame hS (by simp; omega)
            have hGG := (HG6.out.frame HSB.out (by simp)).frame hS (by simp)
            have hKK := ((HK6.out.frame HSB.out (by simp)).frame hS (fun x hx => by rw [List.mem_singleton.1 hx]; omega)).mono (show w.heap.size ≤ _ by omega)
            refine bodyPost_ret (v := .agg #[.slice (some ⟨ba, 0, none⟩) c.consts.length (c.consts.length + 2), .slice (some ⟨w.heap.size + 1 + 1, 0, none⟩) c.procs.length (c.procs.length + 1), .slice (some ⟨bb, 0, none⟩) c.globals.length (c.globals.length + 2)]) (by simp [results, Tryz.results12, go_sem, r0b, r1b, r2b]) rfl ?_
            exact ⟨_, _, _, kvs, rfl, ⟨⟨ba, by omega, rfl, hBA⟩, ⟨bb, by omega, rfl, hBB⟩, ⟨_, by omega, rfl, hGG⟩, hKK⟩, (((HW6.out.trans HSB.out).setCell (.inr (by simp)) _).setCell (.inr (by simp)) _).setCell (.inr (by simp)) _⟩
end Ck
end Go.Proofs.YticaipedpcmhfaaGreatDoor
