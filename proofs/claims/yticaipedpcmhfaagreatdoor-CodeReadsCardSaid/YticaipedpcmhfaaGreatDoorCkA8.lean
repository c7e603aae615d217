/- Layer 8, the document's answer: what is wrong with a procedure; Check. -/
import Derived.Test.YticaipedpcmhfaaGreatDoorCkA3
import Derived.Test.YticaipedpcmhfaaGreatDoorCkA6
import Derived.Test.YticaipedpcmhfaaGreatDoorCkW7
import Derived.Test.YticaipedpcmhfaaGreatDoorCkW8
namespace Go.Proofs.YticaipedpcmhfaaGreatDoor
open Go.RowKit Hp
namespace Ck
variable {w w' : World}

theorem firstBad_cases (code : List Cd.In) : (firstBad code = -1 ∧ ∀ j, j < code.length → Cd.badD code j = false) ∨ ∃ k, k < code.length ∧ firstBad code = k ∧ Cd.badD code k = true ∧ ∀ j, j < k → Cd.badD code j = false := by
  cases h : (List.range code.length).find? (Cd.badD code) with
  | none =>
    left
    refine ⟨by unfold firstBad; rw [h], fun j hj => ?_⟩
    have := List.find?_eq_none.1 h j (List.mem_range.2 hj)
    simpa using this
  | some k =>
    right
    obtain ⟨h1, i, hi, he, hb⟩ := List.find?_eq_some_iff_getElem.1 h
    have hik : i = k := by simpa using he
    subst hik
    refine ⟨i, by simpa using hi, by unfold firstBad; rw [h], h1, fun j hj => ?_⟩
    have := hb j hj
    simpa using this

theorem procR_much (cv pv gv kv : Value) (c : Cd.Co) (p : Cd.Pr) (hk : RIs w kv p.code) (h : 4096 < p.code.length) : Calls Tryz.prog 28 #[.agg #[cv, pv, gv], .agg #[.int .i64 p.params, kv]] w (Bad (Cd.badAt c p) w) := by
  obtain ⟨A, cap, rfl, k1, k2, _⟩ := hk
  unfold maxLen at k2
  have hb := Cd.bad_much (c := c) h
  unfold Bad
  rw [hb]
  clear hb
  go_enter Tryz.func28, Tryz.ntmps28
  go_wp2
  go_ret2
  exact ⟨rfl, ((Same.refl _ _).alloc _).alloc _⟩

set_option maxHeartbeats 1000000 in
theorem procR_form (cv pv gv kv : Value) (c : Cd.Co) (p : Cd.Pr) (hk : RIs w kv p.code) (_ : in64 p.params) (h : p.code.length ≤ 4096) (h2 : p.params < 0 ∨ 256 < p.params ∨ p.code = []) : Calls Tryz.prog 28 #[.agg #[cv, pv, gv], .agg #[.int .i64 p.params, kv]] w (Bad (Cd.badAt c p) w) := by
  obtain ⟨A, cap, rfl, k1, k2, _⟩ := hk
  unfold maxLen at k2
  have hb := Cd.bad_form (c := c) h h2
  unfold Bad
  rw [hb]
  clear hb
  by_cases q1 : p.params < 0
  · clear h2
    go_enter Tryz.func28, Tryz.ntmps28
    go_wp2
    go_ret2
    exact ⟨rfl, ((Same.refl _ _).alloc _).alloc _⟩
  · by_cases q2 : 256 < p.params
    · have q1' : 0 ≤ p.params := by omega
      clear h2 q1
      go_enter Tryz.func28, Tryz.ntmps28
      go_wp2
      go_ret2
      exact ⟨rfl, ((Same.refl _ _).alloc _).alloc _⟩
    · have q1' : 0 ≤ p.params := by omega
      have q2' : p.params ≤ 256 := by omega
      have q3 : p.code.length = 0 := by
        rcases h2 with h2 | h2 | h2
        · omega
        · omega
        · rw [h2]; rfl
      have q4 : ((p.code.length : Int) == 0) = true := by rw [q3]; rfl
      clear h2 q1 q2 q3
      go_enter Tryz.func28, Tryz.ntmps28
      go_wp2
      go_ret2
      exact ⟨rfl, ((Same.refl _ _).alloc _).alloc _⟩

set_option maxHeartbeats 8000000 in
set_option maxRecDepth 100000 in
theorem procR_rest (cv pv gv kv : Value) (c : Cd.Co) (p : Cd.Pr) (hr : RCoAt w cv pv gv c) (hk : RIs w kv p.code) (hwp : WPr p) (hc : c.consts.length ≤ 1024 ∧ c.globals.length ≤ 64 ∧ c.procs.length ≤ 256) (h : p.code.length ≤ 4096) (h2 : ¬ (p.params < 0 ∨ 256 < p.params ∨ p.code = [])) : Calls Tryz.prog 28 #[.agg #[cv, pv, gv], .agg #[.int .i64 p.params, kv]] w (Bad (Cd.badAt c p) w) := by
  have hn0 : 0 < p.code.length := by
    rcases Nat.eq_zero_or_pos p.code.length with h0 | h0
    · exact absurd (.inr (.inr (List.eq_nil_of_length_eq_zero h0))) h2
    · exact h0
  have q1 : 0 ≤ p.params := by omega
  have q2 : p.params ≤ 256 := by omega
  have q3 : ((p.code.length : Int) == 0) = false := by rw [beq_eq_false_iff_ne]; omega
  obtain ⟨b, off, cap, rfl, hcap1, hcap2, hb, hcell⟩ := Sq.lit hk hn0
  unfold maxLen at hcap2
  have HK := Lib.hid hk
  have HR := Lib.hid hr
  have HW := Lib.hid hwp
  have HC := Lib.hid hc
  have HF2 := Lib.hid h2
  have HCELL := Lib.hid hcell
  obtain ⟨A1, c1, hcv, _, _⟩ := hr.consts.form
  obtain ⟨kv2, hps, _⟩ := hr.procs
  obtain ⟨A2, c2, hpv, _, _⟩ := hps.form
  obtain ⟨A3, c3, hgv, _, _⟩ := hr.globals.form
  subst hcv hpv hgv
  clear hk hr hwp hc h2 hps hcell
  go_enter Tryz.func28, Tryz.ntmps28
  go_wp2_with fail
  go_loopg [6, 7] p.code.length (fun gk i _ wr => ∃ k : Nat, k ≤ p.code.length ∧ gk = p.code.length - k ∧ i = .int .i64 k ∧ Blk wr w.heap.size 26 [.slice A1 c.consts.length c1, .slice A2 c.procs.length c2, .slice A3 c.globals.length c3] ∧ Blk wr (w.heap.size + 1) 68 [.int .i64 p.params, .slice (some ⟨b, off, none⟩) p.code.length cap] ∧ Same [] w wr ∧ ∀ j, j < k → Cd.fits c p.code.length (p.code.getD j ⟨0, 0⟩) = true)
  case atStart =>
    refine ⟨0, Nat.zero_le _, rfl, rfl, (Blk.new w _ _).alloc _, ?_, ((Same.refl _ _).alloc _).alloc _, by omega⟩
    have := Blk.new (w.alloc (.cells #[.slice A1 c.consts.length c1, .slice A2 c.procs.length c2, .slice A3 c.globals.length c3] 26)) 68 [.int .i64 p.params, .slice (some ⟨b, off, none⟩) p.code.length cap]
    simpa using this
  case round =>
    obtain ⟨k, hk, rfl, rfl, hb1, hb2, hsame, hall⟩ := hrel
    have b10 := hb1.cell 0
    have b11 := hb1.cell 1
    have b12 := hb1.cell 2
    have b1z := hb1.lt
    have b20 := hb2.cell 0
    have b21 := hb2.cell 1
    have b2z := hb2.lt
    have HB1 := Lib.hid hb1
    have HB2 := Lib.hid hb2
    have HS := Lib.hid hsame
    have HA := Lib.hid hall
    clear hb1 hb2 hsame hall
    by_cases hlt : k < p.code.length
    · obtain ⟨ix, hix⟩ : ∃ ix, p.code.getD k ⟨0, 0⟩ = ix := ⟨_, rfl⟩
      have hwi := HW.out.code ix (by rw [← hix]; exact Cd.getD_mem _ _ hlt)
      have i0 : wr.cell? ⟨b, off + k * 2, none⟩ = some (.int .u8 ix.op) := by
        have := HCELL.out k 0 hlt (by omega)
        rw [HS.out.cell hb (by simp), ← Nat.add_zero (off + k * 2), this, fI, hix]; rfl
      have i1 : wr.cell? ⟨b, off + k * 2 + 1, none⟩ = some (.int .i64 ix.a) := by
        have := HCELL.out k 1 hlt (by omega)
        rw [HS.out.cell hb (by simp), this, fI, hix]; rfl
      have hbw : b < wr.heap.size := Nat.lt_of_lt_of_le hb HS.out.size
      have HX := Lib.hid hix
      obtain ⟨⟨ho1, ho2⟩, ha12⟩ := hwi
      clear hix
      by_cases l1 : ix.op < 1
      · have HOP : Hid (Cd.isOp ix.op = false) := Lib.hid (by simp [Cd.isOp]; omega)
        go_wp2_with fail
        go_ret2
        refine ⟨?_, HS.out.alloc _⟩
        rw [Cd.bad_fit h HF2.out k hlt HA.out (by unfold Cd.fits; rw [HX.out, HOP.out]; rfl)]
        rfl
      · have l1' : 1 ≤ ix.op := by omega
        clear l1
        by_cases l2 : 18 < ix.op
        · have HOP : Hid (Cd.isOp ix.op = false) := Lib.hid (by simp [Cd.isOp]; omega)
          go_wp2_with fail
          go_ret2
          refine ⟨?_, HS.out.alloc _⟩
          rw [Cd.bad_fit h HF2.out k hlt HA.out (by unfold Cd.fits; rw [HX.out, HOP.out]; rfl)]
          rfl
        · have l2' : ix.op ≤ 18 := by omega
          have HOP : Hid (Cd.isOp ix.op = true) := Lib.hid (by simp [Cd.isOp]; omega)
          clear l2
          have harg := argR_any (w := wr.alloc (.cells #[.int .u8 ix.op, .int .i64 ix.a] 82)) (.slice A1 c.consts.length c1) (.slice A2 c.procs.length c2) (.slice A3 c.globals.length c3) (.agg #[.int .i64 p.params, .slice (some ⟨b, off, none⟩) p.code.length cap]) c p ix (HR.out.frame (HS.out.alloc _)) ⟨_, rfl, HK.out.frame (HS.out.alloc _)⟩ ⟨l1', l2'⟩ ha12 h
          obtain ⟨g, hg⟩ : ∃ g, decide (Cd.lo ix.op ≤ ix.a ∧ ix.a ≤ Cd.hi c ix.op p.code.length) = g := ⟨_, rfl⟩
          rw [hg] at harg
          have HFIT : Hid (Cd.fits c p.code.length ix = g) := Lib.hid (by unfold Cd.fits; rw [HOP.out, hg]; rfl)
          have HARG := Lib.hid harg
          clear hg harg ha12
          go_wp2_with fail
          refine HARG.out.mono ?_
          rintro e w2 ⟨rfl, hs2⟩
          have HS2 := Lib.hid ((HS.out.alloc (.cells #[.int .u8 ix.op, .int .i64 ix.a] 82)).trans hs2)
          have HB12 := Lib.hid ((HB1.out.alloc (.cells #[.int .u8 ix.op, .int .i64 ix.a] 82)).frame hs2 (by simp))
          have HB22 := Lib.hid ((HB2.out.alloc (.cells #[.int .u8 ix.op, .int .i64 ix.a] 82)).frame hs2 (by simp))
          clear hs2
          cases g
          · go_wp2_with fail
            go_ret2
            refine ⟨?_, HS2.out⟩
            rw [Cd.bad_fit h HF2.out k hlt HA.out (by rw [HX.out]; exact HFIT.out)]
            rfl
          · go_wp2_with fail
            go_roundg (p.code.length - (k + 1))
            case measure => omega
            case rel =>
              refine ⟨k + 1, by omega, rfl, by go_num, HB12.out, HB22.out, HS2.out, fun j hj => ?_⟩
              rcases Nat.lt_or_eq_of_le (Nat.le_of_lt_succ hj) with hj | hj
              · exact HA.out j hj
              · subst hj; rw [HX.out]; exact HFIT.out
    · have HALL : Hid (∀ j, j < p.code.length → Cd.fits c p.code.length (p.code.getD j ⟨0, 0⟩) = true) := Lib.hid (fun j hj => HA.out j (by omega))
      obtain ⟨lx, hlx⟩ : ∃ lx, p.code.getLastD ⟨0, 0⟩ = lx := ⟨_, rfl⟩
      have l0 : wr.cell? ⟨b, off + (p.code.length - 1) * 2, none⟩ = some (.int .u8 lx.op) := by
        have := HCELL.out (p.code.length - 1) 0 (by omega) (by omega)
        rw [HS.out.cell hb (by simp), ← Nat.add_zero (off + _ * 2), this, fI, ← hlx, List.getLastD_eq_getLast?, List.getLast?_eq_getElem?, List.getD]; rfl
      have HLX := Lib.hid hlx
      clear hlx HA
      by_cases hlo : lx.op = 12 ∨ lx.op = 11 ∨ lx.op = 8
      · have hlo2 := hlo
        have hfit := Cd.fit_of HC.out h HALL.out
        have hlast : (p.code.getLastD ⟨0, 0⟩).op = 8 ∨ (p.code.getLastD ⟨0, 0⟩).op = 11 ∨ (p.code.getLastD ⟨0, 0⟩).op = 12 := by rw [HLX.out]; omega
        have HWR := Lib.hid (wrong_any (w := wr) (.agg #[.int .i64 p.params, .slice (some ⟨b, off, none⟩) p.code.length cap]) p ⟨_, rfl, HK.out.frame HS.out⟩ ⟨by omega, h⟩ hfit hlast)
        have HLO := Lib.hid hlo
        clear hfit hlast hlo
        rcases firstBad_cases p.code with ⟨hfb, hno⟩ | ⟨kk, hkk, hfb, hbd, hno⟩
        · rw [hfb] at HWR
          have HNO := Lib.hid hno
          clear hfb hno
          rcases hlo2 with hq | hq | hq
          all_goals
            rw [hq] at l0
            clear hq
            go_wp2_with fail
            refine HWR.out.mono ?_
            rintro e w2 ⟨rfl, hs2⟩
            have HS2 := Lib.hid (HS.out.trans hs2)
            clear hs2
            go_wp2_with fail
            go_ret2
            refine ⟨?_, HS2.out⟩
            rw [Cd.bad_not h HF2.out HALL.out (by rw [HLX.out]; have := HLO.out; omega) HNO.out]
            rfl
        · rw [hfb] at HWR
          have HNO := Lib.hid hno
          have HBD := Lib.hid hbd
          clear hfb hno hbd
          rcases hlo2 with hq | hq | hq
          all_goals
            rw [hq] at l0
            clear hq
            go_wp2_with fail
            refine HWR.out.mono ?_
            rintro e w2 ⟨rfl, hs2⟩
            have HS2 := Lib.hid (HS.out.trans hs2)
            clear hs2
            go_wp2_with fail
            go_ret2
            refine ⟨?_, HS2.out⟩
            rw [Cd.bad_deep h HF2.out HALL.out (by rw [HLX.out]; have := HLO.out; omega) kk hkk HNO.out HBD.out]
            rfl
      · have m12 : (lx.op != 12) = true := by rw [bne_iff_ne]; omega
        have m11 : (lx.op != 11) = true := by rw [bne_iff_ne]; omega
        have m8 : (lx.op != 8) = true := by rw [bne_iff_ne]; omega
        have HLO := Lib.hid hlo
        clear hlo
        go_wp2_with fail
        go_quiet (fail)
        go_wp2_with fail
        go_ret2
        refine ⟨?_, HS.out.drewN _⟩
        rw [Cd.bad_last h HF2.out HALL.out (by rw [HLX.out]; have := HLO.out; omega)]
        simp; omega

theorem procR_any (cv pv gv : Value) (v : Value) (c : Cd.Co) (p : Cd.Pr) (hr : RCoAt w cv pv gv c) (hk : RPr w v p) (hwp : WPr p) (hc : c.consts.length ≤ 1024 ∧ c.globals.length ≤ 64 ∧ c.procs.length ≤ 256) : Calls Tryz.prog 28 #[.agg #[cv, pv, gv], v] w (Bad (Cd.badAt c p) w) := by
  obtain ⟨kv, rfl, hk⟩ := hk
  by_cases h : 4096 < p.code.length
  · exact procR_much cv pv gv kv c p hk h
  · by_cases h2 : p.params < 0 ∨ 256 < p.params ∨ p.code = []
    · exact procR_form cv pv gv kv c p hk hwp.params (by omega) h2
    · exact procR_rest cv pv gv kv c p hr hk hwp hc (by omega) h2
end Ck
end Go.Proofs.YticaipedpcmhfaaGreatDoor
/- Layer 8, the document's answer: Check. -/
namespace Go.Proofs.YticaipedpcmhfaaGreatDoor
open Go.RowKit Hp
namespace Ck
variable {w w' : World}

/-- No such text among those ahead. -/
def newTo (l : List ByteArray) (i m : Nat) : Prop := ∀ j, j < m → l.getD j ByteArray.empty ≠ l.getD i ByteArray.empty
theorem globOk_iff (l : List ByteArray) (i : Nat) (hi : i < l.length) : globOk l i = true ↔ Cd.sym (l.getD i ByteArray.empty) = true ∧ newTo l i i := by
  unfold globOk
  rw [Bool.and_eq_true, Bool.not_eq_true', ← Bool.not_eq_true, Lib.containsS_iff]
  refine and_congr_right fun _ => ⟨fun h j hj e => h ?_, fun h hm => ?_⟩
  · rw [← e, List.getD, List.getElem?_eq_getElem (by omega)]
    exact List.mem_take_iff_getElem.2 ⟨j, by omega, rfl⟩
  · obtain ⟨j, hj, e⟩ := List.mem_take_iff_getElem.1 hm
    exact h j (by omega) (by rw [← e, List.getD, List.getElem?_eq_getElem (by omega)]; rfl)

def ConstsOk (c : Cd.Co) (k : Nat) : Prop := ∀ j, j < k → constOk (c.consts.getD j 0) = true
def GlobsOk (c : Cd.Co) (k : Nat) : Prop := ∀ j, j < k → globOk c.globals j = true
theorem ConstsOk.succ {c : Cd.Co} {k : Nat} : ConstsOk c (k + 1) ↔ ConstsOk c k ∧ constOk (c.consts.getD k 0) = true :=
  ⟨fun h => ⟨fun j hj => h j (by omega), h k (by omega)⟩, fun h j hj => by
    rcases Nat.lt_or_eq_of_le (Nat.le_of_lt_succ hj) with q | q
    · exact h.1 j q
    · rw [q]; exact h.2⟩
theorem GlobsOk.succ {c : Cd.Co} {k : Nat} : GlobsOk c (k + 1) ↔ GlobsOk c k ∧ globOk c.globals k = true :=
  ⟨fun h => ⟨fun j hj => h j (by omega), h k (by omega)⟩, fun h j hj => by
    rcases Nat.lt_or_eq_of_le (Nat.le_of_lt_succ hj) with q | q
    · exact h.1 j q
    · rw [q]; exact h.2⟩
theorem newTo.succ {l : List ByteArray} {i m : Nat} : newTo l i (m + 1) ↔ newTo l i m ∧ l.getD m ByteArray.empty ≠ l.getD i ByteArray.empty :=
  ⟨fun h => ⟨fun j hj => h j (by omega), h m (by omega)⟩, fun h j hj => by
    rcases Nat.lt_or_eq_of_le (Nat.le_of_lt_succ hj) with q | q
    · exact h.1 j q
    · rw [q]; exact h.2⟩
/-- What is gathered: false as long as all is well. -/
theorem named_iff (c : Cd.Co) : Cd.named Cd.sym c = true ↔ ConstsOk c c.consts.length ∧ GlobsOk c c.globals.length := by
  refine ⟨fun h => ⟨fun k hk => ?_, fun k hk => ?_⟩, fun h => named_yes c h.1 h.2⟩
  · cases e : constOk (c.consts.getD k 0) with
    | true => rfl
    | false => rw [named_no1 c k hk e] at h; cases h
  · cases e : globOk c.globals k with
    | true => rfl
    | false => rw [named_no2 c k hk e] at h; cases h

set_option maxHeartbeats 8000000 in
set_option maxRecDepth 100000 in
theorem checkR_any (v : Value) (c : Cd.Co) (hr : RCo w v c) (hw : WCo c) : Calls Tryz.prog 10 #[v] w (Chk (Cd.check Cd.sym c) w) := by
  obtain ⟨cv, pv, gv, rfl, hr⟩ := hr
  have HR := Lib.hid hr
  obtain ⟨A1, c1, hcv, hc1, hc1'⟩ := hr.consts.form
  obtain ⟨kv2, hps, hks⟩ := hr.procs
  obtain ⟨A2, c2, hpv, hc2, hc2'⟩ := hps.form
  obtain ⟨A3, c3, hgv, hc3, hc3'⟩ := hr.globals.form
  subst hcv hpv hgv
  unfold maxLen at hc1' hc2' hc3'
  have HPS := Lib.hid hps
  have HKS := Lib.hid hks
  have HW := Lib.hid hw
  clear hr hps hks hw
  by_cases h : 256 < c.procs.length ∨ 1024 < c.consts.length ∨ 64 < c.globals.length
  · rw [check_much h]
    by_cases g1 : 256 < c.procs.length
    · clear h
      go_enter Tryz.func10, Tryz.ntmps10
      go_wp2_with fail
      go_ret3
      exact ⟨rfl, (Same.refl _ _).alloc _⟩
    · have g1' : c.procs.length ≤ 256 := by omega
      by_cases g2 : 1024 < c.consts.length
      · clear h g1
        go_enter Tryz.func10, Tryz.ntmps10
        go_wp2_with fail
        go_ret3
        exact ⟨rfl, (Same.refl _ _).alloc _⟩
      · have g2' : c.consts.length ≤ 1024 := by omega
        have g3 : 64 < c.globals.length := by omega
        clear h g1 g2
        go_enter Tryz.func10, Tryz.ntmps10
        go_wp2_with fail
        go_ret3
        exact ⟨rfl, (Same.refl _ _).alloc _⟩
  have g1 : c.procs.length ≤ 256 := by omega
  have g2 : c.consts.length ≤ 1024 := by omega
  have g3 : c.globals.length ≤ 64 := by omega
  have H := Lib.hid h
  clear h
  have e1 : decide ((256 : Int) < (c.procs.length : Int)) = false := decide_eq_false (by omega)
  have e2 : decide ((1024 : Int) < (c.consts.length : Int)) = false := decide_eq_false (by omega)
  have e3 : decide ((64 : Int) < (c.globals.length : Int)) = false := decide_eq_false (by omega)
  obtain ⟨b0, hb0⟩ : ∃ b0, ((c.procs.length : Int) == 0) = b0 := ⟨_, rfl⟩
  have HB0 : Hid (b0 = false ↔ c.procs ≠ []) := Lib.hid (by
    rw [← hb0, beq_eq_false_iff_ne]
    refine ⟨fun h e => h (by rw [e]; rfl), fun h e => h (List.eq_nil_of_length_eq_zero (by omega))⟩)
  go_enter Tryz.func10, Tryz.ntmps10
  go_wp2_with fail
  have HBX : Hid (Blk (w.alloc (.cells #[.slice A1 c.consts.length c1, .slice A2 c.procs.length c2, .slice A3 c.globals.length c3] 26)) w.heap.size 26 [.slice A1 c.consts.length c1, .slice A2 c.procs.length c2, .slice A3 c.globals.length c3]) := Lib.hid (Blk.new w _ _)
  clear hb0
  go_loopg [5, 6] c.consts.length (fun gk bv i wr => ∃ (k : Nat) (bd : Bool), k ≤ c.consts.length ∧ gk = c.consts.length - k ∧ i = .int .i64 k ∧ bv = .bool bd ∧ (bd = false ↔ b0 = false ∧ ConstsOk c k) ∧ wr = w.alloc (.cells #[.slice A1 c.consts.length c1, .slice A2 c.procs.length c2, .slice A3 c.globals.length c3] 26))
  case atStart => exact ⟨0, b0, Nat.zero_le _, rfl, rfl, rfl, ⟨fun h => ⟨h, fun j hj => absurd hj (Nat.not_lt_zero _)⟩, fun h => h.1⟩, rfl⟩
  case round =>
    obtain ⟨k, bd, hk, rfl, rfl, rfl, hbd, rfl⟩ := hrel
    have HBD := Lib.hid hbd
    clear hbd
    by_cases hlt : k < c.consts.length
    · obtain ⟨b, off, cap, he, _, _, hb, hcell⟩ := HR.out.consts.lit (by omega)
      injection he with he1 _ he3
      subst he1 he3
      obtain ⟨x, hx⟩ : ∃ x, c.consts.getD k 0 = x := ⟨_, rfl⟩
      have hck : w.cell? ⟨b, off + k, none⟩ = some (.int .u64 x) := by
        have := hcell k 0 hlt (by omega)
        rw [Nat.mul_one, Nat.add_zero] at this
        rw [this, fW, hx]
      have hxr : 0 ≤ x ∧ x < 18446744073709551616 := HW.out.consts x (by rw [← hx, List.getD, List.getElem?_eq_getElem hlt]; exact List.getElem_mem _)
      have HOF : Hid (∀ W, Calls Tryz.prog 26 #[.int .u64 x] W fun e w' => e = .returned (.tuple (if Cd.isWord x then #[.int .u8 (Cd.wordT x), .int .i64 (Cd.wordN x), .bool true] else #[.int .u8 0, .int .i64 0, .bool false])) ∧ W = w') := Lib.hid (fun W => ofR_any (w := W) x hxr)
      have HSUC : Hid (ConstsOk c (k + 1) ↔ ConstsOk c k ∧ constOk x = true) := Lib.hid (by rw [ConstsOk.succ, hx])
      clear hcell hx hxr
      have key : ∀ q : Bool, (q = false ↔ constOk x = true) → ((bd || q) = false ↔ b0 = false ∧ ConstsOk c (k + 1)) := fun q hq => by
        rw [Bool.or_eq_false_iff, HBD.out, HSUC.out, hq, and_assoc]
      have HKEY := Lib.hid key
      clear key
      cases hiw : Cd.isWord x
      · rw [hiw, if_neg (by simp)] at HOF
        have HIW : Hid (constOk x = false) := Lib.hid (by unfold constOk; rw [hiw]; rfl)
        clear hiw
        go_wp2_with fail
        refine (HOF.out _).mono ?_
        rintro e w2 ⟨rfl, rfl⟩
        cases bd
        all_goals
          go_wp2_with fail
          go_roundg (c.consts.length - (k + 1))
          case measure => omega
          case rel => exact ⟨k + 1, true, by omega, rfl, by go_num, rfl, by have := HKEY.out true (by rw [HIW.out]; simp); simpa using this, rfl⟩
      · rw [hiw, if_pos rfl] at HOF
        obtain ⟨t, ht⟩ : ∃ t, Cd.wordT x = t := ⟨_, rfl⟩
        obtain ⟨nn, hnn⟩ : ∃ n, Cd.wordN x = n := ⟨_, rfl⟩
        rw [ht, hnn] at HOF
        have HIW : Hid (constOk x = (t != 8)) := Lib.hid (by unfold constOk; rw [hiw, ht]; rfl)
        clear hiw ht hnn
        cases h8 : (t == 8)
        all_goals
          have H8 := Lib.hid h8
          go_wp2_with fail
          refine (HOF.out _).mono ?_
          rintro e w2 ⟨rfl, rfl⟩
          cases bd
          all_goals
            go_wp2_with fail
            go_roundg (c.consts.length - (k + 1))
            case measure => omega
            case rel => exact ⟨k + 1, _, by omega, rfl, by go_num, rfl, by have := HKEY.out (t == 8) (by rw [HIW.out, bne]; cases (t == 8) <;> simp); rw [H8.out] at this; simpa using this, rfl⟩
    · have hk' : k = c.consts.length := by omega
      have HBD1 : Hid (bd = false ↔ b0 = false ∧ ConstsOk c c.consts.length) := Lib.hid (by rw [← hk']; exact HBD.out)
      have hge : c.consts.length ≤ k := by omega
      have ek : decide (k < c.consts.length) = false := decide_eq_false (by omega)
      clear HBD hk' hlt
      have q0 := HBX.out.cell 0
      have q1 := HBX.out.cell 1
      have q2 := HBX.out.cell 2
      go_wp2_with fail
      go_loopg [5, 10, 11] c.globals.length (fun gk bv i _ wr => ∃ (k : Nat) (bd : Bool), k ≤ c.globals.length ∧ gk = c.globals.length - k ∧ i = .int .i64 k ∧ bv = .bool bd ∧ (bd = false ↔ b0 = false ∧ ConstsOk c c.consts.length ∧ GlobsOk c k) ∧ Same [] (w.alloc (.cells #[.slice A1 c.consts.length c1, .slice A2 c.procs.length c2, .slice A3 c.globals.length c3] 26)) wr)
      case atStart => exact ⟨0, bd, Nat.zero_le _, rfl, rfl, rfl, ⟨fun h => ⟨(HBD1.out.1 h).1, (HBD1.out.1 h).2, fun j hj => absurd hj (Nat.not_lt_zero _)⟩, fun h => HBD1.out.2 ⟨h.1, h.2.1⟩⟩, Same.refl _ _⟩
      case round =>
        obtain ⟨k2, bd2, hk2, rfl, rfl, rfl, hbd2, hsame⟩ := hrel
        have hbx := HBX.out.frame hsame (by simp)
        have q0 := hbx.cell 0
        have q1 := hbx.cell 1
        have q2 := hbx.cell 2
        have qz := hbx.lt
        have HB2 := Lib.hid hbx
        have HBD2 := Lib.hid hbd2
        have HS2 := Lib.hid hsame
        have HSW := Lib.hid (((Same.refl [] w).alloc (.cells #[.slice A1 c.consts.length c1, .slice A2 c.procs.length c2, .slice A3 c.globals.length c3] 26)).trans hsame)
        clear hbd2 hsame hbx
        by_cases hlt2 : k2 < c.globals.length
        · obtain ⟨b, off, cap, he, _, _, hb, hcell⟩ := HR.out.globals.lit (by omega)
          injection he with he1 _ he3
          subst he1 he3
          have HGC : Hid (∀ W, Same [] w W → ∀ j, j < c.globals.length → W.cell? ⟨b, off + j, none⟩ = some (.string (c.globals.getD j ByteArray.empty)) ∧ b < W.heap.size) := Lib.hid (fun W hs j hj => by
            have := hcell j 0 hj (by omega)
            rw [Nat.mul_one, Nat.add_zero] at this
            exact ⟨by rw [hs.cell hb (by simp), this, fS], Nat.lt_of_lt_of_le hb hs.size⟩)
          obtain ⟨x, hx⟩ : ∃ x, c.globals.getD k2 ByteArray.empty = x := ⟨_, rfl⟩
          have hxs : x.size ≤ 281474976710656 := HW.out.globals x (by rw [← hx, List.getD, List.getElem?_eq_getElem hlt2]; exact List.getElem_mem _)
          obtain ⟨xc, xz⟩ := HGC.out wr HSW.out k2 hlt2
          rw [hx] at xc
          obtain ⟨sy, hsy⟩ : ∃ sy, Cd.sym x = sy := ⟨_, rfl⟩
          have HSYM : Hid (∀ W, Calls Tryz.prog 27 #[.string x] W fun e w' => e = .returned (.bool sy) ∧ Same [] W w') := Lib.hid (fun W => by rw [← hsy]; exact isSymbolR_any x hxs)
          have HGO : Hid (GlobsOk c (k2 + 1) ↔ GlobsOk c k2 ∧ sy = true ∧ newTo c.globals k2 k2) := Lib.hid (by rw [GlobsOk.succ, globOk_iff _ _ hlt2, hx, hsy])
          have HX := Lib.hid hx
          clear hcell hx hxs hsy
          go_upto_region 12 with fail
          go_cut [5] (fun s5 wx => s5 = .bool (bd2 || !sy) ∧ Same [] wr wx)
          case first =>
            cases bd2
            · go_wp2_with fail
              refine (HSYM.out _).mono ?_
              rintro e w3 ⟨rfl, hs3⟩
              have HS3 := Lib.hid hs3
              clear hs3
              go_wp2_with fail
              go_meet
              exact ⟨rfl, HS3.out⟩
            · go_wp2_with fail
              go_meet
              exact ⟨rfl, Same.refl _ _⟩
          case rest =>
            obtain ⟨rfl, hs3⟩ := hcut
            obtain ⟨bd3, hbd3⟩ : ∃ bd3, (bd2 || !sy) = bd3 := ⟨_, rfl⟩
            rw [hbd3]
            have HBD3 : Hid (bd3 = false ↔ (b0 = false ∧ ConstsOk c c.consts.length ∧ GlobsOk c k2) ∧ sy = true) := Lib.hid (by rw [← hbd3, Bool.or_eq_false_iff, HBD2.out]; cases sy <;> simp)
            have HS3 := Lib.hid (HS2.out.trans hs3)
            clear hbd3 hs3 q0 q1 q2 qz xc xz
            go_wp2_with fail
            go_loopg [5, 11] k2 (fun gk bv i wq => ∃ (m : Nat) (bd : Bool), m ≤ k2 ∧ gk = k2 - m ∧ i = .int .i64 m ∧ bv = .bool bd ∧ (bd = false ↔ bd3 = false ∧ newTo c.globals k2 m) ∧ Same [] (w.alloc (.cells #[.slice A1 c.consts.length c1, .slice A2 c.procs.length c2, .slice (some ⟨b, off, none⟩) c.globals.length c3] 26)) wq)
            case atStart => exact ⟨0, bd3, Nat.zero_le _, rfl, rfl, rfl, ⟨fun h => ⟨h, fun j hj => absurd hj (Nat.not_lt_zero _)⟩, fun h => h.1⟩, HS3.out⟩
            case round =>
              obtain ⟨m, bd, hm, rfl, rfl, rfl, hbd, hsame⟩ := hrel
              have hbx := HBX.out.frame hsame (by simp)
              have q0 := hbx.cell 0
              have q1 := hbx.cell 1
              have q2 := hbx.cell 2
              have qz := hbx.lt
              have HBDm := Lib.hid hbd
              have HSm := Lib.hid hsame
              have HSW2 := Lib.hid (((Same.refl [] w).alloc (.cells #[.slice A1 c.consts.length c1, .slice A2 c.procs.length c2, .slice (some ⟨b, off, none⟩) c.globals.length c3] 26)).trans hsame)
              clear hbd hsame hbx
              by_cases hlm : m < k2
              · obtain ⟨xc, xz⟩ := HGC.out wr HSW2.out k2 hlt2
                obtain ⟨yc, -⟩ := HGC.out wr HSW2.out m (by omega)
                rw [HX.out] at xc
                obtain ⟨y, hy⟩ : ∃ y, c.globals.getD m ByteArray.empty = y := ⟨_, rfl⟩
                rw [hy] at yc
                have hsuc : newTo c.globals k2 (m + 1) ↔ newTo c.globals k2 m ∧ y ≠ x := by rw [newTo.succ, hy, HX.out]
                have HSUC := Lib.hid hsuc
                have key : ∀ q : Bool, (q = false ↔ y ≠ x) → ((bd || q) = false ↔ bd3 = false ∧ newTo c.globals k2 (m + 1)) := fun q hq => by
                  rw [Bool.or_eq_false_iff, HBDm.out, HSUC.out, hq, and_assoc]
                have HKEY := Lib.hid key
                clear hy hsuc key
                cases bd
                · go_wp2_with fail
                  go_quiet (fail)
                  go_wp2_with fail
                  go_roundg (k2 - (m + 1))
                  case measure => omega
                  case rel => exact ⟨m + 1, _, by omega, rfl, by go_num, rfl, by have := HKEY.out (y.toList == x.toList) (Lib.bytes_beq_false_iff y x); simpa using this, HSm.out.drewN _⟩
                · go_wp2_with fail
                  go_quiet (fail)
                  go_wp2_with fail
                  go_roundg (k2 - (m + 1))
                  case measure => omega
                  case rel => exact ⟨m + 1, true, by omega, rfl, by go_num, rfl, by have := HKEY.out (y.toList == x.toList) (Lib.bytes_beq_false_iff y x); simpa using this, HSm.out.drewN _⟩
              · have hk' : m = k2 := by omega
                have HBDn : Hid (bd = false ↔ b0 = false ∧ ConstsOk c c.consts.length ∧ GlobsOk c (k2 + 1)) := Lib.hid (by
                  rw [HBDm.out, hk', HBD3.out, HGO.out]
                  refine ⟨fun h => ⟨h.1.1.1, h.1.1.2.1, h.1.1.2.2, h.1.2, h.2⟩, fun h => ⟨⟨⟨h.1, h.2.1, h.2.2.1⟩, h.2.2.2.1⟩, h.2.2.2.2⟩⟩)
                have hge : k2 ≤ m := by omega
                clear hk' hlm
                go_wp2_with fail
                go_roundg (c.globals.length - (k2 + 1))
                case measure => omega
                case rel => exact ⟨k2 + 1, bd, by omega, rfl, by go_num, rfl, HBDn.out, HSm.out⟩
        · have hk' : k2 = c.globals.length := by omega
          have HBD3 : Hid (bd2 = false ↔ b0 = false ∧ ConstsOk c c.consts.length ∧ GlobsOk c c.globals.length) := Lib.hid (by rw [← hk']; exact HBD2.out)
          have hge2 : c.globals.length ≤ k2 := by omega
          have ek2 : decide (k2 < c.globals.length) = false := decide_eq_false (by omega)
          clear HBD2 hk' hlt2
          cases bd2
          · have HH2 : Hid (¬ (c.procs = [] ∨ Cd.named Cd.sym c = false)) := Lib.hid (by
              obtain ⟨h1, h2, h3⟩ := HBD3.out.1 rfl
              rintro (h | h)
              · exact HB0.out.1 h1 h
              · rw [(named_iff c).2 ⟨h2, h3⟩] at h; cases h)
            go_wp2_with fail
            go_loopg [12, 13, 14] c.procs.length (fun gk i _ _ wr => ∃ k : Nat, k ≤ c.procs.length ∧ gk = c.procs.length - k ∧ i = .int .i64 k ∧ Blk wr w.heap.size 26 [.slice A1 c.consts.length c1, .slice A2 c.procs.length c2, .slice A3 c.globals.length c3] ∧ Same [] w wr ∧ ∀ j, j < k → (Cd.badAt c (c.procs.getD j ⟨0, []⟩)).1 = 0)
            case atStart => exact ⟨0, Nat.zero_le _, rfl, rfl, HB2.out, HSW.out, by omega⟩
            case round =>
              obtain ⟨k, hk, rfl, rfl, hb1, hsame, hall⟩ := hrel
              have b10 := hb1.cell 0
              have b11 := hb1.cell 1
              have b12 := hb1.cell 2
              have b1z := hb1.lt
              have HB := Lib.hid hb1
              have HS := Lib.hid hsame
              have HA := Lib.hid hall
              clear hb1 hsame hall
              by_cases hlt : k < c.procs.length
              · obtain ⟨b, off, cap, he, _, _, hb, hcell⟩ := HPS.out.lit (by omega)
                injection he with he1 _ he3
                subst he1 he3
                obtain ⟨p, hp⟩ : ∃ p, c.procs.getD k ⟨0, []⟩ = p := ⟨_, rfl⟩
                have hki := HKS.out k hlt
                rw [hp] at hki
                obtain ⟨Ak, ck, hkv, _, _⟩ := hki.form
                rw [hkv] at hki
                have p0 : wr.cell? ⟨b, off + k * 2, none⟩ = some (.int .i64 p.params) := by
                  have := hcell k 0 hlt (by omega)
                  rw [HS.out.cell hb (by simp), ← Nat.add_zero (off + k * 2), this, fP, hp]; rfl
                have p1 : wr.cell? ⟨b, off + k * 2 + 1, none⟩ = some (.slice Ak p.code.length ck) := by
                  have := hcell k 1 hlt (by omega)
                  rw [HS.out.cell hb (by simp), this, fP, hkv]; rfl
                have hbw : b < wr.heap.size := Nat.lt_of_lt_of_le hb HS.out.size
                have hwp : WPr p := HW.out.procs p (by rw [← hp, List.getD, List.getElem?_eq_getElem hlt]; exact List.getElem_mem _)
                have HPC : Hid (∀ W, Same [] wr W → Calls Tryz.prog 28 #[.agg #[.slice A1 c.consts.length c1, .slice (some ⟨b, off, none⟩) c.procs.length c2, .slice A3 c.globals.length c3], .agg #[.int .i64 p.params, .slice Ak p.code.length ck]] W (Bad (Cd.badAt c p) W)) := Lib.hid (fun W hs => procR_any (w := W) _ _ _ (.agg #[.int .i64 p.params, .slice Ak p.code.length ck]) c p (HR.out.frame (HS.out.trans hs)) ⟨_, rfl, hki.frame (HS.out.trans hs)⟩ hwp ⟨g2, g3, g1⟩)
                obtain ⟨b1, hb1⟩ : ∃ b1, (Cd.badAt c p).1 = b1 := ⟨_, rfl⟩
                obtain ⟨b2, hb2⟩ : ∃ b2, (Cd.badAt c p).2 = b2 := ⟨_, rfl⟩
                unfold Bad at HPC
                rw [hb1, hb2] at HPC
                have HP := Lib.hid hp
                have HBB := Lib.hid (And.intro hb1 hb2)
                obtain ⟨pp, hpp⟩ : ∃ pp, p.params = pp := ⟨_, rfl⟩
                rw [hpp] at p0 HPC
                clear hp hki hkv hcell hwp hb1 hb2 hpp
                go_upto_region 22 with fail
                go_cut [13, 14] (fun s13 s14 wx => s13 = .int .i64 b1 ∧ s14 = .int .i64 b2 ∧ Same [] wr wx)
                case first =>
                  go_region_held3 (fun W => (W.cell? ⟨w.heap.size, 0, none⟩ = some (.slice A1 c.consts.length c1) ∧ W.cell? ⟨w.heap.size, 1, none⟩ = some (.slice (some ⟨b, off, none⟩) c.procs.length c2) ∧ W.cell? ⟨w.heap.size, 2, none⟩ = some (.slice A3 c.globals.length c3)) ∧ W.cell? ⟨b, off + k * 2, none⟩ = some (.int .i64 pp) ∧ W.cell? ⟨b, off + k * 2 + 1, none⟩ = some (.slice Ak p.code.length ck)) (go_keep) (first
                    | (go_simp; go_at_call 28; refine (HPC.out _ (by repeat (first | exact Same.refl _ _ | refine Same.drew ?_ | refine Same.drewN ?_ _ | refine Same.alloc ?_ _))).mono ?_; rintro e wA ⟨rfl, hsa⟩; have HSA : Hid (Same [] wr wA) := Lib.hid (Same.trans (by repeat (first | exact Same.refl _ _ | refine Same.drew ?_ | refine Same.drewN ?_ _ | refine Same.alloc ?_ _)) hsa); have b10a := (HSA.out.cell b1z (by simp)).trans b10; have b11a := (HSA.out.cell b1z (by simp)).trans b11; have b12a := (HSA.out.cell b1z (by simp)).trans b12; have p0a := (HSA.out.cell hbw (by simp)).trans p0; have p1a := (HSA.out.cell hbw (by simp)).trans p1; clear hsa))
                  all_goals
                    go_wp2_with fail
                    go_meet
                    exact ⟨rfl, rfl, by repeat (first | exact HSA.out | refine Same.drew ?_ | refine Same.drewN ?_ _ | refine Same.alloc ?_ _)⟩
                case rest =>
                  obtain ⟨rfl, rfl, hs5⟩ := hcut
                  have HS5 := Lib.hid (HS.out.trans hs5)
                  have HB5 := Lib.hid (HB.out.frame hs5 (by simp))
                  clear hs5 b10 b11 b12 b1z p0 p1
                  by_cases hz : b1 = 0
                  · have hz' : (b1 != 0) = false := by rw [hz]; rfl
                    have HZ := Lib.hid hz
                    clear hz
                    go_wp2_with fail
                    go_roundg (c.procs.length - (k + 1))
                    case measure => omega
                    case rel =>
                      refine ⟨k + 1, by omega, rfl, by go_num, HB5.out, HS5.out, fun j hj => ?_⟩
                      rcases Nat.lt_or_eq_of_le (Nat.le_of_lt_succ hj) with hj | hj
                      · exact HA.out j hj
                      · subst hj
                        rw [HP.out, HBB.out.1, HZ.out]
                  · have hz' : (b1 != 0) = true := by rw [bne_iff_ne]; exact hz
                    go_wp2_with fail
                    go_ret3
                    refine ⟨?_, HS5.out⟩
                    rw [check_bad H.out HH2.out k hlt HA.out (by rw [HP.out, HBB.out.1]; exact hz), HP.out, HBB.out.1, HBB.out.2]
                    rfl
              · have HALL : Hid (∀ j, j < c.procs.length → (Cd.badAt c (c.procs.getD j ⟨0, []⟩)).1 = 0) := Lib.hid (fun j hj => HA.out j (by omega))
                go_wp2_with fail
                go_ret3
                refine ⟨?_, HS.out⟩
                rw [check_ok H.out HH2.out HALL.out]
                rfl
          · have HH2 : Hid (c.procs = [] ∨ Cd.named Cd.sym c = false) := Lib.hid (by
              by_cases e1 : c.procs = []
              · exact .inl e1
              · right
                cases e2 : Cd.named Cd.sym c with
                | false => rfl
                | true =>
                  have := HBD3.out.2 ⟨HB0.out.2 e1, ((named_iff c).1 e2).1, ((named_iff c).1 e2).2⟩
                  cases this)
            go_wp2_with fail
            go_ret3
            refine ⟨?_, HSW.out⟩
            rw [check_form H.out HH2.out]
            rfl
end Ck
end Go.Proofs.YticaipedpcmhfaaGreatDoor
