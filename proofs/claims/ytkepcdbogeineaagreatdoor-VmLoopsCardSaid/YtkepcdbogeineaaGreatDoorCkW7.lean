/- Layer 8, package code: proc. -/
import Derived.Test.YtkepcdbogeineaaGreatDoorCkW5
import Derived.Test.YtkepcdbogeineaaGreatDoorCkW6
import Derived.Test.YtkepcdbogeineaaGreatDoorCd
namespace Go.Proofs.YtkepcdbogeineaaGreatDoor
open Go.RowKit Hp
namespace Ck
variable {w w' : World}

/-- A box of two cells, behind a call that leaves it alone. -/
theorem box_keep {w W' : World} {a b : Value} {T : TypeId} (hs : Same [] (w.alloc (.cells #[a, b] T)) W') : W'.cell? ⟨w.heap.size, 0, none⟩ = some a ∧ W'.cell? ⟨w.heap.size, 1, none⟩ = some b ∧ w.heap.size < W'.heap.size := by
  have hb : Blk W' w.heap.size T [a, b] := (Blk.new w T [a, b]).frame hs (by simp)
  exact ⟨hb.cell 0, hb.cell 1, hb.lt⟩

/-- What proc answers. -/
def Bad (a : Int × Nat) (w : World) (e : Ending) (w' : World) : Prop := e = .returned (.tuple #[.int .i64 a.1, .int .i64 a.2]) ∧ Same [] w w'

theorem proc_much (cv pv gv kv : Value) (c : Cd.Co) (p : Cd.Pr) (hk : RIs w kv p.code) (h : 4096 < p.code.length) : Calls Tryz.prog 39 #[.agg #[cv, pv, gv], .agg #[.int .i64 p.params, kv]] w (Bad (Cd.badAt c p) w) := by
  rw [Cd.bad_much h]
  obtain ⟨A, cap, rfl, h1, h2⟩ := hk.form
  clear hk
  go_enter Tryz.func39, Tryz.ntmps39
  go_wp2_with fail
  go_ret2
  exact ⟨rfl, ((Same.refl _ _).alloc _).alloc _⟩

theorem proc_form (cv pv gv kv : Value) (c : Cd.Co) (p : Cd.Pr) (hk : RIs w kv p.code) (hwp : in64 p.params) (h : p.code.length ≤ 4096) (h2 : p.params < 0 ∨ 256 < p.params ∨ p.code = []) : Calls Tryz.prog 39 #[.agg #[cv, pv, gv], .agg #[.int .i64 p.params, kv]] w (Bad (Cd.badAt c p) w) := by
  rw [Cd.bad_form h h2]
  obtain ⟨A, cap, rfl, h3, h4⟩ := hk.form
  clear hk
  obtain ⟨hp1, hp2⟩ := hwp
  by_cases q1 : p.params < 0
  · clear h2
    go_enter Tryz.func39, Tryz.ntmps39
    go_wp2_with fail
    go_ret2
    exact ⟨rfl, ((Same.refl _ _).alloc _).alloc _⟩
  · have q1' : 0 ≤ p.params := by omega
    clear q1
    by_cases q2 : 256 < p.params
    · clear h2
      go_enter Tryz.func39, Tryz.ntmps39
      go_wp2_with fail
      go_ret2
      exact ⟨rfl, ((Same.refl _ _).alloc _).alloc _⟩
    · have q2' : p.params ≤ 256 := by omega
      have q3 : p.code.length = 0 := by
        rcases h2 with h2 | h2 | h2
        · omega
        · omega
        · rw [h2]; rfl
      clear h2 q2
      rw [q3] at h h3 ⊢
      go_enter Tryz.func39, Tryz.ntmps39
      go_wp2_with fail
      go_ret2
      exact ⟨rfl, ((Same.refl _ _).alloc _).alloc _⟩

set_option maxHeartbeats 8000000 in
set_option maxRecDepth 100000 in
theorem proc_rest (cv pv gv kv : Value) (c : Cd.Co) (p : Cd.Pr) (hr : RCoAt w cv pv gv c) (hk : RIs w kv p.code) (hwp : WPr p) (hv : Vars w) (hc : c.consts.length ≤ 1024 ∧ c.globals.length ≤ 64 ∧ c.procs.length ≤ 256) (h : p.code.length ≤ 4096) (h2 : ¬ (p.params < 0 ∨ 256 < p.params ∨ p.code = [])) : Calls Tryz.prog 39 #[.agg #[cv, pv, gv], .agg #[.int .i64 p.params, kv]] w (Bad (Cd.badAt c p) w) := by
  have hn0 : 0 < p.code.length := by
    rcases Nat.eq_zero_or_pos p.code.length with h0 | h0
    · exact absurd (.inr (.inr (List.eq_nil_of_length_eq_zero h0))) h2
    · exact h0
  have q1 : 0 ≤ p.params := by omega
  have q2 : p.params ≤ 256 := by omega
  have q3 : ((p.code.length : Int) == 0) = false := by rw [beq_eq_false_iff_ne]; omega
  obtain ⟨b, off, cap, rfl, hcap1, hcap2, hb, hcell⟩ := Sq.lit hk hn0
  unfold maxLen at hcap2
  have HK := Lib.hid hk
  have HR := Lib.hid hr
  have HW := Lib.hid hwp
  have HV := Lib.hid hv
  have HC := Lib.hid hc
  have HF2 := Lib.hid h2
  have HCELL := Lib.hid hcell
  obtain ⟨A1, c1, hcv, _, _⟩ := hr.consts.form
  obtain ⟨kv2, hps, _⟩ := hr.procs
  obtain ⟨A2, c2, hpv, _, _⟩ := hps.form
  obtain ⟨A3, c3, hgv, _, _⟩ := hr.globals.form
  subst hcv hpv hgv
  clear hk hr hwp hv hc h2 hps hcell
  go_enter Tryz.func39, Tryz.ntmps39
  go_wp2_with fail
  go_loopg [7, 8, 9, 10, 11, 37] p.code.length (fun gk _ _ _ _ _ i wr => ∃ k : Nat, k ≤ p.code.length ∧ gk = p.code.length - k ∧ i = .int .i64 k ∧ Blk wr w.heap.size 27 [.slice A1 c.consts.length c1, .slice A2 c.procs.length c2, .slice A3 c.globals.length c3] ∧ Blk wr (w.heap.size + 1) 56 [.int .i64 p.params, .slice (some ⟨b, off, none⟩) p.code.length cap] ∧ Same [] w wr ∧ ∀ j, j < k → Cd.fits c p.code.length (p.code.getD j ⟨0, 0⟩) = true)
  case atStart =>
    refine ⟨0, Nat.zero_le _, rfl, rfl, (Blk.new w _ _).alloc _, ?_, ((Same.refl _ _).alloc _).alloc _, by omega⟩
    have := Blk.new (w.alloc (.cells #[.slice A1 c.consts.length c1, .slice A2 c.procs.length c2, .slice A3 c.globals.length c3] 27)) 56 [.int .i64 p.params, .slice (some ⟨b, off, none⟩) p.code.length cap]
    simpa using this
  case round =>
    obtain ⟨k, hk, rfl, rfl, hb1, hb2, hsame, hall⟩ := hrel
    have b10 := hb1.cell 0
    have b11 := hb1.cell 1
    have b12 := hb1.cell 2
    have b1z := hb1.lt
    have b20 := hb2.cell 0
    have b21 := hb2.cell 1
    have b2z := hb2.lt
    have HB1 := Lib.hid hb1
    have HB2 := Lib.hid hb2
    have HS := Lib.hid hsame
    have HA := Lib.hid hall
    clear hb1 hb2 hsame hall
    by_cases hlt : k < p.code.length
    · obtain ⟨ix, hix⟩ : ∃ ix, p.code.getD k ⟨0, 0⟩ = ix := ⟨_, rfl⟩
      have hwi := HW.out.code ix (by rw [← hix]; exact Cd.getD_mem _ _ hlt)
      have i0 : wr.cell? ⟨b, off + k * 2, none⟩ = some (.int .u8 ix.op) := by
        have := HCELL.out k 0 hlt (by omega)
        rw [HS.out.cell hb (by simp), ← Nat.add_zero (off + k * 2), this, fI, hix]; rfl
      have i1 : wr.cell? ⟨b, off + k * 2 + 1, none⟩ = some (.int .i64 ix.a) := by
        have := HCELL.out k 1 hlt (by omega)
        rw [HS.out.cell hb (by simp), this, fI, hix]; rfl
      have hbw : b < wr.heap.size := Nat.lt_of_lt_of_le hb HS.out.size
      have HX := Lib.hid hix
      obtain ⟨⟨ho1, ho2⟩, ⟨ha1, ha2⟩⟩ := hwi
      clear hix
      cases hop : Cd.isOp ix.op
      · have HOP := Lib.hid hop
        have hbn := fun w => bounds_not (w := w) (.slice A1 c.consts.length c1) (.slice A2 c.procs.length c2) (.slice A3 c.globals.length c3) p.code.length ix.op ⟨ho1, ho2⟩ hop
        clear hop
        go_wp2_with (go_at_call 65; refine (hbn _).mono ?_; rintro e w' ⟨rfl, hs2⟩; have HS2 := Lib.hid hs2; clear hs2)
        go_ret2
        refine ⟨?_, (HS.out.alloc _).trans HS2.out⟩
        rw [Cd.bad_fit h HF2.out k hlt HA.out (by unfold Cd.fits; rw [HX.out, HOP.out]; rfl)]
        rfl
      · have HOP := Lib.hid hop
        have ho18 : 1 ≤ ix.op ∧ ix.op ≤ 18 := by simpa [Cd.isOp] using hop
        have hbn := fun w hr => bounds_is (w := w) (.slice A1 c.consts.length c1) (.slice A2 c.procs.length c2) (.slice A3 c.globals.length c3) c p.code.length (by omega) hr ix.op ho18
        have hbn' := hbn _ (HR.out.frame (HS.out.alloc (.cells #[.int .u8 ix.op, .int .i64 ix.a] 53)))
        have HBN := Lib.hid hbn'
        obtain ⟨lo, hlo⟩ : ∃ lo, Cd.lo ix.op = lo := ⟨_, rfl⟩
        obtain ⟨hi, hhi⟩ : ∃ hi, Cd.hi c ix.op p.code.length = hi := ⟨_, rfl⟩
        have hfit : Cd.fits c p.code.length ix = decide (lo ≤ ix.a ∧ ix.a ≤ hi) := by unfold Cd.fits; rw [HOP.out, hlo, hhi]; rfl
        rw [hlo, hhi] at HBN
        have HFIT := Lib.hid hfit
        clear hop ho18 hbn hbn' hlo hhi hfit
        have ezz : wr.heap.size < (wr.alloc (.cells #[.int .u8 ix.op, .int .i64 ix.a] 53)).heap.size := by simp
        by_cases f1 : lo ≤ ix.a
        · by_cases f2 : ix.a ≤ hi
          · go_wp2_with (go_at_call 65; refine HBN.out.mono ?_; rintro e w2 ⟨rfl, hs2⟩; obtain ⟨e0, e1, e2⟩ := box_keep hs2; have HS2 := Lib.hid hs2; clear hs2)
            go_roundg (p.code.length - (k + 1))
            case measure => omega
            case rel =>
              refine ⟨k + 1, by omega, rfl, by go_num, (HB1.out.alloc _).frame HS2.out (by simp), (HB2.out.alloc _).frame HS2.out (by simp), (HS.out.alloc _).trans HS2.out, fun j hj => ?_⟩
              rcases Nat.lt_or_eq_of_le (Nat.le_of_lt_succ hj) with hj | hj
              · exact HA.out j hj
              · subst hj
                rw [HX.out, HFIT.out, decide_eq_true_eq]
                exact ⟨f1, f2⟩
          · have f2' : hi < ix.a := by omega
            clear f2
            go_wp2_with (go_at_call 65; refine HBN.out.mono ?_; rintro e w2 ⟨rfl, hs2⟩; obtain ⟨e0, e1, e2⟩ := box_keep hs2; have HS2 := Lib.hid hs2; clear hs2)
            go_ret2
            refine ⟨?_, (HS.out.alloc _).trans HS2.out⟩
            rw [Cd.bad_fit h HF2.out k hlt HA.out (by rw [HX.out, HFIT.out, decide_eq_false_iff_not]; omega)]
            rfl
        · have f1' : ix.a < lo := by omega
          clear f1
          go_wp2_with (go_at_call 65; refine HBN.out.mono ?_; rintro e w2 ⟨rfl, hs2⟩; obtain ⟨e0, e1, e2⟩ := box_keep hs2; have HS2 := Lib.hid hs2; clear hs2)
          go_ret2
          refine ⟨?_, (HS.out.alloc _).trans HS2.out⟩
          rw [Cd.bad_fit h HF2.out k hlt HA.out (by rw [HX.out, HFIT.out, decide_eq_false_iff_not]; omega)]
          rfl
    · have HALL : Hid (∀ j, j < p.code.length → Cd.fits c p.code.length (p.code.getD j ⟨0, 0⟩) = true) := Lib.hid (fun j hj => HA.out j (by omega))
      have hkn : p.code.length ≤ k := by omega
      obtain ⟨lx, hlx⟩ : ∃ lx, p.code.getLastD ⟨0, 0⟩ = lx := ⟨_, rfl⟩
      have l0 : wr.cell? ⟨b, off + (p.code.length - 1) * 2, none⟩ = some (.int .u8 lx.op) := by
        have := HCELL.out (p.code.length - 1) 0 (by omega) (by omega)
        rw [HS.out.cell hb (by simp), ← Nat.add_zero (off + _ * 2), this, fI, ← hlx, List.getLastD_eq_getLast?, List.getLast?_eq_getElem?, List.getD]; rfl
      have HLX := Lib.hid hlx
      clear hlx HA
      by_cases hlo : lx.op = 12 ∨ lx.op = 11 ∨ lx.op = 8
      · have hlo2 := hlo
        rcases hlo2 with hq | hq | hq
        all_goals
          rw [hq] at l0
          clear hq
          have hfit := Cd.fit_of HC.out h HALL.out
          have hlast : (p.code.getLastD ⟨0, 0⟩).op = 8 ∨ (p.code.getLastD ⟨0, 0⟩).op = 11 ∨ (p.code.getLastD ⟨0, 0⟩).op = 12 := by rw [HLX.out]; omega
          have HWAYS := Lib.hid (Cd.ways_of hfit hlast)
          have HGOOD := Lib.hid (Cd.depths_good HWAYS.out (by omega))
          have HDEP := Lib.hid (depths_any (w := wr) _ p.code (HK.out.frame HS.out) ⟨by omega, h⟩ hfit hlast (HV.out.frame HS.out (by simp)))
          have HFIT := Lib.hid hfit
          have HLO := Lib.hid hlo
          have HLEN : Hid ((Cd.depths p.code).length = p.code.length) := Lib.hid HGOOD.out.len
          clear hfit hlast hlo
          go_wp2_with fail
          refine HDEP.out.mono ?_
          rintro e w2 ⟨L, rfl, hLb, hLz, hs2⟩
          have HLB := Lib.hid hLb
          have HS2 := Lib.hid (HS.out.trans hs2)
          have HB12 := Lib.hid (HB1.out.frame hs2 (by simp))
          have HB22 := Lib.hid (HB2.out.frame hs2 (by simp))
          clear hLb hs2 b10 b11 b12 b1z b20 b21 b2z l0
          go_wp2_with fail
          go_loopg [13, 14, 15, 16, 90] p.code.length (fun gk _ _ _ _ i wq => ∃ k2 : Nat, k2 ≤ p.code.length ∧ gk = p.code.length - k2 ∧ i = .int .i64 k2 ∧ Blk wq (w.heap.size + 1) 56 [.int .i64 p.params, .slice (some ⟨b, off, none⟩) p.code.length cap] ∧ Blk wq L 118 (flatD (Cd.depths p.code)) ∧ Same [] w wq ∧ ∀ j, j < k2 → Cd.badD p.code j = false)
          case atStart => exact ⟨0, Nat.zero_le _, rfl, rfl, HB22.out, HLB.out, HS2.out, by omega⟩
          case round =>
            obtain ⟨k2, hk2, rfl, rfl, hb2, hLb, hsame, hall⟩ := hrel
            have b20 := hb2.cell 0
            have b21 := hb2.cell 1
            have b2z := hb2.lt
            have HB2' := Lib.hid hb2
            have HL' := Lib.hid hLb
            have HS' := Lib.hid hsame
            have HA' := Lib.hid hall
            clear hb2 hLb hsame hall
            by_cases hlt2 : k2 < p.code.length
            · obtain ⟨ix, hix⟩ : ∃ ix, p.code.getD k2 ⟨0, 0⟩ = ix := ⟨_, rfl⟩
              obtain ⟨dx, hdx⟩ : ∃ dx, (Cd.depths p.code).getD k2 ⟨2, 0⟩ = dx := ⟨_, rfl⟩
              have i0 : wr.cell? ⟨b, off + k2 * 2, none⟩ = some (.int .u8 ix.op) := by
                have := HCELL.out k2 0 hlt2 (by omega)
                rw [HS'.out.cell hb (by simp), ← Nat.add_zero (off + k2 * 2), this, fI, hix]; rfl
              have i1 : wr.cell? ⟨b, off + k2 * 2 + 1, none⟩ = some (.int .i64 ix.a) := by
                have := HCELL.out k2 1 hlt2 (by omega)
                rw [HS'.out.cell hb (by simp), this, fI, hix]; rfl
              have d0 : wr.cell? ⟨L, k2 * 2, none⟩ = some (.int .i64 dx.ways) := by
                have := flat_at (Cd.depths p.code) k2 0 (by rw [HLEN.out]; exact hlt2) (by omega)
                rw [HL'.out.cell, ← Nat.add_zero (k2 * 2), this, hdx]; rfl
              have d1 : wr.cell? ⟨L, k2 * 2 + 1, none⟩ = some (.int .i64 dx.deep) := by
                have := flat_at (Cd.depths p.code) k2 1 (by rw [HLEN.out]; exact hlt2) (by omega)
                rw [HL'.out.cell, this, hdx]; rfl
              have dLz := HL'.out.lt
              have hbw : b < wr.heap.size := Nat.lt_of_lt_of_le hb HS'.out.size
              have hfi := HFIT.out ix (by rw [← hix]; exact Cd.getD_mem _ _ hlt2)
              have HST := Lib.hid (stack_any (w := wr.alloc (.cells #[.int .i64 dx.ways, .int .i64 dx.deep] 118)) ix hfi.op hfi.prim (by have := hfi.a; omega) (by have := hfi.a; omega) (HV.out.frame (HS'.out.alloc _) (by simp)))
              obtain ⟨tk, htk⟩ : ∃ tk, Cd.took ix = tk := ⟨_, rfl⟩
              have hbad : Cd.badD p.code k2 = ((dx.ways != 1) || decide (dx.deep < tk) || decide (256 ≤ dx.deep)) := by
                unfold Cd.badD; rw [hix, hdx, htk]
              rw [htk] at HST
              have HBAD := Lib.hid hbad
              clear hix hdx hfi htk hbad
              by_cases w1 : dx.ways = 1
              · have w1' : ((dx.ways : Int) != 1) = false := by rw [w1]; rfl
                have HW1 := Lib.hid w1
                clear w1
                by_cases w2' : dx.deep < tk
                · go_wp2_with (go_at_call 67; refine HST.out.mono ?_; rintro e w3 ⟨rfl, hs3⟩; obtain ⟨e0, e1, e2⟩ := box_keep hs3; have HS3 := Lib.hid hs3; clear hs3)
                  go_ret2
                  refine ⟨?_, (HS'.out.alloc _).trans HS3.out⟩
                  rw [Cd.bad_deep h HF2.out HALL.out (by rw [HLX.out]; have := HLO.out; omega) k2 hlt2 HA'.out (by rw [HBAD.out]; simp [w2'])]
                  rfl
                · have w2n : tk ≤ dx.deep := by omega
                  clear w2'
                  by_cases v3 : 256 ≤ dx.deep
                  · go_wp2_with (go_at_call 67; refine HST.out.mono ?_; rintro e w3 ⟨rfl, hs3⟩; obtain ⟨e0, e1, e2⟩ := box_keep hs3; have HS3 := Lib.hid hs3; clear hs3)
                    go_ret2
                    refine ⟨?_, (HS'.out.alloc _).trans HS3.out⟩
                    rw [Cd.bad_deep h HF2.out HALL.out (by rw [HLX.out]; have := HLO.out; omega) k2 hlt2 HA'.out (by rw [HBAD.out]; simp [v3])]
                    rfl
                  · have w3n : dx.deep < 256 := by omega
                    clear v3
                    go_wp2_with (go_at_call 67; refine HST.out.mono ?_; rintro e w3 ⟨rfl, hs3⟩; obtain ⟨e0, e1, e2⟩ := box_keep hs3; have HS3 := Lib.hid hs3; clear hs3)
                    go_roundg (p.code.length - (k2 + 1))
                    case measure => omega
                    case rel =>
                      refine ⟨k2 + 1, by omega, rfl, by go_num, (HB2'.out.alloc _).frame HS3.out (by simp), (HL'.out.alloc _).frame HS3.out (by simp), (HS'.out.alloc _).trans HS3.out, fun j hj => ?_⟩
                      rcases Nat.lt_or_eq_of_le (Nat.le_of_lt_succ hj) with hj | hj
                      · exact HA'.out j hj
                      · subst hj
                        rw [HBAD.out, HW1.out]
                        simp; omega
              · have w1' : ((dx.ways : Int) != 1) = true := by rw [bne_iff_ne]; omega
                go_wp2_with (go_at_call 67; refine HST.out.mono ?_; rintro e w3 ⟨rfl, hs3⟩; obtain ⟨e0, e1, e2⟩ := box_keep hs3; have HS3 := Lib.hid hs3; clear hs3)
                go_ret2
                refine ⟨?_, (HS'.out.alloc _).trans HS3.out⟩
                rw [Cd.bad_deep h HF2.out HALL.out (by rw [HLX.out]; have := HLO.out; omega) k2 hlt2 HA'.out (by rw [HBAD.out]; simp [w1])]
                rfl
            · have HALL2 : Hid (∀ j, j < p.code.length → Cd.badD p.code j = false) := Lib.hid (fun j hj => HA'.out j (by omega))
              go_wp2_with fail
              go_ret2
              refine ⟨?_, HS'.out⟩
              rw [Cd.bad_not h HF2.out HALL.out (by rw [HLX.out]; have := HLO.out; omega) HALL2.out]
              rfl
      · have m12 : (lx.op != 12) = true := by rw [bne_iff_ne]; omega
        have m11 : (lx.op != 11) = true := by rw [bne_iff_ne]; omega
        have m8 : (lx.op != 8) = true := by rw [bne_iff_ne]; omega
        have HLO := Lib.hid hlo
        clear hlo
        go_wp2_with fail
        go_ret2
        refine ⟨?_, HS.out⟩
        rw [Cd.bad_last h HF2.out HALL.out (by rw [HLX.out]; have := HLO.out; omega)]
        simp; omega

theorem proc_any (cv pv gv : Value) (v : Value) (c : Cd.Co) (p : Cd.Pr) (hr : RCoAt w cv pv gv c) (hk : RPr w v p) (hwp : WPr p) (hv : Vars w) (hc : c.consts.length ≤ 1024 ∧ c.globals.length ≤ 64 ∧ c.procs.length ≤ 256) : Calls Tryz.prog 39 #[.agg #[cv, pv, gv], v] w (Bad (Cd.badAt c p) w) := by
  obtain ⟨kv, rfl, hk⟩ := hk
  by_cases h : 4096 < p.code.length
  · exact proc_much cv pv gv kv c p hk h
  · by_cases h2 : p.params < 0 ∨ 256 < p.params ∨ p.code = []
    · exact proc_form cv pv gv kv c p hk hwp.params (by omega) h2
    · exact proc_rest cv pv gv kv c p hr hk hwp hv hc (by omega) h2
end Ck
end Go.Proofs.YtkepcdbogeineaaGreatDoor
