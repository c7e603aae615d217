/- Layer 8, the law CodeSame: its walk. -/
import Derived.Test.YticaipedpcmhfaaGreatDoorCkE7
import Derived.Test.YticaipedpcmhfaaGreatDoorCkX3
import Derived.Test.YticaipedpcmhfaaGreatDoorCkS3
import Derived.Test.YticaipedpcmhfaaGreatDoorCkU2
import Derived.Deep.RegionHeld3
namespace Go.Proofs.YticaipedpcmhfaaGreatDoor
open Go.RowKit Hp
namespace Ck
variable {w w' : World}

set_option maxHeartbeats 8000000 in
set_option maxRecDepth 100000 in
theorem same08_any (v1 v2 : Value) (c d : Cd.Co) (hr1 : RCo w v1 c) (hr2 : RCo w v2 d) (hl1 : Lens c) (hl2 : Lens d) (hv : Vars w) : Calls Tryz.prog 5 #[v1, v2] w fun e w' => e = .returned (.bool true) ∧ Same [] w w' := by
  obtain ⟨cv, pv, gv, rfl, hr⟩ := hr1
  obtain ⟨A1, c1, rfl, hc1, hc1'⟩ := hr.consts.form
  obtain ⟨kv, hps, _⟩ := hr.procs
  obtain ⟨A2, c2, rfl, hc2, hc2'⟩ := hps.form
  obtain ⟨A3, c3, rfl, hc3, hc3'⟩ := hr.globals.form
  obtain ⟨cv', pv', gv', rfl, hr'⟩ := hr2
  obtain ⟨D1, d1, rfl, hd1, hd1'⟩ := hr'.consts.form
  obtain ⟨kv', hps', _⟩ := hr'.procs
  obtain ⟨D2, d2, rfl, hd2, hd2'⟩ := hps'.form
  obtain ⟨D3, d3, rfl, hd3, hd3'⟩ := hr'.globals.form
  obtain ⟨X, hX⟩ : ∃ X : List Value, X = [.slice A1 c.consts.length c1, .slice A2 c.procs.length c2, .slice A3 c.globals.length c3] := ⟨_, rfl⟩
  have HV := Lib.hid hv
  have HR : Hid (∀ W, Same [] w W → RCo W (.agg #[.slice A1 c.consts.length c1, .slice A2 c.procs.length c2, .slice A3 c.globals.length c3]) c) := Lib.hid (fun W h => ⟨_, _, _, rfl, hr.frame h⟩)
  have HR' : Hid (∀ W, Same [] w W → RCo W (.agg #[.slice D1 d.consts.length d1, .slice D2 d.procs.length d2, .slice D3 d.globals.length d3]) d) := Lib.hid (fun W h => ⟨_, _, _, rfl, hr'.frame h⟩)
  have HL1 := Lib.hid hl1
  have HL2 := Lib.hid hl2
  unfold maxLen at hc1' hc2' hc3' hd1' hd2' hd3'
  clear hr hr' hv hps hps' hl1 hl2 hX X
  have HB : Hid (∀ W, Same [] ((w.alloc (.cells #[.slice A1 c.consts.length c1, .slice A2 c.procs.length c2, .slice A3 c.globals.length c3] 26)).alloc (.cells #[.slice D1 d.consts.length d1, .slice D2 d.procs.length d2, .slice D3 d.globals.length d3] 26)) W → Blk W w.heap.size 26 [.slice A1 c.consts.length c1, .slice A2 c.procs.length c2, .slice A3 c.globals.length c3] ∧ Blk W (w.heap.size + 1) 26 [.slice D1 d.consts.length d1, .slice D2 d.procs.length d2, .slice D3 d.globals.length d3] ∧ Same [] w W) := Lib.hid (fun W hs =>
    ⟨Blk.frame ((Blk.new w _ _).alloc _) hs (by simp), Blk.frame (blk_at (by simp)) hs (by simp), (((Same.refl [] w).alloc _).alloc _).trans hs⟩)
  go_enter Tryz.func5, Tryz.ntmps5
  go_wp2_with fail
  refine (works_any (HV.out.frame (((Same.refl [] _).alloc _).alloc _) (by simp))).mono ?_
  rintro e w1 ⟨rfl, hs1⟩
  obtain ⟨q1, q2, q3⟩ := HB.out w1 hs1
  have p0 := q1.cell 0
  have p1 := q1.cell 1
  have p2 := q1.cell 2
  have pz := q1.lt
  have r0 := q2.cell 0
  have r1 := q2.cell 1
  have r2 := q2.cell 2
  have rz := q2.lt
  have HS1 := Lib.hid hs1
  have HW1 := Lib.hid q3
  clear q1 q2 q3 hs1
  have ho1 := ofCn_le c HL1.out
  have ho2 := ofCn_le d HL2.out
  obtain ⟨m, hm⟩ : ∃ m, m = ofCn c := ⟨_, rfl⟩
  obtain ⟨n, hn⟩ : ∃ n, n = ofCn d := ⟨_, rfl⟩
  have HO1 : Hid (∀ W, Same [] w W → Calls Tryz.prog 9 #[.agg #[.slice A1 c.consts.length c1, .slice A2 c.procs.length c2, .slice A3 c.globals.length c3]] W fun e w' => e = .returned (.int .i64 m) ∧ Same [] W w') := Lib.hid (fun W h => by rw [hm]; exact ofCode_any _ c (HR.out W h) HL1.out)
  have HO2 : Hid (∀ W, Same [] w W → Calls Tryz.prog 9 #[.agg #[.slice D1 d.consts.length d1, .slice D2 d.procs.length d2, .slice D3 d.globals.length d3]] W fun e w' => e = .returned (.int .i64 n) ∧ Same [] W w') := Lib.hid (fun W h => by rw [hn]; exact ofCode_any _ d (HR'.out W h) HL2.out)
  rw [← hm] at ho1
  rw [← hn] at ho2
  have HM := Lib.hid hm
  have HN := Lib.hid hn
  clear hm hn
  go_upto_region 2 with fail
  go_cut [22] (fun s22 wx => s22 = .bool (decide ((8388608 : Int) < IntKind.i64.wrap ((m : Int) + (n : Int)))) ∧ Same [] w1 wx)
  case first =>
   go_region_held3 (fun W => (W.cell? ⟨w.heap.size, 0, none⟩ = some (.slice A1 c.consts.length c1) ∧ W.cell? ⟨w.heap.size, 1, none⟩ = some (.slice A2 c.procs.length c2) ∧ W.cell? ⟨w.heap.size, 2, none⟩ = some (.slice A3 c.globals.length c3)) ∧ (W.cell? ⟨w.heap.size + 1, 0, none⟩ = some (.slice D1 d.consts.length d1) ∧ W.cell? ⟨w.heap.size + 1, 1, none⟩ = some (.slice D2 d.procs.length d2) ∧ W.cell? ⟨w.heap.size + 1, 2, none⟩ = some (.slice D3 d.globals.length d3))) (go_keep) (first
    | (go_simp; go_at_call_of 9 (Value.agg #[.slice A1 c.consts.length c1, .slice A2 c.procs.length c2, .slice A3 c.globals.length c3]); refine (HO1.out _ (Same.trans HW1.out (by repeat (first | exact Same.refl _ _ | exact HSB.out | refine Same.drew ?_ | refine Same.drewN ?_ _ | refine Same.alloc ?_ _)))).mono ?_; rintro e wA ⟨rfl, hsa⟩; have HSA : Hid (Same [] w1 wA) := Lib.hid (Same.trans (by repeat (first | exact Same.refl _ _ | exact HSB.out | refine Same.drew ?_ | refine Same.drewN ?_ _ | refine Same.alloc ?_ _)) hsa); have p0a := (HSA.out.cell pz (by simp)).trans p0; have p1a := (HSA.out.cell pz (by simp)).trans p1; have p2a := (HSA.out.cell pz (by simp)).trans p2; have r0a := (HSA.out.cell rz (by simp)).trans r0; have r1a := (HSA.out.cell rz (by simp)).trans r1; have r2a := (HSA.out.cell rz (by simp)).trans r2; have rza := Nat.lt_of_lt_of_le rz HSA.out.size; have pza := Nat.lt_of_lt_of_le pz HSA.out.size; clear hsa)
    | (go_simp; go_at_call_of 9 (Value.agg #[.slice D1 d.consts.length d1, .slice D2 d.procs.length d2, .slice D3 d.globals.length d3]); refine (HO2.out _ (Same.trans HW1.out (by repeat (first | exact Same.refl _ _ | exact HSA.out | refine Same.drew ?_ | refine Same.drewN ?_ _ | refine Same.alloc ?_ _)))).mono ?_; rintro e wB ⟨rfl, hsb⟩; have HSB : Hid (Same [] w1 wB) := Lib.hid (Same.trans (by repeat (first | exact Same.refl _ _ | exact HSA.out | refine Same.drew ?_ | refine Same.drewN ?_ _ | refine Same.alloc ?_ _)) hsb); have p0b := (HSB.out.cell pz (by simp)).trans p0; have p1b := (HSB.out.cell pz (by simp)).trans p1; have p2b := (HSB.out.cell pz (by simp)).trans p2; have r0b := (HSB.out.cell rz (by simp)).trans r0; have r1b := (HSB.out.cell rz (by simp)).trans r1; have r2b := (HSB.out.cell rz (by simp)).trans r2; have rzb := Nat.lt_of_lt_of_le rz HSB.out.size; have pzb := Nat.lt_of_lt_of_le pz HSB.out.size; clear hsb))
   all_goals
    go_wp2_with fail
    go_meet
    exact ⟨rfl, by repeat (first | exact HSB.out | exact HSA.out | refine Same.drew ?_ | refine Same.drewN ?_ _ | refine Same.alloc ?_ _)⟩
  case rest =>
    obtain ⟨rfl, hs2⟩ := hcut
    have hs2' := HS1.out.trans hs2
    obtain ⟨q1, q2, q3⟩ := HB.out wc hs2'
    have p0 := q1.cell 0
    have p1 := q1.cell 1
    have p2 := q1.cell 2
    have pz := q1.lt
    have r0 := q2.cell 0
    have r1 := q2.cell 1
    have r2 := q2.cell 2
    have rz := q2.lt
    have HS2 := Lib.hid hs2'
    have HW2 := Lib.hid q3
    rw [IntWalk.i64_in _ (by omega)]
    clear q1 q2 q3 hs2 hs2' HO1 HO2 HW1 HS1
    by_cases hmuch : (8388608 : Int) < (m : Int) + (n : Int)
    · rw [decide_eq_true hmuch]
      go_wp2_with fail
      go_ret
      exact ⟨rfl, HW2.out⟩
    rw [decide_eq_false hmuch]
    have HLc := Lib.hid (ofCn_small (c := c) (by rw [← HM.out]; omega))
    have HLd := Lib.hid (ofCn_small (c := d) (by rw [← HN.out]; omega))
    clear hmuch
    go_wp2_with fail
    refine (s0C_any _ _ c d (HR.out _ HW2.out) (HR'.out _ HW2.out)).mono ?_
    rintro e w3 ⟨rfl, hs3⟩
    obtain ⟨q, hq⟩ : ∃ q, q = decide (c = d) := ⟨_, rfl⟩
    rw [← hq]
    have HQ := Lib.hid hq
    have hs3' := HS2.out.trans hs3
    obtain ⟨q1, q2, q3⟩ := HB.out w3 hs3'
    have p0 := q1.cell 0
    have p1 := q1.cell 1
    have p2 := q1.cell 2
    have pz := q1.lt
    have r0 := q2.cell 0
    have r1 := q2.cell 1
    have r2 := q2.cell 2
    have rz := q2.lt
    have HS3 := Lib.hid hs3'
    have HW3 := Lib.hid q3
    clear q1 q2 q3 hs3 hs3' hq
    go_wp2_with fail
    refine (lentC_any _ c (HR.out _ HW3.out) HLc.out).mono ?_
    rintro e w4 ⟨cv1, pv1, gv1, ks1, rfl, hlc1, hs4⟩
    have hs4' := HS3.out.trans hs4
    obtain ⟨q1, q2, q3⟩ := HB.out w4 hs4'
    have p0 := q1.cell 0
    have p1 := q1.cell 1
    have p2 := q1.cell 2
    have pz := q1.lt
    have r0 := q2.cell 0
    have r1 := q2.cell 1
    have r2 := q2.cell 2
    have rz := q2.lt
    have HS4 := Lib.hid hs4'
    have HW4 := Lib.hid q3
    obtain ⟨a1, za1, ea1, ka1⟩ := hlc1.cr
    obtain ⟨a2, za2, ea2, ka2⟩ := hlc1.gr
    obtain ⟨a3, za3, ea3, ka3⟩ := hlc1.pr
    subst ea1 ea2 ea3
    have HLC1 := Lib.hid hlc1
    clear q1 q2 q3 hs4 hs4' hlc1 ka1 ka2 ka3
    go_wp2_with fail
    refine (lentC_any _ d (HR'.out _ (HW4.out.alloc _)) HLd.out).mono ?_
    rintro e w5 ⟨cv2, pv2, gv2, ks2, rfl, hlc2, hs5⟩
    obtain ⟨e1, zb1, ee1, ke1⟩ := hlc2.cr
    obtain ⟨e2, zb2, ee2, ke2⟩ := hlc2.gr
    obtain ⟨e3, zb3, ee3, ke3⟩ := hlc2.pr
    subst ee1 ee2 ee3
    have hx7 : Blk w5 w4.heap.size 26 [.slice (some ⟨a1, 0, none⟩) c.consts.length (c.consts.length + 2), .slice (some ⟨a3, 0, none⟩) c.procs.length (c.procs.length + 1), .slice (some ⟨a2, 0, none⟩) c.globals.length (c.globals.length + 2)] := Blk.frame (Blk.new w4 _ _) hs5 (by simp)
    have h45 : Same [] w4 w5 := ((Same.refl [] w4).alloc _).trans hs5
    have HB5 : Hid (∀ W, Same [] (w5.alloc (.cells #[.slice (some ⟨e1, 0, none⟩) d.consts.length (d.consts.length + 2), .slice (some ⟨e3, 0, none⟩) d.procs.length (d.procs.length + 1), .slice (some ⟨e2, 0, none⟩) d.globals.length (d.globals.length + 2)] 26)) W → Blk W w.heap.size 26 [.slice A1 c.consts.length c1, .slice A2 c.procs.length c2, .slice A3 c.globals.length c3] ∧ Blk W (w.heap.size + 1) 26 [.slice D1 d.consts.length d1, .slice D2 d.procs.length d2, .slice D3 d.globals.length d3] ∧ Blk W w4.heap.size 26 [.slice (some ⟨a1, 0, none⟩) c.consts.length (c.consts.length + 2), .slice (some ⟨a3, 0, none⟩) c.procs.length (c.procs.length + 1), .slice (some ⟨a2, 0, none⟩) c.globals.length (c.globals.length + 2)] ∧ Blk W w5.heap.size 26 [.slice (some ⟨e1, 0, none⟩) d.consts.length (d.consts.length + 2), .slice (some ⟨e3, 0, none⟩) d.procs.length (d.procs.length + 1), .slice (some ⟨e2, 0, none⟩) d.globals.length (d.globals.length + 2)] ∧ LC W w3.heap.size (.slice (some ⟨a1, 0, none⟩) c.consts.length (c.consts.length + 2)) (.slice (some ⟨a3, 0, none⟩) c.procs.length (c.procs.length + 1)) (.slice (some ⟨a2, 0, none⟩) c.globals.length (c.globals.length + 2)) ks1 c ∧ LC W (w4.heap.size + 1) (.slice (some ⟨e1, 0, none⟩) d.consts.length (d.consts.length + 2)) (.slice (some ⟨e3, 0, none⟩) d.procs.length (d.procs.length + 1)) (.slice (some ⟨e2, 0, none⟩) d.globals.length (d.globals.length + 2)) ks2 d ∧ Same [] w W) := Lib.hid (fun W h => by
      obtain ⟨q1, q2, q3⟩ := HB.out W (HS4.out.trans ((h45.alloc _).trans h))
      refine ⟨q1, q2, (hx7.alloc _).frame h (by simp), Blk.frame (Blk.new w5 _ _) h (by simp), HLC1.out.frame ((h45.alloc _).trans h), ?_, q3⟩
      have := hlc2.frame (((Same.refl [] w5).alloc (.cells #[.slice (some ⟨e1, 0, none⟩) d.consts.length (d.consts.length + 2), .slice (some ⟨e3, 0, none⟩) d.procs.length (d.procs.length + 1), .slice (some ⟨e2, 0, none⟩) d.globals.length (d.globals.length + 2)] 26)).trans h)
      simpa using this)
    obtain ⟨q1, q2, q3⟩ := HB.out w5 (HS4.out.trans h45)
    have p0 := q1.cell 0
    have p1 := q1.cell 1
    have p2 := q1.cell 2
    have pz := q1.lt
    have r0 := q2.cell 0
    have r1 := q2.cell 1
    have r2 := q2.cell 2
    have rz := q2.lt
    have s0 := hx7.cell 0
    have s1 := hx7.cell 1
    have s2 := hx7.cell 2
    have sz := hx7.lt
    have HW5 := Lib.hid q3
    clear q1 q2 q3 hx7 h45 hlc2 ke1 ke2 ke3 hs5
    go_wp2_with fail
    have HC1 : Hid (∀ W, Same [] (w5.alloc (.cells #[.slice (some ⟨e1, 0, none⟩) d.consts.length (d.consts.length + 2), .slice (some ⟨e3, 0, none⟩) d.procs.length (d.procs.length + 1), .slice (some ⟨e2, 0, none⟩) d.globals.length (d.globals.length + 2)] 26)) W → RCo W (.agg #[.slice (some ⟨a1, 0, none⟩) c.consts.length (c.consts.length + 2), .slice (some ⟨a3, 0, none⟩) c.procs.length (c.procs.length + 1), .slice (some ⟨a2, 0, none⟩) c.globals.length (c.globals.length + 2)]) c) := Lib.hid (fun W h => ⟨_, _, _, rfl, (HB5.out W h).2.2.2.2.1.at HLc.out⟩)
    have HC2 : Hid (∀ W, Same [] (w5.alloc (.cells #[.slice (some ⟨e1, 0, none⟩) d.consts.length (d.consts.length + 2), .slice (some ⟨e3, 0, none⟩) d.procs.length (d.procs.length + 1), .slice (some ⟨e2, 0, none⟩) d.globals.length (d.globals.length + 2)] 26)) W → RCo W (.agg #[.slice (some ⟨e1, 0, none⟩) d.consts.length (d.consts.length + 2), .slice (some ⟨e3, 0, none⟩) d.procs.length (d.procs.length + 1), .slice (some ⟨e2, 0, none⟩) d.globals.length (d.globals.length + 2)]) d) := Lib.hid (fun W h => ⟨_, _, _, rfl, (HB5.out W h).2.2.2.2.2.1.at HLd.out⟩)
    have HO1 : Hid (∀ W, Same [] (w5.alloc (.cells #[.slice (some ⟨e1, 0, none⟩) d.consts.length (d.consts.length + 2), .slice (some ⟨e3, 0, none⟩) d.procs.length (d.procs.length + 1), .slice (some ⟨e2, 0, none⟩) d.globals.length (d.globals.length + 2)] 26)) W → RCo W (.agg #[.slice A1 c.consts.length c1, .slice A2 c.procs.length c2, .slice A3 c.globals.length c3]) c) := Lib.hid (fun W h => HR.out W (HB5.out W h).2.2.2.2.2.2)
    have HO2 : Hid (∀ W, Same [] (w5.alloc (.cells #[.slice (some ⟨e1, 0, none⟩) d.consts.length (d.consts.length + 2), .slice (some ⟨e3, 0, none⟩) d.procs.length (d.procs.length + 1), .slice (some ⟨e2, 0, none⟩) d.globals.length (d.globals.length + 2)] 26)) W → RCo W (.agg #[.slice D1 d.consts.length d1, .slice D2 d.procs.length d2, .slice D3 d.globals.length d3]) d) := Lib.hid (fun W h => HR'.out W (HB5.out W h).2.2.2.2.2.2)
    have hz := Same.refl [] (w5.alloc (.cells #[.slice (some ⟨e1, 0, none⟩) d.consts.length (d.consts.length + 2), .slice (some ⟨e3, 0, none⟩) d.procs.length (d.procs.length + 1), .slice (some ⟨e2, 0, none⟩) d.globals.length (d.globals.length + 2)] 26))
    clear p0 p1 p2 pz r0 r1 r2 rz s0 s1 s2 sz
    refine (same_any _ _ c d (HC1.out _ hz) (HC2.out _ hz)).mono ?_
    rintro e x0 ⟨rfl, hs⟩
    rw [← HQ.out]
    have hz0 := hz.trans hs
    obtain ⟨q1, q2, q3, q4, -, -, -⟩ := HB5.out x0 hz0
    have p0 := q1.cell 0
    have p1 := q1.cell 1
    have p2 := q1.cell 2
    have pz := q1.lt
    have r0 := q2.cell 0
    have r1 := q2.cell 1
    have r2 := q2.cell 2
    have rz := q2.lt
    have s0 := q3.cell 0
    have s1 := q3.cell 1
    have s2 := q3.cell 2
    have sz := q3.lt
    have t0 := q4.cell 0
    have t1 := q4.cell 1
    have t2 := q4.cell 2
    have tz := q4.lt
    have HZ0 := Lib.hid hz0
    clear hs hz0 q1 q2 q3 q4 hz
    go_wp2_with fail
    refine (same_any _ _ d c (HC2.out _ HZ0.out) (HC1.out _ HZ0.out)).mono ?_
    rintro e x1 ⟨rfl, hs⟩
    rw [show decide (d = c) = q from by rw [HQ.out]; exact decide_eq_decide.2 eq_comm]
    have hz1 := HZ0.out.trans hs
    obtain ⟨q1, q2, q3, q4, -, -, -⟩ := HB5.out x1 hz1
    have p0 := q1.cell 0
    have p1 := q1.cell 1
    have p2 := q1.cell 2
    have pz := q1.lt
    have r0 := q2.cell 0
    have r1 := q2.cell 1
    have r2 := q2.cell 2
    have rz := q2.lt
    have s0 := q3.cell 0
    have s1 := q3.cell 1
    have s2 := q3.cell 2
    have sz := q3.lt
    have t0 := q4.cell 0
    have t1 := q4.cell 1
    have t2 := q4.cell 2
    have tz := q4.lt
    have HZ1 := Lib.hid hz1
    clear hs hz1 q1 q2 q3 q4
    go_wp2_with fail
    refine (same_any _ _ c c (HC1.out _ HZ1.out) (HO1.out _ HZ1.out)).mono ?_
    rintro e x2 ⟨rfl, hs⟩
    rw [decide_eq_true (rfl : c = c)]
    have hz2 := HZ1.out.trans hs
    obtain ⟨q1, q2, q3, q4, -, -, -⟩ := HB5.out x2 hz2
    have p0 := q1.cell 0
    have p1 := q1.cell 1
    have p2 := q1.cell 2
    have pz := q1.lt
    have r0 := q2.cell 0
    have r1 := q2.cell 1
    have r2 := q2.cell 2
    have rz := q2.lt
    have s0 := q3.cell 0
    have s1 := q3.cell 1
    have s2 := q3.cell 2
    have sz := q3.lt
    have t0 := q4.cell 0
    have t1 := q4.cell 1
    have t2 := q4.cell 2
    have tz := q4.lt
    have HZ2 := Lib.hid hz2
    clear hs hz2 q1 q2 q3 q4
    go_wp2_with fail
    refine (same_any _ _ d d (HO2.out _ HZ2.out) (HC2.out _ HZ2.out)).mono ?_
    rintro e x3 ⟨rfl, hs⟩
    rw [decide_eq_true (rfl : d = d)]
    have hz3 := HZ2.out.trans hs
    obtain ⟨q1, q2, q3, q4, -, -, -⟩ := HB5.out x3 hz3
    have p0 := q1.cell 0
    have p1 := q1.cell 1
    have p2 := q1.cell 2
    have pz := q1.lt
    have r0 := q2.cell 0
    have r1 := q2.cell 1
    have r2 := q2.cell 2
    have rz := q2.lt
    have s0 := q3.cell 0
    have s1 := q3.cell 1
    have s2 := q3.cell 2
    have sz := q3.lt
    have t0 := q4.cell 0
    have t1 := q4.cell 1
    have t2 := q4.cell 2
    have tz := q4.lt
    have HZ3 := Lib.hid hz3
    clear hs hz3 q1 q2 q3 q4
    go_wp2_with fail
    refine (wholeC_any _ _ _ _ _ _ c (HB5.out _ HZ3.out).2.2.2.2.1 (HO1.out _ HZ3.out) HLc.out).mono ?_
    rintro e x4 ⟨rfl, hs⟩
    have hz4 := HZ3.out.trans hs
    obtain ⟨q1, q2, q3, q4, -, -, -⟩ := HB5.out x4 hz4
    have p0 := q1.cell 0
    have p1 := q1.cell 1
    have p2 := q1.cell 2
    have pz := q1.lt
    have r0 := q2.cell 0
    have r1 := q2.cell 1
    have r2 := q2.cell 2
    have rz := q2.lt
    have s0 := q3.cell 0
    have s1 := q3.cell 1
    have s2 := q3.cell 2
    have sz := q3.lt
    have t0 := q4.cell 0
    have t1 := q4.cell 1
    have t2 := q4.cell 2
    have tz := q4.lt
    have HZ4 := Lib.hid hz4
    clear hs hz4 q1 q2 q3 q4
    go_wp2_with fail
    refine (wholeC_any _ _ _ _ _ _ d (HB5.out _ HZ4.out).2.2.2.2.2.1 (HO2.out _ HZ4.out) HLd.out).mono ?_
    rintro e x5 ⟨rfl, hs⟩
    have hz5 := HZ4.out.trans hs
    obtain ⟨q1, q2, q3, q4, -, -, -⟩ := HB5.out x5 hz5
    have p0 := q1.cell 0
    have p1 := q1.cell 1
    have p2 := q1.cell 2
    have pz := q1.lt
    have r0 := q2.cell 0
    have r1 := q2.cell 1
    have r2 := q2.cell 2
    have rz := q2.lt
    have s0 := q3.cell 0
    have s1 := q3.cell 1
    have s2 := q3.cell 2
    have sz := q3.lt
    have t0 := q4.cell 0
    have t1 := q4.cell 1
    have t2 := q4.cell 2
    have tz := q4.lt
    have HZ5 := Lib.hid hz5
    clear hs hz5 q1 q2 q3 q4
    go_wp2_with fail
    refine (spoilC_any (w4.heap.size + 1) _ _ _ _ d w5.heap.size _ (HB5.out _ HZ5.out).2.2.2.1 (HB5.out _ HZ5.out).2.2.2.2.2.1 HLd.out).mono ?_
    rintro e x6 ⟨rfl, g1, g2, g3, gb, F, gF, gl⟩
    have hS := spoilt_at ⟨HLd.out.1, HLd.out.2.1, HLd.out.2.2.1⟩ g1 g2 g3
    have hw4 : w.heap.size + 2 ≤ w4.heap.size := by simpa using HS4.out.size
    obtain ⟨q1, q2, -, -, -, -, q5⟩ := HB5.out x5 HZ5.out
    have k2 := q2.frame gF (fun h => by have := gl _ h; omega)
    have k5 : Same [] w x6 := q5.trans' gF (fun x h => .inr (by have := gl _ h; omega))
    obtain ⟨sd, hsd⟩ : ∃ sd, sd = spoilt d := ⟨_, rfl⟩
    rw [← hsd] at hS
    have HX6 : Hid (∀ W, Same [] x6 W → Blk W (w.heap.size + 1) 26 [.slice D1 d.consts.length d1, .slice D2 d.procs.length d2, .slice D3 d.globals.length d3] ∧ Blk W w5.heap.size 26 [.slice (some ⟨e1, 0, none⟩) d.consts.length (d.consts.length + 2), .slice (some ⟨e3, 0, none⟩) d.procs.length (d.procs.length + 1), .slice (some ⟨e2, 0, none⟩) d.globals.length (d.globals.length + 2)] ∧ RCo W (.agg #[.slice D1 d.consts.length d1, .slice D2 d.procs.length d2, .slice D3 d.globals.length d3]) d ∧ RCo W (.agg #[.slice (some ⟨e1, 0, none⟩) d.consts.length (d.consts.length + 2), .slice (some ⟨e3, 0, none⟩) d.procs.length (d.procs.length + 1), .slice (some ⟨e2, 0, none⟩) d.globals.length (d.globals.length + 2)]) sd ∧ Same [] w W) := Lib.hid (fun W h => ⟨k2.frame h (by simp), gb.frame h (by simp), HR'.out W (k5.trans h), ⟨_, _, _, rfl, hS.frame h⟩, k5.trans h⟩)
    clear p0 p1 p2 pz r0 r1 r2 rz s0 s1 s2 sz t0 t1 t2 tz q1 q2 q5 k2 k5 hS gb gF gl g1 g2 g3 hw4 hsd
    obtain ⟨q2, q4, -, -, -⟩ := HX6.out x6 (Same.refl _ _)
    have r0 := q2.cell 0
    have r1 := q2.cell 1
    have r2 := q2.cell 2
    have rz := q2.lt
    have t0 := q4.cell 0
    have t1 := q4.cell 1
    have t2 := q4.cell 2
    have tz := q4.lt
    clear q2 q4
    go_wp2_with fail
    refine (same_any _ _ d sd (HX6.out _ (Same.refl _ _)).2.2.1 (HX6.out _ (Same.refl _ _)).2.2.2.1).mono ?_
    rintro e x7 ⟨rfl, hs⟩
    obtain ⟨z, hz⟩ : ∃ z, z = decide (d = sd) := ⟨_, rfl⟩
    rw [← hz]
    have HZ := Lib.hid hz
    obtain ⟨q2, q4, -, -, -⟩ := HX6.out x7 hs
    have r0 := q2.cell 0
    have r1 := q2.cell 1
    have r2 := q2.cell 2
    have rz := q2.lt
    have t0 := q4.cell 0
    have t1 := q4.cell 1
    have t2 := q4.cell 2
    have tz := q4.lt
    have HZ7 := Lib.hid hs
    clear hs q2 q4 hz
    go_wp2_with fail
    refine (s0C_any _ _ d sd (HX6.out _ HZ7.out).2.2.1 (HX6.out _ HZ7.out).2.2.2.1).mono ?_
    rintro e x8 ⟨rfl, hs⟩
    rw [← HZ.out]
    have HZ8 := Lib.hid (HZ7.out.trans hs)
    clear hs r0 r1 r2 rz t0 t1 t2 tz
    cases q <;> cases z
    all_goals
      go_wp2_with fail
      go_ret
      exact ⟨rfl, (HX6.out _ HZ8.out).2.2.2.2⟩
end Ck
end Go.Proofs.YticaipedpcmhfaaGreatDoor
