/- Layer 8, the law CodeChecks: its walk. -/
import Derived.Test.YticaipedpcmhfaaGreatDoorCkE7
import Derived.Test.YticaipedpcmhfaaGreatDoorCkX3
import Derived.Test.YticaipedpcmhfaaGreatDoorCkA11
namespace Go.Proofs.YticaipedpcmhfaaGreatDoor
open Go.RowKit Hp
namespace Ck
variable {w w' : World}

theorem spoilt_wco (c : Cd.Co) : WCo (spoilt c) := by
  refine ⟨fun x hx => ?_, fun s hs => ?_, fun p hp => ?_⟩
  · have := List.eq_of_mem_replicate hx
    subst this
    decide
  · have := List.eq_of_mem_replicate hs
    subst this
    decide
  · have := List.eq_of_mem_replicate hp
    subst this
    exact ⟨by unfold in64; decide, fun i hi => by cases hi⟩

set_option maxHeartbeats 8000000 in
set_option maxRecDepth 100000 in
theorem checks08_any (v : Value) (c : Cd.Co) (hr0 : RCo w v c) (hwc : WCo c) (hl : Lens c) (hv : Vars w) : Calls Tryz.prog 3 #[v] w fun e w' => e = .returned (.bool true) ∧ Same [] w w' := by
  obtain ⟨cv, pv, gv, rfl, hr⟩ := hr0
  obtain ⟨A1, c1, rfl, hc1, hc1'⟩ := hr.consts.form
  obtain ⟨kv, hps, _⟩ := hr.procs
  obtain ⟨A2, c2, rfl, hc2, hc2'⟩ := hps.form
  obtain ⟨A3, c3, rfl, hc3, hc3'⟩ := hr.globals.form
  have HV := Lib.hid hv
  have HR : Hid (∀ W, Same [] w W → RCo W (.agg #[.slice A1 c.consts.length c1, .slice A2 c.procs.length c2, .slice A3 c.globals.length c3]) c) := Lib.hid (fun W h => ⟨_, _, _, rfl, hr.frame h⟩)
  have HL := Lib.hid hl
  obtain ⟨ca, hca⟩ : ∃ a, (Cd.check Cd.sym c).1 = a := ⟨_, rfl⟩
  obtain ⟨ci, hci⟩ : ∃ a, (Cd.check Cd.sym c).2.1 = a := ⟨_, rfl⟩
  obtain ⟨ct, hct⟩ : ∃ a, (Cd.check Cd.sym c).2.2 = a := ⟨_, rfl⟩
  obtain ⟨ts, hts⟩ : ∃ a, bs (textR c).1 = a := ⟨_, rfl⟩
  obtain ⟨te, hte⟩ : ∃ a, (textR c).2 = a := ⟨_, rfl⟩
  have HCK : Hid (∀ W v, Same [] w W → RCo W v c → Calls Tryz.prog 13 #[v] W fun e w' => e = .returned (.tuple #[.int .i64 ca, .int .i64 ci, .int .i64 ct]) ∧ Same [] W w') := Lib.hid (fun W v h h1 => by
    have := check_any (w := W) v c h1 hwc (hv.frame h (by simp))
    unfold Chk at this
    rwa [hca, hci, hct] at this)
  have HCR : Hid (∀ W v, RCo W v c → Calls Tryz.prog 10 #[v] W fun e w' => e = .returned (.tuple #[.int .i64 ca, .int .i64 ci, .int .i64 ct]) ∧ Same [] W w') := Lib.hid (fun W v h1 => by
    have := checkR_any (w := W) v c h1 hwc
    unfold Chk at this
    rwa [hca, hci, hct] at this)
  have HTK : Hid (∀ W v, Same [] w W → RCo W v c → Calls Tryz.prog 14 #[v] W fun e w' => e = .returned (.tuple #[.string ts, .int .i64 te]) ∧ Same [] W w') := Lib.hid (fun W v h h1 => by
    have := text_any (w := W) v c h1 hwc (hv.frame h (by simp))
    unfold Txt at this
    rwa [hts, hte] at this)
  have HTR : Hid (∀ W v, RCo W v c → Calls Tryz.prog 11 #[v] W fun e w' => e = .returned (.tuple #[.string ts, .int .i64 te]) ∧ Same [] W w') := Lib.hid (fun W v h1 => by
    have := textRef_any (w := W) v c h1 hwc
    unfold Txt at this
    rwa [hts, hte] at this)
  obtain ⟨sd, hsd⟩ : ∃ sd, spoilt c = sd := ⟨_, rfl⟩
  have hws : WCo sd := by rw [← hsd]; exact spoilt_wco c
  obtain ⟨da, hda⟩ : ∃ a, (Cd.check Cd.sym sd).1 = a := ⟨_, rfl⟩
  obtain ⟨di, hdi⟩ : ∃ a, (Cd.check Cd.sym sd).2.1 = a := ⟨_, rfl⟩
  obtain ⟨dt, hdt⟩ : ∃ a, (Cd.check Cd.sym sd).2.2 = a := ⟨_, rfl⟩
  obtain ⟨us, hus⟩ : ∃ a, bs (textR sd).1 = a := ⟨_, rfl⟩
  obtain ⟨ue, hue⟩ : ∃ a, (textR sd).2 = a := ⟨_, rfl⟩
  have KCK : Hid (∀ W v, Same [] w W → RCo W v sd → Calls Tryz.prog 13 #[v] W fun e w' => e = .returned (.tuple #[.int .i64 da, .int .i64 di, .int .i64 dt]) ∧ Same [] W w') := Lib.hid (fun W v h h1 => by
    have := check_any (w := W) v sd h1 hws (hv.frame h (by simp))
    unfold Chk at this
    rwa [hda, hdi, hdt] at this)
  have KCR : Hid (∀ W v, RCo W v sd → Calls Tryz.prog 10 #[v] W fun e w' => e = .returned (.tuple #[.int .i64 da, .int .i64 di, .int .i64 dt]) ∧ Same [] W w') := Lib.hid (fun W v h1 => by
    have := checkR_any (w := W) v sd h1 hws
    unfold Chk at this
    rwa [hda, hdi, hdt] at this)
  have KTK : Hid (∀ W v, Same [] w W → RCo W v sd → Calls Tryz.prog 14 #[v] W fun e w' => e = .returned (.tuple #[.string us, .int .i64 ue]) ∧ Same [] W w') := Lib.hid (fun W v h h1 => by
    have := text_any (w := W) v sd h1 hws (hv.frame h (by simp))
    unfold Txt at this
    rwa [hus, hue] at this)
  have KTR : Hid (∀ W v, RCo W v sd → Calls Tryz.prog 11 #[v] W fun e w' => e = .returned (.tuple #[.string us, .int .i64 ue]) ∧ Same [] W w') := Lib.hid (fun W v h1 => by
    have := textRef_any (w := W) v sd h1 hws
    unfold Txt at this
    rwa [hus, hue] at this)
  have HSD := Lib.hid hsd
  unfold maxLen at hc1' hc2' hc3'
  clear hr hv hps hl hwc hws hca hci hct hts hte hda hdi hdt hus hue hsd
  have HB : Hid (∀ W, Same [] (w.alloc (.cells #[.slice A1 c.consts.length c1, .slice A2 c.procs.length c2, .slice A3 c.globals.length c3] 26)) W → Blk W w.heap.size 26 [.slice A1 c.consts.length c1, .slice A2 c.procs.length c2, .slice A3 c.globals.length c3] ∧ Same [] w W) := Lib.hid (fun W hs =>
    ⟨Blk.frame (Blk.new w _ _) hs (by simp), ((Same.refl [] w).alloc _).trans hs⟩)
  go_enter Tryz.func3, Tryz.ntmps3
  go_wp2_with fail
  refine (works_any (HV.out.frame ((Same.refl [] _).alloc _) (by simp))).mono ?_
  rintro e w1 ⟨rfl, hs1⟩
  obtain ⟨q1, q3⟩ := HB.out w1 hs1
  have p0 := q1.cell 0
  have p1 := q1.cell 1
  have p2 := q1.cell 2
  have pz := q1.lt
  have HS1 := Lib.hid hs1
  have HW1 := Lib.hid q3
  clear q1 q3 hs1
  have ho1 := ofCn_le c HL.out
  obtain ⟨m, hm⟩ : ∃ m, m = ofCn c := ⟨_, rfl⟩
  rw [← hm] at ho1
  have HO : Hid (Calls Tryz.prog 9 #[.agg #[.slice A1 c.consts.length c1, .slice A2 c.procs.length c2, .slice A3 c.globals.length c3]] w1 fun e w' => e = .returned (.int .i64 m) ∧ Same [] w1 w') := Lib.hid (by rw [hm]; exact ofCode_any _ c (HR.out _ HW1.out) HL.out)
  have HM := Lib.hid hm
  clear hm
  go_wp2_with fail
  refine HO.out.mono ?_
  rintro e w2 ⟨rfl, hs2⟩
  have hs2' := HS1.out.trans hs2
  obtain ⟨q1, q3⟩ := HB.out w2 hs2'
  have p0 := q1.cell 0
  have p1 := q1.cell 1
  have p2 := q1.cell 2
  have pz := q1.lt
  have HS2 := Lib.hid hs2'
  have HW2 := Lib.hid q3
  clear q1 q3 hs2 hs2'
  by_cases hmuch : (8388608 : Int) < (m : Int)
  · go_wp2_with fail
    go_ret
    exact ⟨rfl, HW2.out⟩
  have hmn : (m : Int) ≤ 8388608 := by omega
  have HLc := Lib.hid (ofCn_small (c := c) (by rw [← HM.out]; omega))
  clear hmuch
  go_wp2_with fail
  refine (HCR.out _ _ (HR.out _ HW2.out)).mono ?_
  rintro e w3 ⟨rfl, hs3⟩
  have hs3' := HS2.out.trans hs3
  obtain ⟨q1, q3⟩ := HB.out w3 hs3'
  have p0 := q1.cell 0
  have p1 := q1.cell 1
  have p2 := q1.cell 2
  have pz := q1.lt
  have HS3 := Lib.hid hs3'
  have HW3 := Lib.hid q3
  clear q1 q3 hs3 hs3'
  go_wp2_with fail
  refine (HTR.out _ _ (HR.out _ HW3.out)).mono ?_
  rintro e w4 ⟨rfl, hs4⟩
  have hs4' := HS3.out.trans hs4
  obtain ⟨q1, q3⟩ := HB.out w4 hs4'
  have p0 := q1.cell 0
  have p1 := q1.cell 1
  have p2 := q1.cell 2
  have pz := q1.lt
  have HS4 := Lib.hid hs4'
  have HW4 := Lib.hid q3
  clear q1 q3 hs4 hs4'
  go_wp2_with fail
  refine (lentC_any _ c (HR.out _ HW4.out) HLc.out).mono ?_
  rintro e w5 ⟨cv1, pv1, gv1, ks1, rfl, hlc1, hs5⟩
  obtain ⟨a1, za1, ea1, ka1⟩ := hlc1.cr
  obtain ⟨a2, za2, ea2, ka2⟩ := hlc1.gr
  obtain ⟨a3, za3, ea3, ka3⟩ := hlc1.pr
  subst ea1 ea2 ea3
  have hs5' := HS4.out.trans hs5
  have HB5 : Hid (∀ W, Same [] (w5.alloc (.cells #[.slice (some ⟨a1, 0, none⟩) c.consts.length (c.consts.length + 2), .slice (some ⟨a3, 0, none⟩) c.procs.length (c.procs.length + 1), .slice (some ⟨a2, 0, none⟩) c.globals.length (c.globals.length + 2)] 26)) W → Blk W w.heap.size 26 [.slice A1 c.consts.length c1, .slice A2 c.procs.length c2, .slice A3 c.globals.length c3] ∧ Blk W w5.heap.size 26 [.slice (some ⟨a1, 0, none⟩) c.consts.length (c.consts.length + 2), .slice (some ⟨a3, 0, none⟩) c.procs.length (c.procs.length + 1), .slice (some ⟨a2, 0, none⟩) c.globals.length (c.globals.length + 2)] ∧ LC W w4.heap.size (.slice (some ⟨a1, 0, none⟩) c.consts.length (c.consts.length + 2)) (.slice (some ⟨a3, 0, none⟩) c.procs.length (c.procs.length + 1)) (.slice (some ⟨a2, 0, none⟩) c.globals.length (c.globals.length + 2)) ks1 c ∧ Same [] w W) := Lib.hid (fun W h => by
    obtain ⟨q1, q3⟩ := HB.out W (hs5'.trans (((Same.refl [] w5).alloc _).trans h))
    refine ⟨q1, Blk.frame (Blk.new w5 _ _) h (by simp), hlc1.frame (((Same.refl [] w5).alloc (.cells #[.slice (some ⟨a1, 0, none⟩) c.consts.length (c.consts.length + 2), .slice (some ⟨a3, 0, none⟩) c.procs.length (c.procs.length + 1), .slice (some ⟨a2, 0, none⟩) c.globals.length (c.globals.length + 2)] 26)).trans h), q3⟩)
  obtain ⟨q1, q3⟩ := HB.out w5 hs5'
  have p0 := q1.cell 0
  have p1 := q1.cell 1
  have p2 := q1.cell 2
  have pz := q1.lt
  have hw4 : w.heap.size + 1 ≤ w4.heap.size := by simpa using HS4.out.size
  have HW45 := Lib.hid hw4
  clear q1 q3 hlc1 hs5 hs5' ka1 ka2 ka3 hw4
  have HRO : Hid (∀ W, Same [] (w5.alloc (.cells #[.slice (some ⟨a1, 0, none⟩) c.consts.length (c.consts.length + 2), .slice (some ⟨a3, 0, none⟩) c.procs.length (c.procs.length + 1), .slice (some ⟨a2, 0, none⟩) c.globals.length (c.globals.length + 2)] 26)) W → RCo W (.agg #[.slice (some ⟨a1, 0, none⟩) c.consts.length (c.consts.length + 2), .slice (some ⟨a3, 0, none⟩) c.procs.length (c.procs.length + 1), .slice (some ⟨a2, 0, none⟩) c.globals.length (c.globals.length + 2)]) c) := Lib.hid (fun W h => ⟨_, _, _, rfl, (HB5.out W h).2.2.1.at HLc.out⟩)
  go_wp2_with fail
  clear p0 p1 p2 pz
  go_loopg [11, 12, 13, 14, 15, 16] 2 (fun gk i _ _ _ _ _ wq => ∃ k : Nat, k ≤ 2 ∧ gk = 2 - k ∧ i = .int .i64 k ∧ Same [] (w5.alloc (.cells #[.slice (some ⟨a1, 0, none⟩) c.consts.length (c.consts.length + 2), .slice (some ⟨a3, 0, none⟩) c.procs.length (c.procs.length + 1), .slice (some ⟨a2, 0, none⟩) c.globals.length (c.globals.length + 2)] 26)) wq)
  case atStart => exact ⟨0, by omega, rfl, rfl, Same.refl _ _⟩
  case round =>
    obtain ⟨k, hk, rfl, rfl, hsq⟩ := hrel
    obtain ⟨q1, q2, -, q4⟩ := HB5.out wr hsq
    have p0 := q1.cell 0
    have p1 := q1.cell 1
    have p2 := q1.cell 2
    have pz := q1.lt
    have t0 := q2.cell 0
    have t1 := q2.cell 1
    have t2 := q2.cell 2
    have tz := q2.lt
    have HSQ := Lib.hid hsq
    have HWQ := Lib.hid q4
    clear hsq q1 q2 q4
    by_cases hlt : k < 2
    · have hltI : (k : Int) < 2 := by omega
      go_wp2_with fail
      refine (HCK.out _ _ HWQ.out (HRO.out _ HSQ.out)).mono ?_
      rintro e w6 ⟨rfl, hs6⟩
      have hs6' := HSQ.out.trans hs6
      obtain ⟨-, q2, -, q4⟩ := HB5.out w6 hs6'
      have t0 := q2.cell 0
      have t1 := q2.cell 1
      have t2 := q2.cell 2
      have tz := q2.lt
      have HS6 := Lib.hid hs6'
      have HW6 := Lib.hid q4
      clear hs6 hs6' q2 q4
      go_wp2_with fail
      refine (HTK.out _ _ HW6.out (HRO.out _ HS6.out)).mono ?_
      rintro e w7 ⟨rfl, hs7⟩
      have HS7 := Lib.hid (HS6.out.trans hs7)
      clear hs7
      go_wp2_with fail
      go_roundg (2 - (k + 1))
      case measure => omega
      case rel => exact ⟨k + 1, by omega, rfl, by go_num, HS7.out⟩
    · have hge : (2 : Int) ≤ k := by omega
      go_wp2_with fail
      refine (wholeC_any _ _ _ _ _ _ c (HB5.out _ HSQ.out).2.2.1 (HR.out _ HWQ.out) HLc.out).mono ?_
      rintro e w6 ⟨rfl, hs6⟩
      have hs6' := HSQ.out.trans hs6
      obtain ⟨-, q2, q3, q4⟩ := HB5.out w6 hs6'
      have t0 := q2.cell 0
      have t1 := q2.cell 1
      have t2 := q2.cell 2
      have tz := q2.lt
      have HS6 := Lib.hid hs6'
      have HW6 := Lib.hid q4
      have HX6 := Lib.hid (And.intro q2 q3)
      clear hs6 hs6' q2 q3 q4
      go_wp2_with fail
      refine (spoilC_any w4.heap.size _ _ _ _ c w5.heap.size _ HX6.out.1 HX6.out.2 HLc.out).mono ?_
      rintro e w7 ⟨rfl, g1, g2, g3, gb, F, gF, gl⟩
      have hS := spoilt_at ⟨HLc.out.1, HLc.out.2.1, HLc.out.2.2.1⟩ g1 g2 g3
      have k5 : Same [] w w7 := HW6.out.trans' gF (fun x h => .inr (by have := gl _ h; have := HW45.out; omega))
      rw [HSD.out] at hS
      have HX7 : Hid (∀ W, Same [] w7 W → Blk W w5.heap.size 26 [.slice (some ⟨a1, 0, none⟩) c.consts.length (c.consts.length + 2), .slice (some ⟨a3, 0, none⟩) c.procs.length (c.procs.length + 1), .slice (some ⟨a2, 0, none⟩) c.globals.length (c.globals.length + 2)] ∧ RCo W (.agg #[.slice (some ⟨a1, 0, none⟩) c.consts.length (c.consts.length + 2), .slice (some ⟨a3, 0, none⟩) c.procs.length (c.procs.length + 1), .slice (some ⟨a2, 0, none⟩) c.globals.length (c.globals.length + 2)]) sd ∧ Same [] w W) := Lib.hid (fun W h => ⟨gb.frame h (by simp), ⟨_, _, _, rfl, hS.frame h⟩, k5.trans h⟩)
      clear p0 p1 p2 pz t0 t1 t2 tz g1 g2 g3 gb gF gl hS k5
      obtain ⟨q2, -, -⟩ := HX7.out w7 (Same.refl _ _)
      have t0 := q2.cell 0
      have t1 := q2.cell 1
      have t2 := q2.cell 2
      have tz := q2.lt
      clear q2
      go_wp2_with fail
      refine (KCK.out _ _ (HX7.out _ (Same.refl _ _)).2.2 (HX7.out _ (Same.refl _ _)).2.1).mono ?_
      rintro e w8 ⟨rfl, hs8⟩
      obtain ⟨q2, -, -⟩ := HX7.out w8 hs8
      have t0 := q2.cell 0
      have t1 := q2.cell 1
      have t2 := q2.cell 2
      have tz := q2.lt
      have HS8 := Lib.hid hs8
      clear q2 hs8
      go_wp2_with fail
      refine (KTK.out _ _ (HX7.out _ HS8.out).2.2 (HX7.out _ HS8.out).2.1).mono ?_
      rintro e w9 ⟨rfl, hs9⟩
      have hs9' := HS8.out.trans hs9
      obtain ⟨q2, -, -⟩ := HX7.out w9 hs9'
      have t0 := q2.cell 0
      have t1 := q2.cell 1
      have t2 := q2.cell 2
      have tz := q2.lt
      have HS9 := Lib.hid hs9'
      clear q2 hs9 hs9'
      go_wp2_with fail
      refine (KCR.out _ _ (HX7.out _ HS9.out).2.1).mono ?_
      rintro e wa ⟨rfl, hsa⟩
      have hsa' := HS9.out.trans hsa
      obtain ⟨q2, -, -⟩ := HX7.out wa hsa'
      have t0 := q2.cell 0
      have t1 := q2.cell 1
      have t2 := q2.cell 2
      have tz := q2.lt
      have HSa := Lib.hid hsa'
      clear q2 hsa hsa'
      go_wp2_with fail
      refine (KTR.out _ _ (HX7.out _ HSa.out).2.1).mono ?_
      rintro e wb ⟨rfl, hsb⟩
      have HSb := Lib.hid (HSa.out.trans hsb)
      clear hsb t0 t1 t2 tz
      go_wp2_with fail
      go_ret
      exact ⟨rfl, (HX7.out _ HSb.out).2.2⟩
end Ck
end Go.Proofs.YticaipedpcmhfaaGreatDoor
