/- The law VmLoops: its walk. (Printed by mkVmLw.py.) -/
import Derived.Test.YtkepcdbogeineaaGreatDoorVmLq
namespace Go.Proofs.YtkepcdbogeineaaGreatDoor
open Go.RowKit Hp Ck
namespace Vm
variable {w w' w1 W W' : World}

theorem infoV_I : (Tryz.prog.info? 53).map (fun i => (i.zero, i.size, i.bytes)) = some (some (.agg #[.int .u8 0, .int .i64 0]), 2, 16) := by kernel_rfl
theorem news2w (W : World) (x y : Value) (t : TypeId) : ∀ j v, [x, y][j]? = some v → (W.alloc (.cells #[x, y] t)).cell? ((⟨W.heap.size, 0, none⟩ : Addr).add j) = some v := World.news_of_block (Blk.new W t [x, y])

set_option maxHeartbeats 8000000 in
set_option maxRecDepth 100000 in
theorem loops_true (hv : Vars w) (n : Int) (hn : in64 n) : Calls Tryz.prog 5 #[.int .i64 n, .bool true] w fun e w' => e = .returned (.bool true) ∧ Same [] w w' := by
  have HV := Lib.hid (fun W (hs : Same [] w W) => hv.frame hs (by simp))
  clear hv
  obtain ⟨i0, hi1, hz0, hz1, hz2⟩ := info_parts infoV_I
  have HI0 := Lib.hid (And.intro hi1 (And.intro hz0 (And.intro hz1 hz2)))
  clear hi1 hz0 hz1 hz2
  go_enter Tryz.func5, Tryz.ntmps5
  go_wp2_with fail
  refine (works_any (HV.out _ (Same.refl _ _))).mono ?_
  rintro e w1 ⟨rfl, hs1⟩
  have HS1 := Lib.hid hs1
  clear hs1
  go_wp2_with fail
  refine (make_two 1 0 (by decide) (by unfold in64; omega) (HV.out _ HS1.out)).mono ?_
  rintro e w2 ⟨rfl, rfl⟩
  go_upto_region 9 with fail
  obtain ⟨w2, hw2⟩ : ∃ w2, w2 = w1.alloc (.cells #[.int .u8 4, .int .i64 0, .int .u8 11, .int .i64 0] 53) := ⟨_, rfl⟩
  rw [← hw2]
  have hs2 : Same [] w1 w2 := by rw [hw2]; exact (Same.refl _ _).alloc _
  have hba : Blk w2 w1.heap.size 53 [.int .u8 4, .int .i64 0, .int .u8 11, .int .i64 0] := by rw [hw2]; exact Blk.new w1 _ _
  have hri : RIs w2 (.slice (some ⟨w1.heap.size, 0, none⟩) 2 2) (code1 true) := sq_blk hba (by decide) (fun i j hi hj => cellsI [⟨4, 0⟩, ⟨11, 0⟩] i j hi hj)
  obtain ⟨ga, hga⟩ : ∃ g, g = w1.heap.size := ⟨_, rfl⟩
  rw [← hga] at hri ⊢
  obtain ⟨na, Ca, hna⟩ : ∃ n C : Nat, n = 2 ∧ C = 2 := ⟨2, 2, rfl, rfl⟩
  have HRI := Lib.hid hri
  have HS2 := Lib.hid (HS1.out.trans hs2)
  clear hw2 hs2 hba hri hga hna
  go_wp2_with fail
  obtain ⟨wa, hwa⟩ : ∃ wa, wa = w2.alloc (.cells #[.int .u8 6, .int .i64 1, .int .u8 5, .int .i64 0, .int .u8 7, .int .i64 0, .int .u8 4, .int .i64 0, .int .u8 10, .int .i64 0, .int .u8 12, .int .i64 0] 53) := ⟨_, rfl⟩
  rw [← hwa]
  have hza : wa.heap.size = w2.heap.size + 1 := by rw [hwa]; simp
  have hsa : Same [] w2 wa := by rw [hwa]; exact (Same.refl _ _).alloc _
  have hb0 : Blk wa w2.heap.size 53 [.int .u8 6, .int .i64 1, .int .u8 5, .int .i64 0, .int .u8 7, .int .i64 0, .int .u8 4, .int .i64 0, .int .u8 10, .int .i64 0, .int .u8 12, .int .i64 0] := by rw [hwa]; exact Blk.new _ _ _
  obtain ⟨wb, hwb⟩ : ∃ wb, wb = wa.alloc (.cells #[.int .i64 0, .slice (some ⟨w2.heap.size, 0, none⟩) 6 6, .int .i64 0, .slice (some ⟨ga, 0, none⟩) 2 2] 56) := ⟨_, rfl⟩
  rw [← hwb]
  have hsb : Same [] wa wb := by rw [hwb]; exact (Same.refl _ _).alloc _
  have hbp : Blk wb wa.heap.size 56 [.int .i64 0, .slice (some ⟨w2.heap.size, 0, none⟩) 6 6, .int .i64 0, .slice (some ⟨ga, 0, none⟩) 2 2] := by rw [hwb]; exact Blk.new _ _ _
  have hzb : wb.heap.size = wa.heap.size + 1 := by rw [hwb]; simp
  obtain ⟨wc, hwc⟩ : ∃ wc, wc = wb.alloc (.cells #[.string ⟨#[102]⟩] 9) := ⟨_, rfl⟩
  rw [← hwc]
  have hsc : Same [] wb wc := by rw [hwc]; exact (Same.refl _ _).alloc _
  have hbg : Blk wc wb.heap.size 9 [.string ⟨#[102]⟩] := by rw [hwc]; exact Blk.new _ _ _
  have hzc : wc.heap.size = wb.heap.size + 1 := by rw [hwc]; simp
  obtain ⟨wd, hwd⟩ : ∃ wd, wd = wc.alloc (.cells #[.slice none 0 0, .slice (some ⟨w2.heap.size + 1, 0, none⟩) 2 2, .slice (some ⟨w2.heap.size + 1 + 1, 0, none⟩) 1 1] 27) := ⟨_, rfl⟩
  rw [← hwd]
  have hsd : Same [] wc wd := by rw [hwd]; exact (Same.refl _ _).alloc _
  have hbc : Blk wd (w2.heap.size + 1 + 1 + 1) 27 [.slice none 0 0, .slice (some ⟨w2.heap.size + 1, 0, none⟩) 2 2, .slice (some ⟨w2.heap.size + 1 + 1, 0, none⟩) 1 1] := by rw [hwd]; exact Ck.blk_at' (by rw [hzc, hzb, hza])
  have hs2d : Same [] w2 wd := ((hsa.trans hsb).trans hsc).trans hsd
  have hr : RCoAt wd (.slice none 0 0) (.slice (some ⟨w2.heap.size + 1, 0, none⟩) 2 2) (.slice (some ⟨w2.heap.size + 1 + 1, 0, none⟩) 1 1) (loopC true) := by
    have e1 : wb.heap.size = w2.heap.size + 1 + 1 := by rw [hzb, hza]
    rw [← e1, ← hza]
    exact loop_read (hb0.frame ((hsb.trans hsc).trans hsd) (by simp)) (Sq.frame HRI.out hs2d) (hbp.frame (hsc.trans hsd) (by simp)) (hbg.frame hsd (by simp))
  have HRC := Lib.hid hr
  have HS3 := Lib.hid (HS2.out.trans hs2d)
  have HBC := Lib.hid hbc
  have hzd : w2.heap.size + 1 + 1 + 1 < wd.heap.size := hbc.lt
  have hzw : w.heap.size ≤ w2.heap.size := HS2.out.size
  have HZ := Lib.hid (And.intro hzd hzw)
  clear hwa hza hsa hb0 hwb hsb hbp hzb hwc hsc hbg hzc hwd hsd hbc hs2d hr HRI HS2 HS1 hzd hzw
  refine (new_any _ _ _ (loopC true) HRC.out (loop_w true) (HV.out _ HS3.out) 0 (mkW 1 0) (by unfold in64; omega)).mono ?_
  rintro e w4 ⟨hs4, hp⟩
  rw [if_pos (loop_e true)] at hp
  obtain ⟨T, FC, FT, rfl, ⟨M, cv, pv, gv, fv, sv, rv, kvs, hth⟩, hnew⟩ := hp
  have HS4 := Lib.hid (HS3.out.trans hs4)
  have HTH := Lib.hid hth
  have HNW := Lib.hid hnew
  have hb4 := HBC.out.frame hs4 (by simp)
  have c0 := hb4.cell 0
  have c1 := hb4.cell 1
  have c2 := hb4.cell 2
  have cz := hb4.lt
  simp only [List.getElem?_cons_zero, List.getElem?_cons_succ] at c0 c1 c2
  have HB4 := Lib.hid hb4
  have HZ4 := Lib.hid hs4.size
  clear hs4 hth hnew HRC hb4 HBC
  go_wp2_with fail
  refine (toy_any (HV.out _ HS4.out) (.slice none 0 0) (.slice (some ⟨w2.heap.size + 1, 0, none⟩) 2 2) (some ⟨w2.heap.size + 1 + 1, 0, none⟩) 1 1 ⟨_, _, _, rfl⟩ ⟨_, _, _, rfl⟩ (by decide) 0 9).mono ?_
  rintro e w6 ⟨H, G, rfl, ⟨gv6, ht6⟩, hG, hs6⟩
  have hsit : Sit ⟨T, M, cv, pv, gv, kvs, H, FC⟩ w6 (u0 true) v0 FT G := by
    have hth6 := HTH.out.frame0 hs6
    refine ⟨⟨⟨fv, sv, rv, hth6⟩, ⟨_, _, _, _, ht6⟩, fun b hb hm => ?_, fun b hb hm => ?_⟩, HV.out _ (HS4.out.trans hs6), fun b hb => ?_⟩
    · have h1 := hG b hb; have h2 := HTH.out.tl b hm; omega
    · have h1 := hG b hm; have h2 := HTH.out.cl b hb; omega
    · have h0 := (HV.out w (Same.refl _ _)).size
      have h9 := HS4.out.size
      have h8 := HS3.out.size
      rcases hb with hb | hb
      · have h1 := HNW.out b (.inr hb); omega
      · have h1 := hG b hb; omega
  have HV0 := Lib.hid (VB.open_ hsit)
  have HS6 := Lib.hid (HS4.out.trans hs6)
  have HLO : Hid (∀ b, b ∈ FT ∨ b ∈ G → wd.heap.size ≤ b) := Lib.hid (fun b hb => by
    rcases hb with hb | hb
    · exact HNW.out b (.inr hb)
    · have := hG b hb; have := HZ4.out; omega)
  have HB6 := Lib.hid (HB4.out.frame hs6 (by simp))
  have HCBN : Hid (w2.heap.size + 1 + 1 + 1 ∉ FT ++ G) := Lib.hid (fun hm => by
    have h1 := HLO.out (w2.heap.size + 1 + 1 + 1) (by simpa using hm)
    have := HZ.out.1
    omega)
  clear ht6 hG hs6 hsit HTH HNW HS4 HS3 HB4 HZ4 c0 c1 c2 cz
  go_wp2_with fail
  refine (pick_any n 300 hn (by decide) (by decide)).mono ?_
  rintro e w7 ⟨rfl, rfl⟩
  have hpl := pickN_lt n 300 (by decide)
  obtain ⟨N, hN⟩ : ∃ N, N = 200 + pickN n 300 := ⟨_, rfl⟩
  have hwr : IntKind.i64.wrap (200 + ((pickN n 300 : Nat) : Int)) = (N : Int) := by rw [IntKind.wrap_i64]; omega
  have hN1 : 200 ≤ N := by omega
  have hN2 : N < 500 := by omega
  clear hpl hN
  go_wp2_with fail
  obtain ⟨w8, hw8⟩ : ∃ w8, w8 = w6.alloc (.cells #[.int .i64 0, .int .u8 0, .int .i64 0, .int .i64 0, .int .u64 0, .int .u64 0, .slice none 0 0, .int .i64 0, .bool false, .int .i64 0] 44) := ⟨_, rfl⟩
  rw [← hw8]
  obtain ⟨LB, hLB⟩ : ∃ x, x = w6.heap.size := ⟨_, rfl⟩
  have hvb8 := HV0.out.box zeros hw8
  rw [← hLB] at hvb8 ⊢
  have HV8 := Lib.hid hvb8
  clear hw8 hLB hvb8 HV0 hwr
  go_loopg [16] N (fun gk i wr => ∃ (m : Nat) (th : Th) (t : Toy) (FT' G' : List Nat) (l : List Int) (v : Value) (lev : Ev) (LA : Option Addr) (LN LC : Nat), m ≤ N ∧ gk = N - m ∧ i = .int .i64 m ∧ Is true m th t ∧ VB ⟨T, M, cv, pv, gv, kvs, H, FC⟩ w6 wr th t FT G FT' G' l v [(LB, 44, evC lev (.slice LA LN LC))] ∧ (true = false → 193 ≤ m → lev.what = 17))
  case atStart => exact ⟨0, _, _, _, _, _, _, {}, none, 0, 0, Nat.zero_le _, rfl, rfl, .s0, HV8.out, fun _ h => by omega⟩
  case round =>
    obtain ⟨m, th, t, FT1, G1, l1, v1, lev, LA, LN, LC, hm, rfl, rfl, his, hvb, hlev⟩ := hrel
    have HVB := Lib.hid hvb
    have HLV := Lib.hid hlev
    clear hvb hlev HV8
    by_cases hlt : m < N
    · obtain ⟨ev, ls, th2, t2, his2, hstp, hw17, hw0⟩ := nxt his (by omega)
      have HW := Lib.hid (And.intro hw17 hw0)
      have HST := Lib.hid hstp
      clear hw17 hw0 hstp his
      unfold toyV at HST
      go_wp2_with fail
      refine (HST.out ⟨T, M, cv, pv, gv, kvs, H, FC⟩ _ _ _ HVB.out.sit).mono ?_
      rintro e w9 ⟨v, he, hlf⟩
      obtain ⟨A9, C9, rfl⟩ := hlf.form
      simp only [evC] at he
      subst he
      obtain ⟨FT2, G2, hvb⟩ := HVB.out.call hlf
      have HVC := Lib.hid hvb
      clear hlf hvb HVB HST
      go_upto_region 20 with fail
      obtain ⟨wx, hwx⟩ : ∃ wx, wx = w9.alloc (.cells #[.int .i64 0, .int .u8 ev.what, .int .i64 ev.cell, .int .i64 ev.field, .int .u64 ev.old, .int .u64 ev.new, .slice A9 ls.length C9, .int .i64 ev.other, .bool ev.yes, .int .i64 ev.err] 44) := ⟨_, rfl⟩
      rw [← hwx]
      have HVX := Lib.hid (HVC.out.box (evC ev (.slice A9 ls.length C9)) hwx)
      obtain ⟨XB, hXB⟩ : ∃ x, x = w9.heap.size := ⟨_, rfl⟩
      rw [← hXB] at HVX ⊢
      clear hwx HVC hXB
      obtain ⟨e0, e1, e2, e3, e4, e5, e6, e7, e8, e9, ez, ef⟩ := HVX.out.get (List.Mem.head _)
      obtain ⟨r0, r1, r2, r3, r4, r5, r6, r7, r8, r9, rz, rf⟩ := HVX.out.get (List.mem_cons_of_mem _ (List.Mem.head _))
      by_cases hz : ev.what = 0
      · have hz' : (ev.what != 0) = false := by simpa using hz
        go_wp2_with fail
        go_roundg (N - (m + 1))
        case measure => omega
        case rel =>
          refine ⟨m + 1, th2, t2, FT2, G2, _, _, lev, LA, LN, LC, by omega, rfl, by go_num, his2, HVX.out.less (by simp), fun hb h => ?_⟩
          rcases Nat.lt_or_ge m 193 with h1 | h1
          · have := HW.out.1 hb (by omega); omega
          · exact HLV.out hb h1
      · have hz' : (ev.what != 0) = true := by simpa using hz
        go_wp2_with fail
        have hl2 := (HVX.out.less (bs' := [(LB, 44, evC lev (.slice LA LN LC))]) (by simp)).laid (same10 (Same.refl _ wx) (.inl (by simp)) (.int .i64 0) (.int .u8 ev.what) (.int .i64 ev.cell) (.int .i64 ev.field) (.int .u64 ev.old) (.int .u64 ev.new) (.slice A9 ls.length C9) (.int .i64 ev.other) (.bool ev.yes) (.int .i64 ev.err)) (blk10 (HVX.out.bx _ (List.mem_cons_of_mem _ (List.Mem.head _))).1 _ _ _ _ _ _ _ _ _ _) (by simp)
        have HL2 := Lib.hid hl2
        clear hl2
        go_roundg (N - (m + 1))
        case measure => omega
        case rel =>
          refine ⟨m + 1, th2, t2, FT2, G2, _, _, ev, A9, ls.length, C9, by omega, rfl, by go_num, his2, HL2.out, fun hb h => ?_⟩
          rcases Nat.lt_or_ge m 193 with h1 | h1
          · exact HW.out.1 hb (by omega)
          · exact absurd (HW.out.2 hb h1) hz
    · obtain rfl : m = N := by omega
      have HTO := Lib.hid (his.stands hN1)
      have hlf := HVB.out.lf
      have hbc := HB6.out.frame HVB.out.sm HCBN.out
      have HBC := Lib.hid hbc
      clear hlf hbc his
      go_wp2_with fail
      obtain ⟨fv, sv, rv, q⟩ := HVB.out.sit.vt.th
      refine (ended_any q).mono ?_
      rintro e w9 ⟨he, hs9⟩
      have HV9 := Lib.hid (HVB.out.same hs9)
      have hb9 := HBC.out.frame hs9 (by simp)
      have HB9 := Lib.hid hb9
      rw [HTO.out.1 (by trivial)] at he
      obtain ⟨xw, hxw⟩ : ∃ x, x = th.word := ⟨_, rfl⟩
      obtain ⟨xe, hxe⟩ : ∃ x, x = th.err := ⟨_, rfl⟩
      rw [← hxw, ← hxe] at he
      subst he
      clear hxw hxe hs9 hb9 q HVB HLV HBC
      go_upto_region 25 with fail
      obtain ⟨wE, hwE⟩ : ∃ wE, wE = w9.alloc (.cells #[.bool false, .int .u64 xw, .int .i64 xe] 58) := ⟨_, rfl⟩
      rw [← hwE]
      have hsE : Same [] w9 wE := by rw [hwE]; exact (Same.refl _ _).alloc _
      have HVE := Lib.hid (HV9.out.same hsE)
      have hbE := HB9.out.frame hsE (by simp)
      have HBE := Lib.hid hbE
      have c0 := hbE.cell 0
      have c1 := hbE.cell 1
      have c2 := hbE.cell 2
      have cz := hbE.lt
      have cf := hbE.frozen
      have cz1 : w2.heap.size + 1 + 1 < wE.heap.size := by omega
      have cz2 : w2.heap.size + 1 < wE.heap.size := by omega
      have cz3 : w2.heap.size < wE.heap.size := by omega
      simp only [List.getElem?_cons_zero, List.getElem?_cons_succ] at c0 c1 c2
      clear hwE hsE hbE HV9 HB9
      go_wp2_with fail
      obtain ⟨wF, hwF⟩ : ∃ wF, wF = ((wE.setCell ⟨w2.heap.size + 1 + 1 + 1, 0, none⟩ (.slice none 0 0)).setCell ⟨w2.heap.size + 1 + 1 + 1, 1, none⟩ (.slice (some ⟨wE.heap.size + 1, 0, none⟩) 1 1)).setCell ⟨w2.heap.size + 1 + 1 + 1, 2, none⟩ (.slice none 0 0) := ⟨_, rfl⟩
      rw [← hwF]
      have hsF : Same [w2.heap.size + 1 + 1 + 1] wE wF := by rw [hwF]; exact (((Same.refl _ wE).setCell (.inl (by simp)) _).setCell (.inl (by simp)) _).setCell (.inl (by simp)) _
      have hzF : wF.heap.size = wE.heap.size := by rw [hwF]; simp
      obtain ⟨wG, hwG⟩ : ∃ wG, wG = wF.alloc (.cells #[.int .u8 8, .int .i64 0] 53) := ⟨_, rfl⟩
      rw [← hwG]
      have hsG : Same [] wF wG := by rw [hwG]; exact (Same.refl _ _).alloc _
      have hbI : Blk wG wE.heap.size 53 [.int .u8 8, .int .i64 0] := by rw [hwG]; exact Ck.blk_at' hzF.symm
      have hzG : wG.heap.size = wE.heap.size + 1 := by rw [hwG, ← hzF]; simp
      obtain ⟨wH, hwH⟩ : ∃ wH, wH = wG.alloc (.cells #[.int .i64 0, .slice (some ⟨wE.heap.size, 0, none⟩) 1 1] 56) := ⟨_, rfl⟩
      rw [← hwH]
      have hsH : Same [] wG wH := by rw [hwH]; exact (Same.refl _ _).alloc _
      have hbP : Blk wH (wE.heap.size + 1) 56 [.int .i64 0, .slice (some ⟨wE.heap.size, 0, none⟩) 1 1] := by rw [hwH]; exact Ck.blk_at' hzG.symm
      have hr2 := jump_read (hbI.frame hsH (by simp)) hbP
      have hwd : w.heap.size ≤ wd.heap.size := by have h1 := HZ.out.1; have h2 := HZ.out.2; omega
      have hSE : Same [] w wE := HS6.out.trans' HVE.out.sm (fun x hx => .inr (by have := HLO.out x (by simpa using hx); omega))
      have hSF : Same [] w wF := hSE.trans' hsF (fun x hx => .inr (by rw [List.mem_singleton.1 hx]; have h2 := HZ.out.2; omega))
      have hSH : Same [] w wH := (hSF.trans hsG).trans hsH
      have hCG : ∀ x ∈ G1, x ∉ [w2.heap.size + 1 + 1 + 1] := fun x hx hm => by
        have e := List.mem_singleton.1 hm
        subst e
        have hlt6 := HB6.out.lt
        rcases HVE.out.sub _ (.inr hx) with h | h | h
        · exact HCBN.out (List.mem_append_left _ h)
        · exact HCBN.out (List.mem_append_right _ h)
        · omega
      obtain ⟨cc, gc, sc, hc, htoyE⟩ := HVE.out.sit.vt.toy
      have HTOY := Lib.hid (((htoyE.frame hsF hCG).frame0 hsG).frame0 hsH)
      have HSH := Lib.hid hSH
      have HG1 := Lib.hid (fun x (hx : x ∈ G1) => And.intro (htoyE.gl x hx) (HVE.out.sit.low x (.inr hx)))
      have HGW : Hid (∀ x ∈ G1, w.heap.size ≤ x) := Lib.hid (fun x hx => by
        rcases HVE.out.sub x (.inr hx) with h | h | h
        · have := HLO.out x (.inl h); omega
        · have := HLO.out x (.inr h); omega
        · have := HS6.out.size; omega)
      have HZH : Hid (wE.heap.size ≤ wH.heap.size) := Lib.hid (by have := hsH.size; omega)
      have HR2 := Lib.hid hr2
      clear hwF hsF hzF hwG hsG hbI hzG hwH hsH hbP hr2 hwd hSE hSF hSH hCG htoyE c0 c1 c2 cz cf cz1 cz2 cz3
      refine (new_any _ _ _ jumpC HR2.out jump_w (HV.out _ HSH.out) 0 (mkW 1 0) (by unfold in64; omega)).mono ?_
      rintro e wI ⟨hsI, hp⟩
      rw [if_pos jump_e] at hp
      obtain ⟨T2, FC2, FT2, rfl, ⟨M2, cv2, pv2, gv2, fv2, sv2, rv2, kvs2, hth2⟩, hnew2⟩ := hp
      have hsit2 : Sit ⟨T2, M2, cv2, pv2, gv2, kvs2, H, FC2⟩ wI jth t FT2 G1 := by
        refine ⟨⟨⟨fv2, sv2, rv2, hth2⟩, ⟨_, _, _, _, HTOY.out.frame0 hsI⟩, fun b hb hm => ?_, fun b hb hm => ?_⟩, HV.out _ (HSH.out.trans hsI), fun b hb => ?_⟩
        · have h1 := (HG1.out b hb).1; have h2 := hnew2 b (.inr hm); have := HZH.out; omega
        · have h1 := (HG1.out b hm).1; have h2 := hnew2 b (.inl hb); have := HZH.out; omega
        · rcases hb with hb | hb
          · have h1 := hnew2 b (.inr hb); have h2 := (HV.out w (Same.refl _ _)).size; have := HSH.out.size; omega
          · exact (HG1.out b hb).2
      have HW2 := Lib.hid (VB.open_ hsit2)
      have HSI := Lib.hid (HSH.out.trans hsI)
      have HLO2 : Hid (∀ b, b ∈ FT2 ∨ b ∈ G1 → w.heap.size ≤ b) := Lib.hid (fun b hb => by
        rcases hb with hb | hb
        · have h1 := hnew2 b (.inr hb); have := HSH.out.size; omega
        · exact HGW.out b hb)
      clear hsI hth2 hnew2 hsit2 HTOY HSH HG1 HGW HZH HR2 HVE HBE
      go_wp2_with fail
      go_loopg [19] 3 (fun gk i wr => ∃ (m : Nat) (FT' G' : List Nat) (l : List Int) (v : Value), m ≤ 3 ∧ gk = 3 - m ∧ i = .int .i64 m ∧ VB ⟨T2, M2, cv2, pv2, gv2, kvs2, H, FC2⟩ wI wr jth t FT2 G1 FT' G' l v [])
      case atStart => exact ⟨0, _, _, _, _, by decide, rfl, rfl, HW2.out⟩
      case round =>
        obtain ⟨m, FT3, G3, l3, v3, hm, rfl, rfl, hvb⟩ := hrel
        have HVB2 := Lib.hid hvb
        clear hvb HW2
        by_cases hlt : m < 3
        · have HST : Hid (∀ (k : Kx) (w : World) (FT G : List Nat) (t : Toy), Sit k w jth t FT G → Calls Tryz.prog 13 #[.pointer (some ⟨k.T, 0, none⟩), toyV k.H] w fun e w' => ∃ v, e = .returned (.agg (evC { what := 15 } v).toArray) ∧ Lf k w FT G jth t [] v w') := Lib.hid (fun k w FT G t h => step_jump h)
          unfold toyV at HST
          go_wp2_with fail
          refine (HST.out ⟨T2, M2, cv2, pv2, gv2, kvs2, H, FC2⟩ _ _ _ _ HVB2.out.sit).mono ?_
          rintro e w9 ⟨v, he, hlf⟩
          obtain ⟨A9, C9, rfl⟩ := hlf.form
          simp only [evC] at he
          subst he
          obtain ⟨FT4, G4, hvb⟩ := HVB2.out.call hlf
          have HVC := Lib.hid hvb
          clear hlf hvb HVB2 HST
          go_wp2_with fail
          go_roundg (3 - (m + 1))
          case measure => omega
          case rel => exact ⟨m + 1, FT4, G4, _, _, by omega, rfl, by go_num, HVC.out.same ((Same.refl _ _).alloc _)⟩
        · obtain rfl : m = 3 := by omega
          go_wp2_with fail
          go_ret
          exact ⟨by simp, HSI.out.trans' HVB2.out.sm (fun x hx => .inr (HLO2.out x (by simpa using hx)))⟩

set_option maxHeartbeats 8000000 in
set_option maxRecDepth 100000 in
theorem loops_false (hv : Vars w) (n : Int) (hn : in64 n) : Calls Tryz.prog 5 #[.int .i64 n, .bool false] w fun e w' => e = .returned (.bool true) ∧ Same [] w w' := by
  have HV := Lib.hid (fun W (hs : Same [] w W) => hv.frame hs (by simp))
  clear hv
  obtain ⟨i0, hi1, hz0, hz1, hz2⟩ := info_parts infoV_I
  have HI0 := Lib.hid (And.intro hi1 (And.intro hz0 (And.intro hz1 hz2)))
  clear hi1 hz0 hz1 hz2
  go_enter Tryz.func5, Tryz.ntmps5
  go_wp2_with fail
  refine (works_any (HV.out _ (Same.refl _ _))).mono ?_
  rintro e w1 ⟨rfl, hs1⟩
  have HS1 := Lib.hid hs1
  clear hs1
  go_wp2_with fail
  refine (make_two 1 0 (by decide) (by unfold in64; omega) (HV.out _ HS1.out)).mono ?_
  rintro e w2 ⟨rfl, rfl⟩
  go_upto_region 8 with fail
  obtain ⟨w2, hw2⟩ : ∃ w2, w2 = w1.alloc (.cells #[.int .u8 4, .int .i64 0, .int .u8 10, .int .i64 0] 53) := ⟨_, rfl⟩
  rw [← hw2]
  have hs2 : Same [] w1 w2 := by rw [hw2]; exact (Same.refl _ _).alloc _
  have hown : Ow w2 53 2 (.slice (some ⟨w1.heap.size, 0, none⟩) 2 2) 2 [.int .u8 4, .int .i64 0, .int .u8 10, .int .i64 0] := ⟨rfl, .inr ⟨w1.heap.size, 2, _, rfl, Nat.zero_le _, by rw [hw2]; exact heap_alloc_new w1 _, Nat.le_refl _, by decide, by simp, by simp⟩⟩
  have HOW := Lib.hid hown
  have HS2a := Lib.hid hs2
  have hzz : w1.heap.size < w2.heap.size := by rw [hw2]; simp
  clear hw2 hs2 hown
  go_wp2_with (at_builtin; refine wpList_append_lies _ rfl (.tmp 33) (.tmp 35) 54 rfl 0 53 i0 _ 2 16 Tryz.underlying54 HI0.out.1 HI0.out.2.1 HI0.out.2.2.1 HI0.out.2.2.2 rfl (by decide) (.slice (some ⟨w1.heap.size, 0, none⟩) 2 2) 2 [.int .u8 4, .int .i64 0, .int .u8 10, .int .i64 0] rfl (HOW.out.frame ((Same.refl [] w2).alloc _) (by simp)) _ 1 1 [.int .u8 12, .int .i64 0] rfl rfl (news2w _ _ _ _) (by intro u hu; simp at hu; rcases hu with rfl | rfl <;> rfl) (by omega) (by unfold maxLen; omega) (by omega) (Nat.zero_le _) _ rfl ?_)
  intro ga Ca w3 hown hgrow hat hlt
  have hsA : Same [w1.heap.size] w2 w3 := ((Same.refl [w1.heap.size] w2).alloc _).trans (Same.of_grown hgrow)
  have hri : RIs w3 (.slice (some ⟨ga, 0, none⟩) 3 Ca) (code1 false) := Ow.sq hown (fun i j hi hj => cellsI [⟨4, 0⟩, ⟨10, 0⟩, ⟨12, 0⟩] i j hi hj)
  have HRI := Lib.hid hri
  have HS2 := Lib.hid (HS1.out.trans (HS2a.out.trans' hsA (fun x hx => .inr (by rw [List.mem_singleton.1 hx]; exact Nat.le_refl _))))
  clear hown hgrow hat hlt hsA hri
  go_wp2_with fail
  obtain ⟨wa, hwa⟩ : ∃ wa, wa = w3.alloc (.cells #[.int .u8 6, .int .i64 1, .int .u8 5, .int .i64 0, .int .u8 7, .int .i64 0, .int .u8 4, .int .i64 0, .int .u8 10, .int .i64 0, .int .u8 12, .int .i64 0] 53) := ⟨_, rfl⟩
  rw [← hwa]
  have hza : wa.heap.size = w3.heap.size + 1 := by rw [hwa]; simp
  have hsa : Same [] w3 wa := by rw [hwa]; exact (Same.refl _ _).alloc _
  have hb0 : Blk wa w3.heap.size 53 [.int .u8 6, .int .i64 1, .int .u8 5, .int .i64 0, .int .u8 7, .int .i64 0, .int .u8 4, .int .i64 0, .int .u8 10, .int .i64 0, .int .u8 12, .int .i64 0] := by rw [hwa]; exact Blk.new _ _ _
  obtain ⟨wb, hwb⟩ : ∃ wb, wb = wa.alloc (.cells #[.int .i64 0, .slice (some ⟨w3.heap.size, 0, none⟩) 6 6, .int .i64 0, .slice (some ⟨ga, 0, none⟩) 3 Ca] 56) := ⟨_, rfl⟩
  rw [← hwb]
  have hsb : Same [] wa wb := by rw [hwb]; exact (Same.refl _ _).alloc _
  have hbp : Blk wb wa.heap.size 56 [.int .i64 0, .slice (some ⟨w3.heap.size, 0, none⟩) 6 6, .int .i64 0, .slice (some ⟨ga, 0, none⟩) 3 Ca] := by rw [hwb]; exact Blk.new _ _ _
  have hzb : wb.heap.size = wa.heap.size + 1 := by rw [hwb]; simp
  obtain ⟨wc, hwc⟩ : ∃ wc, wc = wb.alloc (.cells #[.string ⟨#[102]⟩] 9) := ⟨_, rfl⟩
  rw [← hwc]
  have hsc : Same [] wb wc := by rw [hwc]; exact (Same.refl _ _).alloc _
  have hbg : Blk wc wb.heap.size 9 [.string ⟨#[102]⟩] := by rw [hwc]; exact Blk.new _ _ _
  have hzc : wc.heap.size = wb.heap.size + 1 := by rw [hwc]; simp
  obtain ⟨wd, hwd⟩ : ∃ wd, wd = wc.alloc (.cells #[.slice none 0 0, .slice (some ⟨w3.heap.size + 1, 0, none⟩) 2 2, .slice (some ⟨w3.heap.size + 1 + 1, 0, none⟩) 1 1] 27) := ⟨_, rfl⟩
  rw [← hwd]
  have hsd : Same [] wc wd := by rw [hwd]; exact (Same.refl _ _).alloc _
  have hbc : Blk wd (w3.heap.size + 1 + 1 + 1) 27 [.slice none 0 0, .slice (some ⟨w3.heap.size + 1, 0, none⟩) 2 2, .slice (some ⟨w3.heap.size + 1 + 1, 0, none⟩) 1 1] := by rw [hwd]; exact Ck.blk_at' (by rw [hzc, hzb, hza])
  have hs2d : Same [] w3 wd := ((hsa.trans hsb).trans hsc).trans hsd
  have hr : RCoAt wd (.slice none 0 0) (.slice (some ⟨w3.heap.size + 1, 0, none⟩) 2 2) (.slice (some ⟨w3.heap.size + 1 + 1, 0, none⟩) 1 1) (loopC false) := by
    have e1 : wb.heap.size = w3.heap.size + 1 + 1 := by rw [hzb, hza]
    rw [← e1, ← hza]
    exact loop_read (hb0.frame ((hsb.trans hsc).trans hsd) (by simp)) (Sq.frame HRI.out hs2d) (hbp.frame (hsc.trans hsd) (by simp)) (hbg.frame hsd (by simp))
  have HRC := Lib.hid hr
  have HS3 := Lib.hid (HS2.out.trans hs2d)
  have HBC := Lib.hid hbc
  have hzd : w3.heap.size + 1 + 1 + 1 < wd.heap.size := hbc.lt
  have hzw : w.heap.size ≤ w3.heap.size := HS2.out.size
  have HZ := Lib.hid (And.intro hzd hzw)
  clear hwa hza hsa hb0 hwb hsb hbp hzb hwc hsc hbg hzc hwd hsd hbc hs2d hr HRI HS2 HS1 hzd hzw
  refine (new_any _ _ _ (loopC false) HRC.out (loop_w false) (HV.out _ HS3.out) 0 (mkW 1 0) (by unfold in64; omega)).mono ?_
  rintro e w4 ⟨hs4, hp⟩
  rw [if_pos (loop_e false)] at hp
  obtain ⟨T, FC, FT, rfl, ⟨M, cv, pv, gv, fv, sv, rv, kvs, hth⟩, hnew⟩ := hp
  have HS4 := Lib.hid (HS3.out.trans hs4)
  have HTH := Lib.hid hth
  have HNW := Lib.hid hnew
  have hb4 := HBC.out.frame hs4 (by simp)
  have c0 := hb4.cell 0
  have c1 := hb4.cell 1
  have c2 := hb4.cell 2
  have cz := hb4.lt
  simp only [List.getElem?_cons_zero, List.getElem?_cons_succ] at c0 c1 c2
  have HB4 := Lib.hid hb4
  have HZ4 := Lib.hid hs4.size
  clear hs4 hth hnew HRC hb4 HBC
  go_wp2_with fail
  refine (toy_any (HV.out _ HS4.out) (.slice none 0 0) (.slice (some ⟨w3.heap.size + 1, 0, none⟩) 2 2) (some ⟨w3.heap.size + 1 + 1, 0, none⟩) 1 1 ⟨_, _, _, rfl⟩ ⟨_, _, _, rfl⟩ (by decide) 0 9).mono ?_
  rintro e w6 ⟨H, G, rfl, ⟨gv6, ht6⟩, hG, hs6⟩
  have hsit : Sit ⟨T, M, cv, pv, gv, kvs, H, FC⟩ w6 (u0 false) v0 FT G := by
    have hth6 := HTH.out.frame0 hs6
    refine ⟨⟨⟨fv, sv, rv, hth6⟩, ⟨_, _, _, _, ht6⟩, fun b hb hm => ?_, fun b hb hm => ?_⟩, HV.out _ (HS4.out.trans hs6), fun b hb => ?_⟩
    · have h1 := hG b hb; have h2 := HTH.out.tl b hm; omega
    · have h1 := hG b hm; have h2 := HTH.out.cl b hb; omega
    · have h0 := (HV.out w (Same.refl _ _)).size
      have h9 := HS4.out.size
      have h8 := HS3.out.size
      rcases hb with hb | hb
      · have h1 := HNW.out b (.inr hb); omega
      · have h1 := hG b hb; omega
  have HV0 := Lib.hid (VB.open_ hsit)
  have HS6 := Lib.hid (HS4.out.trans hs6)
  have HLO : Hid (∀ b, b ∈ FT ∨ b ∈ G → wd.heap.size ≤ b) := Lib.hid (fun b hb => by
    rcases hb with hb | hb
    · exact HNW.out b (.inr hb)
    · have := hG b hb; have := HZ4.out; omega)
  have HB6 := Lib.hid (HB4.out.frame hs6 (by simp))
  have HCBN : Hid (w3.heap.size + 1 + 1 + 1 ∉ FT ++ G) := Lib.hid (fun hm => by
    have h1 := HLO.out (w3.heap.size + 1 + 1 + 1) (by simpa using hm)
    have := HZ.out.1
    omega)
  clear ht6 hG hs6 hsit HTH HNW HS4 HS3 HB4 HZ4 c0 c1 c2 cz
  go_wp2_with fail
  refine (pick_any n 300 hn (by decide) (by decide)).mono ?_
  rintro e w7 ⟨rfl, rfl⟩
  have hpl := pickN_lt n 300 (by decide)
  obtain ⟨N, hN⟩ : ∃ N, N = 200 + pickN n 300 := ⟨_, rfl⟩
  have hwr : IntKind.i64.wrap (200 + ((pickN n 300 : Nat) : Int)) = (N : Int) := by rw [IntKind.wrap_i64]; omega
  have hN1 : 200 ≤ N := by omega
  have hN2 : N < 500 := by omega
  clear hpl hN
  go_wp2_with fail
  obtain ⟨w8, hw8⟩ : ∃ w8, w8 = w6.alloc (.cells #[.int .i64 0, .int .u8 0, .int .i64 0, .int .i64 0, .int .u64 0, .int .u64 0, .slice none 0 0, .int .i64 0, .bool false, .int .i64 0] 44) := ⟨_, rfl⟩
  rw [← hw8]
  obtain ⟨LB, hLB⟩ : ∃ x, x = w6.heap.size := ⟨_, rfl⟩
  have hvb8 := HV0.out.box zeros hw8
  rw [← hLB] at hvb8 ⊢
  have HV8 := Lib.hid hvb8
  clear hw8 hLB hvb8 HV0 hwr
  go_loopg [16] N (fun gk i wr => ∃ (m : Nat) (th : Th) (t : Toy) (FT' G' : List Nat) (l : List Int) (v : Value) (lev : Ev) (LA : Option Addr) (LN LC : Nat), m ≤ N ∧ gk = N - m ∧ i = .int .i64 m ∧ Is false m th t ∧ VB ⟨T, M, cv, pv, gv, kvs, H, FC⟩ w6 wr th t FT G FT' G' l v [(LB, 44, evC lev (.slice LA LN LC))] ∧ (false = false → 193 ≤ m → lev.what = 17))
  case atStart => exact ⟨0, _, _, _, _, _, _, {}, none, 0, 0, Nat.zero_le _, rfl, rfl, .s0, HV8.out, fun _ h => by omega⟩
  case round =>
    obtain ⟨m, th, t, FT1, G1, l1, v1, lev, LA, LN, LC, hm, rfl, rfl, his, hvb, hlev⟩ := hrel
    have HVB := Lib.hid hvb
    have HLV := Lib.hid hlev
    clear hvb hlev HV8
    by_cases hlt : m < N
    · obtain ⟨ev, ls, th2, t2, his2, hstp, hw17, hw0⟩ := nxt his (by omega)
      have HW := Lib.hid (And.intro hw17 hw0)
      have HST := Lib.hid hstp
      clear hw17 hw0 hstp his
      unfold toyV at HST
      go_wp2_with fail
      refine (HST.out ⟨T, M, cv, pv, gv, kvs, H, FC⟩ _ _ _ HVB.out.sit).mono ?_
      rintro e w9 ⟨v, he, hlf⟩
      obtain ⟨A9, C9, rfl⟩ := hlf.form
      simp only [evC] at he
      subst he
      obtain ⟨FT2, G2, hvb⟩ := HVB.out.call hlf
      have HVC := Lib.hid hvb
      clear hlf hvb HVB HST
      go_upto_region 20 with fail
      obtain ⟨wx, hwx⟩ : ∃ wx, wx = w9.alloc (.cells #[.int .i64 0, .int .u8 ev.what, .int .i64 ev.cell, .int .i64 ev.field, .int .u64 ev.old, .int .u64 ev.new, .slice A9 ls.length C9, .int .i64 ev.other, .bool ev.yes, .int .i64 ev.err] 44) := ⟨_, rfl⟩
      rw [← hwx]
      have HVX := Lib.hid (HVC.out.box (evC ev (.slice A9 ls.length C9)) hwx)
      obtain ⟨XB, hXB⟩ : ∃ x, x = w9.heap.size := ⟨_, rfl⟩
      rw [← hXB] at HVX ⊢
      clear hwx HVC hXB
      obtain ⟨e0, e1, e2, e3, e4, e5, e6, e7, e8, e9, ez, ef⟩ := HVX.out.get (List.Mem.head _)
      obtain ⟨r0, r1, r2, r3, r4, r5, r6, r7, r8, r9, rz, rf⟩ := HVX.out.get (List.mem_cons_of_mem _ (List.Mem.head _))
      by_cases hz : ev.what = 0
      · have hz' : (ev.what != 0) = false := by simpa using hz
        go_wp2_with fail
        go_roundg (N - (m + 1))
        case measure => omega
        case rel =>
          refine ⟨m + 1, th2, t2, FT2, G2, _, _, lev, LA, LN, LC, by omega, rfl, by go_num, his2, HVX.out.less (by simp), fun hb h => ?_⟩
          rcases Nat.lt_or_ge m 193 with h1 | h1
          · have := HW.out.1 hb (by omega); omega
          · exact HLV.out hb h1
      · have hz' : (ev.what != 0) = true := by simpa using hz
        go_wp2_with fail
        have hl2 := (HVX.out.less (bs' := [(LB, 44, evC lev (.slice LA LN LC))]) (by simp)).laid (same10 (Same.refl _ wx) (.inl (by simp)) (.int .i64 0) (.int .u8 ev.what) (.int .i64 ev.cell) (.int .i64 ev.field) (.int .u64 ev.old) (.int .u64 ev.new) (.slice A9 ls.length C9) (.int .i64 ev.other) (.bool ev.yes) (.int .i64 ev.err)) (blk10 (HVX.out.bx _ (List.mem_cons_of_mem _ (List.Mem.head _))).1 _ _ _ _ _ _ _ _ _ _) (by simp)
        have HL2 := Lib.hid hl2
        clear hl2
        go_roundg (N - (m + 1))
        case measure => omega
        case rel =>
          refine ⟨m + 1, th2, t2, FT2, G2, _, _, ev, A9, ls.length, C9, by omega, rfl, by go_num, his2, HL2.out, fun hb h => ?_⟩
          rcases Nat.lt_or_ge m 193 with h1 | h1
          · exact HW.out.1 hb (by omega)
          · exact absurd (HW.out.2 hb h1) hz
    · obtain rfl : m = N := by omega
      have HTO := Lib.hid (his.stands hN1)
      have hlf := HVB.out.lf
      have hbc := HB6.out.frame HVB.out.sm HCBN.out
      have HBC := Lib.hid hbc
      clear hlf hbc his
      go_wp2_with fail
      obtain ⟨fv, sv, rv, q⟩ := HVB.out.sit.vt.th
      refine (ended_any q).mono ?_
      rintro e w9 ⟨he, hs9⟩
      have HV9 := Lib.hid (HVB.out.same hs9)
      have hb9 := HBC.out.frame hs9 (by simp)
      have HB9 := Lib.hid hb9
      obtain ⟨z1, z2, z3, z4⟩ := HTO.out.2 (by trivial)
      rw [z1, z2, z3] at he
      subst he
      have hl17 := HLV.out (by trivial) (by omega)
      have q17 : w9.cell? ⟨LB, 1, none⟩ = some (.int .u8 17) := by rw [← hl17]; exact (HV9.out.bx _ (List.Mem.head _)).1.cell 1
      have qz : LB < w9.heap.size := (HV9.out.bx _ (List.Mem.head _)).1.lt
      obtain ⟨hc6, hcz⟩ : w9.cell? ⟨H, 6, none⟩ = some (.int .i64 192) ∧ H < w9.heap.size := by
        obtain ⟨cc, gc, sc, hc, h2⟩ := HV9.out.sit.vt.toy
        exact ⟨by rw [← z4]; exact h2.b.cell 6, h2.b.lt⟩
      clear z1 z2 z3 z4 hl17 hs9 hb9 q HVB HLV HBC
      go_upto_region 25 with fail
      obtain ⟨wE, hwE⟩ : ∃ wE, wE = w9.alloc (.cells #[.bool true, .int .u64 0, .int .i64 181] 58) := ⟨_, rfl⟩
      rw [← hwE]
      have hsE : Same [] w9 wE := by rw [hwE]; exact (Same.refl _ _).alloc _
      have HVE := Lib.hid (HV9.out.same hsE)
      have hbE := HB9.out.frame hsE (by simp)
      have HBE := Lib.hid hbE
      have c0 := hbE.cell 0
      have c1 := hbE.cell 1
      have c2 := hbE.cell 2
      have cz := hbE.lt
      have cf := hbE.frozen
      have cz1 : w3.heap.size + 1 + 1 < wE.heap.size := by omega
      have cz2 : w3.heap.size + 1 < wE.heap.size := by omega
      have cz3 : w3.heap.size < wE.heap.size := by omega
      simp only [List.getElem?_cons_zero, List.getElem?_cons_succ] at c0 c1 c2
      clear hwE hsE hbE HV9 HB9
      go_wp2_with fail
      obtain ⟨wF, hwF⟩ : ∃ wF, wF = ((wE.setCell ⟨w3.heap.size + 1 + 1 + 1, 0, none⟩ (.slice none 0 0)).setCell ⟨w3.heap.size + 1 + 1 + 1, 1, none⟩ (.slice (some ⟨wE.heap.size + 1, 0, none⟩) 1 1)).setCell ⟨w3.heap.size + 1 + 1 + 1, 2, none⟩ (.slice none 0 0) := ⟨_, rfl⟩
      rw [← hwF]
      have hsF : Same [w3.heap.size + 1 + 1 + 1] wE wF := by rw [hwF]; exact (((Same.refl _ wE).setCell (.inl (by simp)) _).setCell (.inl (by simp)) _).setCell (.inl (by simp)) _
      have hzF : wF.heap.size = wE.heap.size := by rw [hwF]; simp
      obtain ⟨wG, hwG⟩ : ∃ wG, wG = wF.alloc (.cells #[.int .u8 8, .int .i64 0] 53) := ⟨_, rfl⟩
      rw [← hwG]
      have hsG : Same [] wF wG := by rw [hwG]; exact (Same.refl _ _).alloc _
      have hbI : Blk wG wE.heap.size 53 [.int .u8 8, .int .i64 0] := by rw [hwG]; exact Ck.blk_at' hzF.symm
      have hzG : wG.heap.size = wE.heap.size + 1 := by rw [hwG, ← hzF]; simp
      obtain ⟨wH, hwH⟩ : ∃ wH, wH = wG.alloc (.cells #[.int .i64 0, .slice (some ⟨wE.heap.size, 0, none⟩) 1 1] 56) := ⟨_, rfl⟩
      rw [← hwH]
      have hsH : Same [] wG wH := by rw [hwH]; exact (Same.refl _ _).alloc _
      have hbP : Blk wH (wE.heap.size + 1) 56 [.int .i64 0, .slice (some ⟨wE.heap.size, 0, none⟩) 1 1] := by rw [hwH]; exact Ck.blk_at' hzG.symm
      have hr2 := jump_read (hbI.frame hsH (by simp)) hbP
      have hwd : w.heap.size ≤ wd.heap.size := by have h1 := HZ.out.1; have h2 := HZ.out.2; omega
      have hSE : Same [] w wE := HS6.out.trans' HVE.out.sm (fun x hx => .inr (by have := HLO.out x (by simpa using hx); omega))
      have hSF : Same [] w wF := hSE.trans' hsF (fun x hx => .inr (by rw [List.mem_singleton.1 hx]; have h2 := HZ.out.2; omega))
      have hSH : Same [] w wH := (hSF.trans hsG).trans hsH
      have hCG : ∀ x ∈ G1, x ∉ [w3.heap.size + 1 + 1 + 1] := fun x hx hm => by
        have e := List.mem_singleton.1 hm
        subst e
        have hlt6 := HB6.out.lt
        rcases HVE.out.sub _ (.inr hx) with h | h | h
        · exact HCBN.out (List.mem_append_left _ h)
        · exact HCBN.out (List.mem_append_right _ h)
        · omega
      obtain ⟨cc, gc, sc, hc, htoyE⟩ := HVE.out.sit.vt.toy
      have HTOY := Lib.hid (((htoyE.frame hsF hCG).frame0 hsG).frame0 hsH)
      have HSH := Lib.hid hSH
      have HG1 := Lib.hid (fun x (hx : x ∈ G1) => And.intro (htoyE.gl x hx) (HVE.out.sit.low x (.inr hx)))
      have HGW : Hid (∀ x ∈ G1, w.heap.size ≤ x) := Lib.hid (fun x hx => by
        rcases HVE.out.sub x (.inr hx) with h | h | h
        · have := HLO.out x (.inl h); omega
        · have := HLO.out x (.inr h); omega
        · have := HS6.out.size; omega)
      have HZH : Hid (wE.heap.size ≤ wH.heap.size) := Lib.hid (by have := hsH.size; omega)
      have HR2 := Lib.hid hr2
      clear hwF hsF hzF hwG hsG hbI hzG hwH hsH hbP hr2 hwd hSE hSF hSH hCG htoyE c0 c1 c2 cz cf cz1 cz2 cz3
      refine (new_any _ _ _ jumpC HR2.out jump_w (HV.out _ HSH.out) 0 (mkW 1 0) (by unfold in64; omega)).mono ?_
      rintro e wI ⟨hsI, hp⟩
      rw [if_pos jump_e] at hp
      obtain ⟨T2, FC2, FT2, rfl, ⟨M2, cv2, pv2, gv2, fv2, sv2, rv2, kvs2, hth2⟩, hnew2⟩ := hp
      have hsit2 : Sit ⟨T2, M2, cv2, pv2, gv2, kvs2, H, FC2⟩ wI jth t FT2 G1 := by
        refine ⟨⟨⟨fv2, sv2, rv2, hth2⟩, ⟨_, _, _, _, HTOY.out.frame0 hsI⟩, fun b hb hm => ?_, fun b hb hm => ?_⟩, HV.out _ (HSH.out.trans hsI), fun b hb => ?_⟩
        · have h1 := (HG1.out b hb).1; have h2 := hnew2 b (.inr hm); have := HZH.out; omega
        · have h1 := (HG1.out b hm).1; have h2 := hnew2 b (.inl hb); have := HZH.out; omega
        · rcases hb with hb | hb
          · have h1 := hnew2 b (.inr hb); have h2 := (HV.out w (Same.refl _ _)).size; have := HSH.out.size; omega
          · exact (HG1.out b hb).2
      have HW2 := Lib.hid (VB.open_ hsit2)
      have HSI := Lib.hid (HSH.out.trans hsI)
      have HLO2 : Hid (∀ b, b ∈ FT2 ∨ b ∈ G1 → w.heap.size ≤ b) := Lib.hid (fun b hb => by
        rcases hb with hb | hb
        · have h1 := hnew2 b (.inr hb); have := HSH.out.size; omega
        · exact HGW.out b hb)
      clear hsI hth2 hnew2 hsit2 HTOY HSH HG1 HGW HZH HR2 HVE HBE
      go_wp2_with fail
      go_loopg [19] 3 (fun gk i wr => ∃ (m : Nat) (FT' G' : List Nat) (l : List Int) (v : Value), m ≤ 3 ∧ gk = 3 - m ∧ i = .int .i64 m ∧ VB ⟨T2, M2, cv2, pv2, gv2, kvs2, H, FC2⟩ wI wr jth t FT2 G1 FT' G' l v [])
      case atStart => exact ⟨0, _, _, _, _, by decide, rfl, rfl, HW2.out⟩
      case round =>
        obtain ⟨m, FT3, G3, l3, v3, hm, rfl, rfl, hvb⟩ := hrel
        have HVB2 := Lib.hid hvb
        clear hvb HW2
        by_cases hlt : m < 3
        · have HST : Hid (∀ (k : Kx) (w : World) (FT G : List Nat) (t : Toy), Sit k w jth t FT G → Calls Tryz.prog 13 #[.pointer (some ⟨k.T, 0, none⟩), toyV k.H] w fun e w' => ∃ v, e = .returned (.agg (evC { what := 15 } v).toArray) ∧ Lf k w FT G jth t [] v w') := Lib.hid (fun k w FT G t h => step_jump h)
          unfold toyV at HST
          go_wp2_with fail
          refine (HST.out ⟨T2, M2, cv2, pv2, gv2, kvs2, H, FC2⟩ _ _ _ _ HVB2.out.sit).mono ?_
          rintro e w9 ⟨v, he, hlf⟩
          obtain ⟨A9, C9, rfl⟩ := hlf.form
          simp only [evC] at he
          subst he
          obtain ⟨FT4, G4, hvb⟩ := HVB2.out.call hlf
          have HVC := Lib.hid hvb
          clear hlf hvb HVB2 HST
          go_wp2_with fail
          go_roundg (3 - (m + 1))
          case measure => omega
          case rel => exact ⟨m + 1, FT4, G4, _, _, by omega, rfl, by go_num, HVC.out.same ((Same.refl _ _).alloc _)⟩
        · obtain rfl : m = 3 := by omega
          go_wp2_with fail
          go_ret
          exact ⟨by simp, HSI.out.trans' HVB2.out.sm (fun x hx => .inr (HLO2.out x (by simpa using hx)))⟩
end Vm
end Go.Proofs.YtkepcdbogeineaaGreatDoor
