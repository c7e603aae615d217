/- Layer 8, the law's works: true. -/
import Derived.Test.YticaipedpcmhfaaGreatDoorCkX2
namespace Go.Proofs.YticaipedpcmhfaaGreatDoor
open Go.RowKit Hp
namespace Ck
variable {w w' : World}

theorem ex_chk {W : World} {b : Nat} (hv : Vars W) (h : ExAt W b 2) : Calls Tryz.prog 13 #[.agg #[.slice (some ⟨b + 1, 0, none⟩) 2 2, .slice (some ⟨b + 1 + 1 + 1 + 1 + 1, 0, none⟩) 2 2, .slice (some ⟨b + 1 + 1, 0, none⟩) 1 1]] W fun e w' => e = .returned (.tuple #[.int .i64 0, .int .i64 0, .int .i64 0]) ∧ Same [] W w' := by
  have := check_any (exV b) exC h.whole exC_wco hv
  rw [ex_check] at this
  exact this
theorem ex_chk1 {W : World} {b : Nat} (hv : Vars W) (h : ExAt W b 1) : Calls Tryz.prog 13 #[.agg #[.slice (some ⟨b + 1, 0, none⟩) 2 2, .slice (some ⟨b + 1 + 1 + 1 + 1 + 1, 0, none⟩) 2 2, .slice (some ⟨b + 1 + 1, 0, none⟩) 1 1]] W fun e w' => e = .returned (.tuple #[.int .i64 80, .int .i64 1, .int .i64 0]) ∧ Same [] W w' := by
  have := check_any (exV b) exD h.short exD_wco hv
  rw [ex_short] at this
  exact this
theorem ex_txt {W : World} {b : Nat} (hv : Vars W) (h : ExAt W b 2) : Calls Tryz.prog 14 #[.agg #[.slice (some ⟨b + 1, 0, none⟩) 2 2, .slice (some ⟨b + 1 + 1 + 1 + 1 + 1, 0, none⟩) 2 2, .slice (some ⟨b + 1 + 1, 0, none⟩) 1 1]] W fun e w' => e = .returned (.tuple #[.string ⟨#[99, 111, 110, 115, 116, 32, 105, 110, 116, 32, 53, 10, 99, 111, 110, 115, 116, 32, 110, 105, 108, 10, 103, 108, 111, 98, 97, 108, 32, 120, 10, 112, 114, 111, 99, 32, 48, 10, 32, 99, 111, 110, 115, 116, 32, 48, 10, 32, 115, 101, 116, 103, 108, 111, 98, 97, 108, 32, 48, 10, 32, 114, 101, 116, 117, 114, 110, 10, 112, 114, 111, 99, 32, 49, 10, 32, 118, 97, 114, 32, 48, 10, 32, 114, 101, 116, 117, 114, 110, 10]⟩, .int .i64 0]) ∧ Same [] W w' := by
  have := text_any (exV b) exC h.whole exC_wco hv
  rw [ex_text] at this
  exact this
theorem ex_par {W : World} (hv : Vars W) : Calls Tryz.prog 18 #[.string ⟨#[99, 111, 110, 115, 116, 32, 105, 110, 116, 32, 53, 10, 99, 111, 110, 115, 116, 32, 110, 105, 108, 10, 103, 108, 111, 98, 97, 108, 32, 120, 10, 112, 114, 111, 99, 32, 48, 10, 32, 99, 111, 110, 115, 116, 32, 48, 10, 32, 115, 101, 116, 103, 108, 111, 98, 97, 108, 32, 48, 10, 32, 114, 101, 116, 117, 114, 110, 10, 112, 114, 111, 99, 32, 49, 10, 32, 118, 97, 114, 32, 48, 10, 32, 114, 101, 116, 117, 114, 110, 10]⟩] W fun e w' => ∃ cv pv gv kvs F, e = .returned (.tuple #[.agg #[cv, pv, gv], .int .i64 0, .int .i64 0]) ∧ OCo w' cv pv gv kvs exC F ∧ Same [] W w' := by
  refine (parse_any ⟨#[99, 111, 110, 115, 116, 32, 105, 110, 116, 32, 53, 10, 99, 111, 110, 115, 116, 32, 110, 105, 108, 10, 103, 108, 111, 98, 97, 108, 32, 120, 10, 112, 114, 111, 99, 32, 48, 10, 32, 99, 111, 110, 115, 116, 32, 48, 10, 32, 115, 101, 116, 103, 108, 111, 98, 97, 108, 32, 48, 10, 32, 114, 101, 116, 117, 114, 110, 10, 112, 114, 111, 99, 32, 49, 10, 32, 118, 97, 114, 32, 48, 10, 32, 114, 101, 116, 117, 114, 110, 10]⟩ (by decide) hv).mono ?_
  rintro e w' ⟨cv, pv, gv, kvs, F, rfl, h1, _, h3⟩
  have e1 : Cd.parseT Cd.sym (ByteArray.mk #[99, 111, 110, 115, 116, 32, 105, 110, 116, 32, 53, 10, 99, 111, 110, 115, 116, 32, 110, 105, 108, 10, 103, 108, 111, 98, 97, 108, 32, 120, 10, 112, 114, 111, 99, 32, 48, 10, 32, 99, 111, 110, 115, 116, 32, 48, 10, 32, 115, 101, 116, 103, 108, 111, 98, 97, 108, 32, 48, 10, 32, 114, 101, 116, 117, 114, 110, 10, 112, 114, 111, 99, 32, 49, 10, 32, 118, 97, 114, 32, 48, 10, 32, 114, 101, 116, 117, 114, 110, 10]).data.toList = (exC, 0, 0) := ex_parse
  rw [e1] at h1 ⊢
  exact ⟨cv, pv, gv, kvs, F, rfl, h1, h3⟩
theorem ex_par1 {W : World} (hv : Vars W) : Calls Tryz.prog 18 #[.string ⟨#[99, 111, 110, 115, 116, 32, 105, 110, 116, 32, 53, 10, 99, 111, 110, 115, 116, 32, 110, 105, 108, 10, 103, 108, 111, 98, 97, 108, 32, 120, 10, 112, 114, 111, 99, 32, 48, 10, 32, 99, 111, 110, 115, 116, 32, 48, 10, 32, 115, 101, 116, 103, 108, 111, 98, 97, 108, 32, 48, 10, 32, 114, 101, 116, 117, 114, 110, 10, 112, 114, 111, 99, 32, 49, 10, 32, 118, 97, 114, 32, 48, 10, 32, 114, 101, 116, 117, 114, 110]⟩] W fun e w' => ∃ cv pv gv, e = .returned (.tuple #[.agg #[cv, pv, gv], .int .i64 81, .int .i64 10]) ∧ (∃ A C, cv = .slice A 0 C) ∧ (∃ A C, pv = .slice A 0 C) ∧ (∃ A C, gv = .slice A 0 C) ∧ Same [] W w' := by
  refine (parse_any ⟨#[99, 111, 110, 115, 116, 32, 105, 110, 116, 32, 53, 10, 99, 111, 110, 115, 116, 32, 110, 105, 108, 10, 103, 108, 111, 98, 97, 108, 32, 120, 10, 112, 114, 111, 99, 32, 48, 10, 32, 99, 111, 110, 115, 116, 32, 48, 10, 32, 115, 101, 116, 103, 108, 111, 98, 97, 108, 32, 48, 10, 32, 114, 101, 116, 117, 114, 110, 10, 112, 114, 111, 99, 32, 49, 10, 32, 118, 97, 114, 32, 48, 10, 32, 114, 101, 116, 117, 114, 110]⟩ (by decide) hv).mono ?_
  rintro e w' ⟨cv, pv, gv, kvs, F, rfl, h1, _, h3⟩
  have e1 : Cd.parseT Cd.sym (ByteArray.mk #[99, 111, 110, 115, 116, 32, 105, 110, 116, 32, 53, 10, 99, 111, 110, 115, 116, 32, 110, 105, 108, 10, 103, 108, 111, 98, 97, 108, 32, 120, 10, 112, 114, 111, 99, 32, 48, 10, 32, 99, 111, 110, 115, 116, 32, 48, 10, 32, 115, 101, 116, 103, 108, 111, 98, 97, 108, 32, 48, 10, 32, 114, 101, 116, 117, 114, 110, 10, 112, 114, 111, 99, 32, 49, 10, 32, 118, 97, 114, 32, 48, 10, 32, 114, 101, 116, 117, 114, 110]).data.toList = (Cd.none_, 81, 10) := ex_cut
  rw [e1] at h1 ⊢
  exact ⟨cv, pv, gv, rfl, h1.cr.lit, h1.pr.lit, h1.gr.lit, h3⟩

theorem ExAt.cut {W : World} {b : Nat} (h : ExAt W b 2) : ExAt (W.setCell ⟨b + 1 + 1 + 1 + 1 + 1, 3, none⟩ (.slice (some ⟨b + 1 + 1 + 1 + 1, 0, none⟩) 1 2)) b 1 := by
  have hs : Same [b + 1 + 1 + 1 + 1 + 1] W (W.setCell ⟨b + 1 + 1 + 1 + 1 + 1, 3, none⟩ (.slice (some ⟨b + 1 + 1 + 1 + 1, 0, none⟩) 1 2)) := (Same.refl _ _).setCell (by simp) _
  exact ⟨h.cs.frame hs (by simp), h.gs.frame hs (by simp), h.k1.frame hs (by simp), h.k2.frame hs (by simp), h.ps.set 3 _⟩

set_option maxHeartbeats 8000000 in
set_option maxRecDepth 100000 in
theorem works_any (hv : Vars w) : Calls Tryz.prog 8 #[] w fun e w' => e = .returned (.bool true) ∧ Same [] w w' := by
  have HV := Lib.hid hv
  have hsz := hv.size
  clear hv
  go_enter Tryz.func8, Tryz.ntmps8
  go_wp2_with fail
  refine (example_any HV.out).mono ?_
  rintro e w1 ⟨rfl, hx1, hs1⟩
  have HX1 := Lib.hid hx1
  have HS1 := Lib.hid hs1
  have hz1 := hs1.size
  clear hx1 hs1
  unfold exV
  go_wp2_with fail
  refine (ex_chk (HV.out.frame (HS1.out.alloc _) (by simp)) (HX1.out.frame ((Same.refl [] w1).alloc _))).mono ?_
  rintro e w2 ⟨rfl, hs2⟩
  have HBX : Hid (∀ W, Same [] (w1.alloc (.cells #[.slice (some ⟨w.heap.size + 1, 0, none⟩) 2 2, .slice (some ⟨w.heap.size + 1 + 1 + 1 + 1 + 1, 0, none⟩) 2 2, .slice (some ⟨w.heap.size + 1 + 1, 0, none⟩) 1 1] 26)) W → Blk W w1.heap.size 26 [.slice (some ⟨w.heap.size + 1, 0, none⟩) 2 2, .slice (some ⟨w.heap.size + 1 + 1 + 1 + 1 + 1, 0, none⟩) 2 2, .slice (some ⟨w.heap.size + 1 + 1, 0, none⟩) 1 1] ∧ ExAt W w.heap.size 2 ∧ Same [] w W ∧ Vars W ∧ w1.heap.size < W.heap.size) := Lib.hid (fun W hs => by
    have h1 : Same [] w1 W := ((Same.refl [] w1).alloc _).trans hs
    have h2 := HS1.out.trans h1
    have h3 := (Blk.new w1 26 [.slice (some ⟨w.heap.size + 1, 0, none⟩) 2 2, .slice (some ⟨w.heap.size + 1 + 1 + 1 + 1 + 1, 0, none⟩) 2 2, .slice (some ⟨w.heap.size + 1 + 1, 0, none⟩) 1 1]).frame hs (by simp)
    exact ⟨h3, HX1.out.frame h1, h2, HV.out.frame h2 (by simp), h3.lt⟩)
  have HS2 := Lib.hid hs2
  obtain ⟨hb, hx, hsw, hv, hz⟩ := HBX.out w2 hs2
  have p0 := hb.cell 0
  have p1 := hb.cell 1
  have p2 := hb.cell 2
  have HT := Lib.hid (ex_txt hv hx)
  clear hb hx hsw hv hs2
  go_wp2_with fail
  refine HT.out.mono ?_
  rintro e w3 ⟨rfl, hs3⟩
  have HS3 := Lib.hid (HS2.out.trans hs3)
  obtain ⟨hb, hx, hsw, hv, hz3⟩ := HBX.out w3 HS3.out
  have HP := Lib.hid (ex_par hv)
  clear hb hx hsw hv hs3 HT p0 p1 p2
  go_wp2_with fail
  refine HP.out.mono ?_
  rintro e w4 ⟨cv, pv, gv, kvs, F, rfl, ho4, hs4⟩
  obtain ⟨A1, C1, hcv⟩ := ho4.cr.lit
  obtain ⟨A2, C2, hpv⟩ := ho4.pr.lit
  obtain ⟨A3, C3, hgv⟩ := ho4.gr.lit
  subst hcv hpv hgv
  have HS4 := Lib.hid (HS3.out.trans hs4)
  obtain ⟨hb, hx, hsw, hv, hz4⟩ := HBX.out w4 HS4.out
  have HO4 := Lib.hid ho4
  have p0 := hb.cell 0
  have p1 := hb.cell 1
  have p2 := hb.cell 2
  have HX4 := Lib.hid hx
  clear hb hx hsw hv hs4 HP ho4
  go_wp2_with fail
  refine (same_any (exV w.heap.size) _ exC exC (HX4.out.frame ((Same.refl [] w4).alloc _)).whole ⟨_, _, _, rfl, (HO4.out.frame ((Same.refl [] w4).alloc _) (by simp)).read⟩).mono ?_
  rintro e w5 ⟨rfl, hs5⟩
  rw [decide_eq_true (rfl : exC = exC)]
  have HS5 := Lib.hid (HS4.out.trans (((Same.refl [] w4).alloc _).trans hs5))
  obtain ⟨hb, hx, hsw, hv, hz5⟩ := HBX.out w5 HS5.out
  have HP := Lib.hid (ex_par1 hv)
  clear hb hx hsw hv hs5 p0 p1 p2
  go_wp2_with fail
  refine HP.out.mono ?_
  rintro e w6 ⟨cv6, pv6, gv6, rfl, ⟨B1, D1, hcv⟩, ⟨B2, D2, hpv⟩, ⟨B3, D3, hgv⟩, hs6⟩
  subst hcv hpv hgv
  have HS6 := Lib.hid (HS5.out.trans hs6)
  obtain ⟨hb, hx, hsw, hv, hz6⟩ := HBX.out w6 HS6.out
  have p0 := hb.cell 0
  have p1 := hb.cell 1
  have p2 := hb.cell 2
  have r3 := hx.ps.cell 3
  have rz := hx.ps.lt
  have rf := hx.ps.frozen
  have HX6 := Lib.hid hx
  have HW6 := Lib.hid hsw
  clear hb hx hsw hv hs6 HP
  have hbn : w.heap.size + 1 + 1 + 1 + 1 + 1 < w1.heap.size := HX1.out.ps.lt
  have hbne : ¬ w1.heap.size = w.heap.size + 1 + 1 + 1 + 1 + 1 := by omega
  have HX7 : Hid (ExAt (w6.setCell ⟨w.heap.size + 1 + 1 + 1 + 1 + 1, 3, none⟩ (.slice (some ⟨w.heap.size + 1 + 1 + 1 + 1, 0, none⟩) 1 2)) w.heap.size 1) := Lib.hid HX6.out.cut
  have HW7 : Hid (Same [] w (w6.setCell ⟨w.heap.size + 1 + 1 + 1 + 1 + 1, 3, none⟩ (.slice (some ⟨w.heap.size + 1 + 1 + 1 + 1, 0, none⟩) 1 2))) := Lib.hid (HW6.out.setCell (.inr (by dsimp only; omega)) _)
  go_upto_region 7 with fail
  go_region
  all_goals
    go_wp2_with fail
  all_goals
    refine (ex_chk1 (HV.out.frame ((HW7.out.alloc _).drew) (by simp)) (HX7.out.frame ((Same.refl [] _).alloc _).drew)).mono ?_
    rintro e w8 ⟨rfl, hs8⟩
    have HW8 := Lib.hid (((HW7.out.alloc _).drew).trans hs8)
    clear hs8
    go_wp2_with fail
    go_ret
    exact ⟨rfl, HW8.out⟩
end Ck
end Go.Proofs.YticaipedpcmhfaaGreatDoor
