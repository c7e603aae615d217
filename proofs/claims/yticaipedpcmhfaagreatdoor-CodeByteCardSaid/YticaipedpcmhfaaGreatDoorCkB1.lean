/- Layer 8, the law CodeBack: its walk. -/
import Derived.Test.YticaipedpcmhfaaGreatDoorCkX3
import Derived.Test.YticaipedpcmhfaaGreatDoorCkO2
import Derived.Test.YticaipedpcmhfaaGreatDoorCkU2
import Derived.Test.YticaipedpcmhfaaGreatDoorCkU3
import Derived.Deep.DeepCutAuto
namespace Go.Proofs.YticaipedpcmhfaaGreatDoor
open Go.RowKit Hp
namespace Ck
variable {w w' : World}

theorem textR_ok {c : Cd.Co} (h : (Cd.check Cd.sym c).1 = 0) : textR c = (Cd.textT c, 0) := by unfold textR; rw [if_pos h]
theorem textR_no {c : Cd.Co} (h : (Cd.check Cd.sym c).1 ≠ 0) : textR c = ([], (Cd.check Cd.sym c).1) := by unfold textR; rw [if_neg h]

/-- What Parse makes of the text of code. -/
theorem par_text {c : Cd.Co} (hw : WCo c) (hc : (Cd.check Cd.sym c).1 = 0) (hv : Vars w) : Calls Tryz.prog 18 #[.string (bs (Cd.textT c))] w fun e w' => ∃ A1 C1 A2 C2 A3 C3, e = .returned (.tuple #[.agg #[.slice A1 c.consts.length C1, .slice A2 c.procs.length C2, .slice A3 c.globals.length C3], .int .i64 0, .int .i64 0]) ∧ RCoAt w' (.slice A1 c.consts.length C1) (.slice A2 c.procs.length C2) (.slice A3 c.globals.length C3) c ∧ Same [] w w' := by
  refine (parse_any (bs (Cd.textT c)) (by rw [bs_size]; exact textT_len (Cd.goodC_of hc) hw) hv).mono ?_
  rintro e w' ⟨cv, pv, gv, kvs, F, rfl, h1, _, h3⟩
  rw [bs_list, Cd.parse_text hw.consts hc] at h1 ⊢
  obtain ⟨A1, C1, rfl⟩ := h1.cr.lit
  obtain ⟨A2, C2, rfl⟩ := h1.pr.lit
  obtain ⟨A3, C3, rfl⟩ := h1.gr.lit
  exact ⟨A1, C1, A2, C2, A3, C3, rfl, h1.read, h3⟩
/-- What Parse makes of any text. -/
theorem par_any (s : ByteArray) (hs : s.size ≤ 100000000) (hv : Vars w) : Calls Tryz.prog 18 #[.string s] w fun e w' => ∃ (d : Cd.Co) (er : Int) (n : Nat) (A1 : Option Addr) (C1 : Nat) (A2 : Option Addr) (C2 : Nat) (A3 : Option Addr) (C3 : Nat), Cd.parseT Cd.sym s.data.toList = (d, er, n) ∧ e = .returned (.tuple #[.agg #[.slice A1 d.consts.length C1, .slice A2 d.procs.length C2, .slice A3 d.globals.length C3], .int .i64 er, .int .i64 n]) ∧ RCoAt w' (.slice A1 d.consts.length C1) (.slice A2 d.procs.length C2) (.slice A3 d.globals.length C3) d ∧ WCo d ∧ Same [] w w' := by
  refine (parse_any s hs hv).mono ?_
  rintro e w' ⟨cv, pv, gv, kvs, F, rfl, h1, _, h3⟩
  rcases hp : Cd.parseT Cd.sym s.data.toList with ⟨d, er, n⟩
  rw [hp] at h1
  obtain ⟨A1, C1, rfl⟩ := h1.cr.lit
  obtain ⟨A2, C2, rfl⟩ := h1.pr.lit
  obtain ⟨A3, C3, rfl⟩ := h1.gr.lit
  exact ⟨d, er, n, A1, C1, A2, C2, A3, C3, rfl, rfl, h1.read, parse_wco (by rw [← list_size s rfl]; exact hs) hp, h3⟩

set_option maxHeartbeats 8000000 in
set_option maxRecDepth 100000 in
theorem back_any (cv pv gv : Value) (c : Cd.Co) (hr : RCoAt w cv pv gv c) (hw : WCo c) (hl : Lens c) (hv : Vars w) (s : ByteArray) (hs : s.size ≤ 140737488351232) : Calls Tryz.prog 6 #[.agg #[cv, pv, gv], .string s] w fun e w' => e = .returned (.bool true) ∧ Same [] w w' := by
  obtain ⟨A1, c1, rfl, hc1, hc1'⟩ := hr.consts.form
  obtain ⟨kv, hps, hks⟩ := hr.procs
  obtain ⟨A2, c2, rfl, hc2, hc2'⟩ := hps.form
  obtain ⟨A3, c3, rfl, hc3, hc3'⟩ := hr.globals.form
  have HR := Lib.hid hr
  have HW := Lib.hid hw
  have HV := Lib.hid hv
  have HL := Lib.hid hl
  unfold maxLen at hc1' hc2' hc3'
  clear hr hw hv hl hps hks
  go_enter Tryz.func6, Tryz.ntmps6
  go_wp2_with fail
  refine (works_any (HV.out.frame ((Same.refl [] _).alloc _) (by simp))).mono ?_
  rintro e w1 ⟨rfl, hs1⟩
  have hb1 : Blk w1 w.heap.size 26 [.slice A1 c.consts.length c1, .slice A2 c.procs.length c2, .slice A3 c.globals.length c3] := Blk.frame (Blk.new w _ _) hs1 (by simp)
  have HS1 := Lib.hid (((Same.refl [] w).alloc _).trans hs1)
  have p0 := hb1.cell 0
  have p1 := hb1.cell 1
  have p2 := hb1.cell 2
  have HB1 := Lib.hid hb1
  clear hb1 hs1
  have hofz := ofCn_le c HL.out
  go_wp2_with fail
  refine (ofCode_any _ c ⟨_, _, _, rfl, HR.out.frame HS1.out⟩ HL.out).mono ?_
  rintro e w2 ⟨rfl, hs2⟩
  have HS2 := Lib.hid (HS1.out.trans hs2)
  have hb2 := HB1.out.frame hs2 (by simp)
  have p0 := hb2.cell 0
  have p1 := hb2.cell 1
  have p2 := hb2.cell 2
  have HB2 := Lib.hid hb2
  clear hb2 hs2
  by_cases hmuch : 8388608 < ofCn c + s.size
  · go_wp2_with fail
    go_ret
    exact ⟨rfl, HS2.out⟩
  have hT : Hid (∀ W, Same [] w W → Calls Tryz.prog 14 #[.agg #[.slice A1 c.consts.length c1, .slice A2 c.procs.length c2, .slice A3 c.globals.length c3]] W (Txt (textR c) W)) := Lib.hid (fun W hs => text_any _ c ⟨_, _, _, rfl, HR.out.frame hs⟩ HW.out (HV.out.frame hs (by simp)))
  go_wp2_with fail
  refine (hT.out _ HS2.out).mono ?_
  rintro e w3 ⟨rfl, hs3⟩
  have HS3 := Lib.hid (HS2.out.trans hs3)
  have hb3 := HB2.out.frame hs3 (by simp)
  have p0 := hb3.cell 0
  have p1 := hb3.cell 1
  have p2 := hb3.cell 2
  have HB3 := Lib.hid hb3
  clear hb3 hs3 hT
  obtain ⟨T, hT⟩ : ∃ T, T = (textR c).1 := ⟨_, rfl⟩
  obtain ⟨E, hE⟩ : ∃ E, E = (textR c).2 := ⟨_, rfl⟩
  rw [← hT, ← hE]
  have HT := Lib.hid hT
  have HE := Lib.hid hE
  clear hT hE
  go_upto_if 32 with fail
  go_cut [] (fun wx => Same [] w3 wx)
  case first =>
    by_cases hok : (Cd.check Cd.sym c).1 = 0
    · have h1 := textR_ok hok
      obtain rfl : E = 0 := by rw [HE.out, h1]
      obtain rfl : T = Cd.textT c := by rw [HT.out, h1]
      have HOK := Lib.hid hok
      clear h1 hok
      go_wp2_with fail
      refine (par_text HW.out HOK.out (HV.out.frame HS3.out (by simp))).mono ?_
      rintro e w4 ⟨D1, d1, D2, d2, D3, d3, rfl, hrd, hs4⟩
      have hb4 := HB3.out.frame hs4 (by simp)
      have p0 := hb4.cell 0
      have p1 := hb4.cell 1
      have p2 := hb4.cell 2
      have z4 := hb4.lt
      have HRD := Lib.hid hrd
      have HS4 := Lib.hid hs4
      clear hb4 hrd hs4
      go_wp2_with fail
      refine (s0C_any _ _ c c ⟨_, _, _, rfl, HR.out.frame (HS3.out.trans (HS4.out.alloc _))⟩ ⟨_, _, _, rfl, HRD.out.frame ((Same.refl [] _).alloc _)⟩).mono ?_
      rintro e w5 ⟨rfl, hs5⟩
      rw [decide_eq_true (rfl : c = c)]
      have HS5 := Lib.hid ((HS4.out.alloc _).trans hs5)
      clear hs5
      go_wp2_with fail
      go_meet
      exact HS5.out
    · have h1 := textR_no hok
      have hE0 : (E == 0) = false := by rw [HE.out, h1, beq_eq_false_iff_ne]; exact hok
      have hE1 : ¬ E = 0 := by rw [HE.out, h1]; exact hok
      clear h1 hok
      go_wp2_with fail
      go_meet
      exact Same.refl _ _
  case rest =>
    have HS4 := Lib.hid (HS3.out.trans hcut)
    clear hcut HT HE p0 p1 p2
    go_wp2_with fail
    refine (par_any s (by omega) (HV.out.frame HS4.out (by simp))).mono ?_
    rintro e w4 ⟨d, er, n, D1, d1, D2, d2, D3, d3, hpar, rfl, hrd, hwd, hs4⟩
    have HS5 := Lib.hid (HS4.out.trans hs4)
    have HRD := Lib.hid hrd
    have HWD := Lib.hid hwd
    clear hrd hwd hs4
    by_cases he : er = 0
    · subst he
      obtain ⟨t1, t2, t3⟩ := Cd.text_parse hpar rfl
      subst t3
      have hTx : Hid (∀ W, Same [] w4 W → Calls Tryz.prog 14 #[.agg #[.slice D1 d.consts.length d1, .slice D2 d.procs.length d2, .slice D3 d.globals.length d3]] W fun e w' => e = .returned (.tuple #[.string s, .int .i64 0]) ∧ Same [] W w') := Lib.hid (fun W hs => by
        refine (text_any _ d ⟨_, _, _, rfl, HRD.out.frame hs⟩ HWD.out (HV.out.frame (HS5.out.trans hs) (by simp))).mono ?_
        rintro e w' ⟨rfl, h⟩
        rw [textR_ok t2, t1]
        exact ⟨rfl, h⟩)
      clear hpar t1 t2
      go_wp2_with fail
      refine (hTx.out _ ((Same.refl _ _).alloc _)).mono ?_
      rintro e w5 ⟨rfl, hs5⟩
      have HS6 := Lib.hid ((HS5.out.alloc _).trans hs5)
      clear hs5
      go_wp2_with fail
      go_ret
      exact ⟨rfl, HS6.out⟩
    · obtain ⟨t1, t2⟩ := Cd.parse_err hpar he
      subst t1
      have HN : Hid (∀ W, Same [] w4 W → Calls Tryz.prog 19 #[.agg #[.slice D1 0 d1, .slice D2 0 d2, .slice D3 0 d3], .agg #[.slice none 0 0, .slice none 0 0, .slice none 0 0]] W fun e w' => e = .returned (.bool true) ∧ Same [] W w') := Lib.hid (fun W hs =>
        (s0C_any (w := W) _ _ Cd.none_ Cd.none_ ⟨_, _, _, rfl, HRD.out.frame hs⟩ ⟨_, _, _, rfl, (OCo.empty W).read⟩).mono (fun e w' h => ⟨by rw [h.1, decide_eq_true (rfl : Cd.none_ = Cd.none_)], h.2⟩))
      have hE0 : (er == 0) = false := by rw [beq_eq_false_iff_ne]; exact he
      have hE1 : (er != 0) = true := by rw [bne, hE0]; rfl
      have HT2 := Lib.hid t2
      clear hpar t2
      by_cases hn : 0 < n
      · obtain rfl : er = 81 := HT2.out.2 hn
        clear hE0 hE1 he
        go_wp2_with fail
        refine (HN.out _ ((Same.refl _ _).alloc _)).mono ?_
        rintro e w5 ⟨rfl, hs5⟩
        have HS6 := Lib.hid ((HS5.out.alloc _).trans hs5)
        clear hs5
        go_wp2_with fail
        go_ret
        exact ⟨rfl, HS6.out⟩
      · obtain rfl : n = 0 := by omega
        have hE2 : (er == 81) = false := by rw [beq_eq_false_iff_ne]; exact fun h => by have := HT2.out.1 h; omega
        clear hn
        go_wp2_with fail
        refine (HN.out _ ((Same.refl _ _).alloc _)).mono ?_
        rintro e w5 ⟨rfl, hs5⟩
        have HS6 := Lib.hid ((HS5.out.alloc _).trans hs5)
        clear hs5
        go_wp2_with fail
        go_ret
        exact ⟨rfl, HS6.out⟩
end Ck
end Go.Proofs.YticaipedpcmhfaaGreatDoor
