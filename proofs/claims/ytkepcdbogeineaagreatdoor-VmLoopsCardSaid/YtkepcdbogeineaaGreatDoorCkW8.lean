/- Layer 8, package code: Check. -/
import Derived.Test.YtkepcdbogeineaaGreatDoorCkW7
namespace Go.Proofs.YtkepcdbogeineaaGreatDoor
open Go.RowKit Hp
namespace Ck
variable {w w' : World}

theorem check_much {c : Cd.Co} (h : 256 < c.procs.length ∨ 1024 < c.consts.length ∨ 64 < c.globals.length) : Cd.check Cd.sym c = (2, 0, 0) := by unfold Cd.check; rw [if_pos h]
theorem check_form {c : Cd.Co} (h : ¬ (256 < c.procs.length ∨ 1024 < c.consts.length ∨ 64 < c.globals.length)) (h2 : c.procs = [] ∨ Cd.named Cd.sym c = false) : Cd.check Cd.sym c = (80, 0, 0) := by unfold Cd.check; rw [if_neg h, if_pos h2]
theorem check_bad {c : Cd.Co} (h : ¬ (256 < c.procs.length ∨ 1024 < c.consts.length ∨ 64 < c.globals.length)) (h2 : ¬ (c.procs = [] ∨ Cd.named Cd.sym c = false)) (k : Nat) (hk : k < c.procs.length) (h0 : ∀ j, j < k → (Cd.badAt c (c.procs.getD j ⟨0, []⟩)).1 = 0) (h1 : (Cd.badAt c (c.procs.getD k ⟨0, []⟩)).1 ≠ 0) :
    Cd.check Cd.sym c = ((Cd.badAt c (c.procs.getD k ⟨0, []⟩)).1, k, (Cd.badAt c (c.procs.getD k ⟨0, []⟩)).2) := by
  unfold Cd.check
  rw [if_neg h, if_neg h2, Cd.find_range c.procs.length _ k hk (fun j hj => by rw [h0 j hj]; rfl) (by simpa using h1)]
theorem check_ok {c : Cd.Co} (h : ¬ (256 < c.procs.length ∨ 1024 < c.consts.length ∨ 64 < c.globals.length)) (h2 : ¬ (c.procs = [] ∨ Cd.named Cd.sym c = false)) (h0 : ∀ j, j < c.procs.length → (Cd.badAt c (c.procs.getD j ⟨0, []⟩)).1 = 0) : Cd.check Cd.sym c = (0, 0, 0) := by
  unfold Cd.check
  rw [if_neg h, if_neg h2, Cd.find_range_none c.procs.length _ (fun j hj => by rw [h0 j hj]; rfl)]

/-- What Check answers. -/
def Chk (a : Int × Nat × Nat) (w : World) (e : Ending) (w' : World) : Prop := e = .returned (.tuple #[.int .i64 a.1, .int .i64 a.2.1, .int .i64 a.2.2]) ∧ Same [] w w'

set_option maxHeartbeats 8000000 in
set_option maxRecDepth 100000 in
theorem check_any (v : Value) (c : Cd.Co) (hr : RCo w v c) (hw : WCo c) (hv : Vars w) : Calls Tryz.prog 28 #[v] w (Chk (Cd.check Cd.sym c) w) := by
  obtain ⟨cv, pv, gv, rfl, hr⟩ := hr
  have HR := Lib.hid hr
  obtain ⟨A1, c1, hcv, hc1, hc1'⟩ := hr.consts.form
  obtain ⟨kv2, hps, hks⟩ := hr.procs
  obtain ⟨A2, c2, hpv, hc2, hc2'⟩ := hps.form
  obtain ⟨A3, c3, hgv, hc3, hc3'⟩ := hr.globals.form
  subst hcv hpv hgv
  unfold maxLen at hc1' hc2' hc3'
  have HPS := Lib.hid hps
  have HKS := Lib.hid hks
  have HW := Lib.hid hw
  have HV := Lib.hid hv
  clear hr hps hks hw hv
  by_cases h : 256 < c.procs.length ∨ 1024 < c.consts.length ∨ 64 < c.globals.length
  · rw [check_much h]
    by_cases g1 : 256 < c.procs.length
    · clear h
      go_enter Tryz.func28, Tryz.ntmps28
      go_wp2_with fail
      go_ret3
      exact ⟨rfl, (Same.refl _ _).alloc _⟩
    · have g1' : c.procs.length ≤ 256 := by omega
      by_cases g2 : 1024 < c.consts.length
      · clear h g1
        go_enter Tryz.func28, Tryz.ntmps28
        go_wp2_with fail
        go_ret3
        exact ⟨rfl, (Same.refl _ _).alloc _⟩
      · have g2' : c.consts.length ≤ 1024 := by omega
        have g3 : 64 < c.globals.length := by omega
        clear h g1 g2
        go_enter Tryz.func28, Tryz.ntmps28
        go_wp2_with fail
        go_ret3
        exact ⟨rfl, (Same.refl _ _).alloc _⟩
  · have g1 : c.procs.length ≤ 256 := by omega
    have g2 : c.consts.length ≤ 1024 := by omega
    have g3 : c.globals.length ≤ 64 := by omega
    have H := Lib.hid h
    clear h
    by_cases h0 : c.procs.length = 0
    · rw [check_form H.out (.inl (List.eq_nil_of_length_eq_zero h0))]
      rw [h0] at hc2
      have HH0 := Lib.hid h0
      rw [h0]
      clear h0 g1
      go_enter Tryz.func28, Tryz.ntmps28
      go_wp2_with fail
      go_ret3
      exact ⟨rfl, (Same.refl _ _).alloc _⟩
    · have f0 : ((c.procs.length : Int) == 0) = false := by rw [beq_eq_false_iff_ne]; omega
      have HP0 : Hid (¬ c.procs = []) := Lib.hid (fun e => h0 (by rw [e]; rfl))
      have HNM := Lib.hid (named_any (w := w.alloc (.cells #[.slice A1 c.consts.length c1, .slice A2 c.procs.length c2, .slice A3 c.globals.length c3] 27)) _ _ _ c (HR.out.frame ((Same.refl [] w).alloc _)) HW.out (HV.out.frame ((Same.refl [] w).alloc _) (by simp)) ⟨g2, g3⟩)
      cases hnm : Cd.named Cd.sym c
      · rw [hnm] at HNM
        rw [check_form H.out (.inr hnm)]
        clear hnm
        go_enter Tryz.func28, Tryz.ntmps28
        go_wp2_with fail
        refine HNM.out.mono ?_
        rintro e w2 ⟨rfl, hs2⟩
        have HS2 := Lib.hid hs2
        clear hs2
        go_wp2_with fail
        go_ret3
        exact ⟨rfl, ((Same.refl [] w).alloc _).trans HS2.out⟩
      · rw [hnm] at HNM
        have HH2 : Hid (¬ (c.procs = [] ∨ Cd.named Cd.sym c = false)) := Lib.hid (by rw [hnm]; simp; exact HP0.out)
        clear hnm
        go_enter Tryz.func28, Tryz.ntmps28
        go_wp2_with fail
        refine HNM.out.mono ?_
        rintro e w2 ⟨rfl, hs2⟩
        have hb1 := (Blk.new w 27 [.slice A1 c.consts.length c1, .slice A2 c.procs.length c2, .slice A3 c.globals.length c3]).frame hs2 (by simp)
        have b10 := hb1.cell 0
        have b11 := hb1.cell 1
        have b12 := hb1.cell 2
        have b1z := hb1.lt
        have HB1 := Lib.hid hb1
        have HS2 := Lib.hid (((Same.refl [] w).alloc _).trans hs2)
        clear hs2 hb1
        go_wp2_with fail
        go_loopg [5, 6, 7, 8, 37] c.procs.length (fun gk _ _ _ _ i wr => ∃ k : Nat, k ≤ c.procs.length ∧ gk = c.procs.length - k ∧ i = .int .i64 k ∧ Blk wr w.heap.size 27 [.slice A1 c.consts.length c1, .slice A2 c.procs.length c2, .slice A3 c.globals.length c3] ∧ Same [] w wr ∧ ∀ j, j < k → (Cd.badAt c (c.procs.getD j ⟨0, []⟩)).1 = 0)
        case atStart => exact ⟨0, Nat.zero_le _, rfl, rfl, HB1.out, HS2.out, by omega⟩
        case round =>
          obtain ⟨k, hk, rfl, rfl, hb1, hsame, hall⟩ := hrel
          have b10 := hb1.cell 0
          have b11 := hb1.cell 1
          have b12 := hb1.cell 2
          have b1z := hb1.lt
          have HB := Lib.hid hb1
          have HS := Lib.hid hsame
          have HA := Lib.hid hall
          clear hb1 hsame hall
          by_cases hlt : k < c.procs.length
          · obtain ⟨b, off, cap, he, _, _, hb, hcell⟩ := HPS.out.lit (by omega)
            injection he with he1 _ he3
            subst he1 he3
            obtain ⟨p, hp⟩ : ∃ p, c.procs.getD k ⟨0, []⟩ = p := ⟨_, rfl⟩
            have hki := HKS.out k hlt
            rw [hp] at hki
            obtain ⟨Ak, ck, hkv, _, _⟩ := hki.form
            rw [hkv] at hki
            have p0 : wr.cell? ⟨b, off + k * 2, none⟩ = some (.int .i64 p.params) := by
              have := hcell k 0 hlt (by omega)
              rw [HS.out.cell hb (by simp), ← Nat.add_zero (off + k * 2), this, fP, hp]; rfl
            have p1 : wr.cell? ⟨b, off + k * 2 + 1, none⟩ = some (.slice Ak p.code.length ck) := by
              have := hcell k 1 hlt (by omega)
              rw [HS.out.cell hb (by simp), this, fP, hkv]; rfl
            have hbw : b < wr.heap.size := Nat.lt_of_lt_of_le hb HS.out.size
            have hwp : WPr p := HW.out.procs p (by rw [← hp, List.getD, List.getElem?_eq_getElem hlt]; exact List.getElem_mem _)
            have HPC := Lib.hid (proc_any (w := wr.alloc (.cells #[.int .i64 p.params, .slice Ak p.code.length ck] 56)) _ _ _ (.agg #[.int .i64 p.params, .slice Ak p.code.length ck]) c p (HR.out.frame (HS.out.alloc _)) ⟨_, rfl, hki.frame (HS.out.alloc _)⟩ hwp (HV.out.frame (HS.out.alloc _) (by simp)) ⟨g2, g3, g1⟩)
            obtain ⟨b1, hb1⟩ : ∃ b1, (Cd.badAt c p).1 = b1 := ⟨_, rfl⟩
            obtain ⟨b2, hb2⟩ : ∃ b2, (Cd.badAt c p).2 = b2 := ⟨_, rfl⟩
            unfold Bad at HPC
            rw [hb1, hb2] at HPC
            have HP := Lib.hid hp
            have HBB := Lib.hid (And.intro hb1 hb2)
            clear hp hki hkv hcell hwp hb1 hb2
            by_cases hz : b1 = 0
            · have hz' : (b1 != 0) = false := by rw [hz]; rfl
              have HZ := Lib.hid hz
              clear hz
              go_wp2_with (go_at_call 39; refine HPC.out.mono ?_; rintro e w3 ⟨rfl, hs3⟩; have HS3 := Lib.hid hs3; clear hs3)
              go_roundg (c.procs.length - (k + 1))
              case measure => omega
              case rel =>
                refine ⟨k + 1, by omega, rfl, by go_num, (HB.out.alloc _).frame HS3.out (by simp), (HS.out.alloc _).trans HS3.out, fun j hj => ?_⟩
                rcases Nat.lt_or_eq_of_le (Nat.le_of_lt_succ hj) with hj | hj
                · exact HA.out j hj
                · subst hj
                  rw [HP.out, HBB.out.1, HZ.out]
            · have hz' : (b1 != 0) = true := by rw [bne_iff_ne]; exact hz
              go_wp2_with (go_at_call 39; refine HPC.out.mono ?_; rintro e w3 ⟨rfl, hs3⟩; have HS3 := Lib.hid hs3; clear hs3)
              go_ret3
              refine ⟨?_, (HS.out.alloc _).trans HS3.out⟩
              rw [check_bad H.out HH2.out k hlt HA.out (by rw [HP.out, HBB.out.1]; exact hz), HP.out, HBB.out.1, HBB.out.2]
              rfl
          · have HALL : Hid (∀ j, j < c.procs.length → (Cd.badAt c (c.procs.getD j ⟨0, []⟩)).1 = 0) := Lib.hid (fun j hj => HA.out j (by omega))
            go_wp2_with fail
            go_ret3
            refine ⟨?_, HS.out⟩
            rw [check_ok H.out HH2.out HALL.out]
            rfl
end Ck
end Go.Proofs.YtkepcdbogeineaaGreatDoor
