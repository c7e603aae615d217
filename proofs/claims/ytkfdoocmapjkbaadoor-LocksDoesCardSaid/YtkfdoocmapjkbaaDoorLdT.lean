/- Layer 19, LocksDoes: tells. -/
import Derived.Test.YtkfdoocmapjkbaaDoorLrS
namespace Go.Proofs.YtkfdoocmapjkbaaDoor
open Go.RowKit Hp
namespace Lk
variable {w w' W : World} {B R D : Nat} {m m' mr mr' : Bk} {F G V : List Nat} {ls : List (List Int)}

theorem ended_form (m : Bk) (n : Int) : ∃ (en : Bool) (x e er : Int), (if m.is n then (#[.agg #[.bool (m.th n).en, .int .u64 (m.th n).w, .int .i64 (m.th n).e], .int .i64 0] : Array Value) else #[.agg #[.bool false, .int .u64 0, .int .i64 0], .int .i64 190]) = #[.agg #[.bool en, .int .u64 x, .int .i64 e], .int .i64 er] := by
  by_cases h : m.is n = true
  · rw [if_pos h]; exact ⟨_, _, _, _, rfl⟩
  · rw [if_neg h]; exact ⟨_, _, _, _, rfl⟩

set_option maxHeartbeats 3200000 in
set_option maxRecDepth 100000 in
theorem tells_any (T : Trio w W B R D m m ls F G V) (hw : w.heap.size ≤ W.heap.size) (hls : ls.length ≤ 1000000) :
    Calls Tryd.prog 23 #[.pointer (some ⟨B, 0, none⟩), .pointer (some ⟨R, 0, none⟩), .pointer (some ⟨D, 0, none⟩)] W fun en w' =>
      en = .returned (.bool true) ∧ Stepped w W w' B R D m m ls F G V := by
  have HT := Lib.hid T
  have HW := Lib.hid hw
  clear T hw
  go_enter Tryd.func23, Tryd.ntmps23
  go_wp2
  go_loopw [7] (fun c wr => ∃ k : Int, 0 ≤ k ∧ k ≤ 12 ∧ c = .int .i64 (k - 1) ∧ Same [] W wr) (fun c _ => (12 - intOf c).toNat)
  case atStart => exact ⟨0, by omega, by omega, rfl, Same.refl _ _⟩
  case round =>
    obtain ⟨k, hk0, hk, rfl, hs⟩ := hrel
    by_cases hlt : k < 12
    · have hlt' : k - 1 < 11 := by omega
      have t1 := HT.out.frame hs (by simp) (by simp) (by simp) (by simp)
      have hed := ended_any (k - 1) t1.p.b.rep t1.p.b.ok.nt
      have hre := fun wz (hz : Same [] wr wz) => r_ended (w := wz) (k - 1) (t1.p.r.frame hz (by simp)) t1.p.b.ok.nt
      obtain ⟨en, x, e, er, hf⟩ := ended_form m (k - 1)
      rw [hf] at hed
      simp only [hf] at hre
      have HE := Lib.hid hed
      have HRE := Lib.hid hre
      have HWA := Lib.hid (fun wz (hz : Same [] wr wz) => own_waits (t1.p.b.frame hz (by simp)) (k - 1) _ rfl)
      have HWR := Lib.hid (fun wz (hz : Same [] wr wz) => r_waits (w := wz) (k - 1) (t1.p.r.frame hz (by simp)) t1.p.b.ok.nt)
      have HHO := Lib.hid (fun wz (hz : Same [] wr wz) => own_holder (t1.p.b.frame hz (by simp)) (k - 1) _ rfl)
      have HHR := Lib.hid (fun wz (hz : Same [] wr wz) => r_holder (w := wz) (k - 1) (t1.p.r.frame hz (by simp)) t1.p.b.ok.nl)
      have HS := Lib.hid hs
      clear hed hre hf t1 hs
      generalize waitsF m (k - 1) = wa at *
      generalize holderF m (k - 1) = ho at *
      have e1 : (wa != wa) = false := by simp
      have e2 : (ho != ho) = false := by simp
      have e3 : (er != er) = false := by simp
      have e4 : (x == x) = true := by simp
      have e5 : (e == e) = true := by simp
      have e6 : (en == en) = true := by simp
      go_wp2_with fail
      refine HE.out.mono ?_
      rintro en1 w1 ⟨rfl, hs1⟩
      obtain ⟨w2, hw2⟩ : ∃ w2, w2 = w1.alloc (.cells #[.bool en, .int .u64 x, .int .i64 e] 38) := ⟨_, rfl⟩
      have hs2 : Same [] wr w2 := by rw [hw2]; exact hs1.alloc _
      have hb2 : Blk w2 w1.heap.size 38 [.bool en, .int .u64 x, .int .i64 e] := by rw [hw2]; exact Blk.new w1 38 _
      obtain ⟨xb, hxb⟩ : ∃ xb, xb = w1.heap.size := ⟨_, rfl⟩
      rw [← hxb] at hb2
      have HW2 := Lib.hid hw2
      have HXB := Lib.hid hxb
      have HB2 := Lib.hid hb2
      have HS2 := Lib.hid hs2
      clear hs1 hw2 hs2 hb2 hxb
      go_wp2_with fail
      rw [← HW2.out, ← HXB.out]
      refine (HRE.out w2 HS2.out).mono ?_
      rintro en2 w3 ⟨rfl, hs3⟩
      obtain ⟨w4, hw4⟩ : ∃ w4, w4 = w3.alloc (.cells #[.bool en, .int .u64 x, .int .i64 e] 38) := ⟨_, rfl⟩
      have hs4 : Same [] wr w4 := by rw [hw4]; exact (HS2.out.trans hs3).alloc _
      have hb4 : Blk w4 w3.heap.size 38 [.bool en, .int .u64 x, .int .i64 e] := by rw [hw4]; exact Blk.new w3 38 _
      have hb5 : Blk w4 xb 38 [.bool en, .int .u64 x, .int .i64 e] := by rw [hw4]; exact (HB2.out.frame hs3 (by simp)).alloc _
      obtain ⟨yb, hyb⟩ : ∃ yb, yb = w3.heap.size := ⟨_, rfl⟩
      rw [← hyb] at hb4
      have HW4 := Lib.hid hw4
      have HYB := Lib.hid hyb
      have HS4 := Lib.hid hs4
      have c0 : w3.cell? ⟨xb, 0, none⟩ = some (.bool en) := (HB2.out.frame hs3 (by simp)).cell 0
      have c1 : w3.cell? ⟨xb, 1, none⟩ = some (.int .u64 x) := (HB2.out.frame hs3 (by simp)).cell 1
      have c2 : w3.cell? ⟨xb, 2, none⟩ = some (.int .i64 e) := (HB2.out.frame hs3 (by simp)).cell 2
      have hne : ¬ xb = w3.heap.size := fun e => by have := (HB2.out.frame hs3 (by simp)).lt; omega
      have hxl : xb < w3.heap.size := (HB2.out.frame hs3 (by simp)).lt
      clear hs3 hw4 hyb hs4 hb4 hb5
      go_wp2_with fail
      rw [← HW4.out, ← HYB.out]
      refine (HWA.out w4 HS4.out).mono ?_
      rintro en3 w5 ⟨rfl, rfl⟩
      go_wp2_with fail
      refine (HWR.out w4 HS4.out).mono ?_
      rintro en3 w5 ⟨rfl, rfl⟩
      go_wp2_with fail
      refine (HHO.out w4 HS4.out).mono ?_
      rintro en3 w5 ⟨rfl, rfl⟩
      go_wp2_with fail
      refine (HHR.out w4 HS4.out).mono ?_
      rintro en3 w5 ⟨rfl, rfl⟩
      have HSW : Hid (Same [] W w4) := Lib.hid (HS.out.trans HS4.out)
      go_wp2
      go_roundw
      case rel => exact ⟨k + 1, by omega, by omega, by first | go_num | (congr 1; omega), HSW.out⟩
      case measure => simp [intOf]; omega
    · have hk12 : k = 12 := by omega
      subst hk12
      rw [show (12 : Int) - 1 = 11 from rfl]
      have t1 := HT.out.frame hs (by simp) (by simp) (by simp) (by simp)
      obtain ⟨l, hl⟩ : ∃ l, l = stuckF m := ⟨_, rfl⟩
      have hl8 : l.length ≤ 8 := by
        rw [hl]; unfold stuckF
        refine Nat.le_trans (List.length_filter_le _ _) ?_
        have := t1.p.b.ok.nt
        simp; omega
      have HSTK := Lib.hid (own_stuck t1.p.b l hl.symm)
      have HT1 := Lib.hid t1
      have HS := Lib.hid hs
      have HL := Lib.hid hl
      obtain ⟨wo, hwo⟩ : ∃ wo, wo = wr := ⟨_, rfl⟩
      subst hwo
      clear t1 hs hl hlt hk0 hk
      go_wp2_with fail
      refine HSTK.out.mono ?_
      rintro en w1 ⟨v, rfl, -, hs1, hrow, hnew⟩
      obtain ⟨va, vc, rfl, -, -, -⟩ := hrow.form
      have t2 := HT1.out.frame hs1 (by simp) (by simp) (by simp) (by simp)
      have hvs : ∀ k ∈ blk (.slice va l.length vc), w.heap.size ≤ k ∧ k ∉ F ∧ k ∉ G := fun k hk => by
        have h1 := hnew k hk
        have h2 := HS.out.size
        refine ⟨Nat.le_trans HW.out (Nat.le_trans h2 h1), fun hm => ?_, fun hm => ?_⟩
        · have := HT1.out.p.b.rep.lt k hm; omega
        · have := HT1.out.p.r.lt k hm; omega
      have hvD : ∀ k ∈ blk (.slice va l.length vc), k ∉ V ∧ k ≠ D := fun k hk => by
        have h1 := hnew k hk
        refine ⟨fun hm => ?_, fun he => ?_⟩
        · have := HT1.out.vlt k hm; omega
        · have := HT1.out.dlt; omega
      have hvDV : ∀ k ∈ blk (.slice va l.length vc), k ∉ D :: V := fun k hk hm => by
        rcases List.mem_cons.1 hm with h | h
        · exact (hvD k hk).2 h
        · exact (hvD k hk).1 h
      have HI := Lib.hid (ints_any ls l _ t2.i hrow hvD t2.dV hls)
      have HT2 := Lib.hid t2
      have HROW := Lib.hid hrow
      have HVS := Lib.hid hvs
      have HVDV := Lib.hid hvDV
      have HS1 : Hid (Same [] W w1) := Lib.hid (HS.out.trans hs1)
      have HNEW := Lib.hid hnew
      clear t2 hs1 hrow hnew hvs hvD hvDV
      go_wp2_with fail
      refine HI.out.mono ?_
      rintro en w2 ⟨rfl, V2, i1, i2, i3, i4⟩
      have t3 := HT2.out.ints HVS.out (fun k hk => HROW.out.lt k hk) i1 i2 i3 i4 (Nat.le_trans HW.out HS1.out.size)
      have hr3 := HROW.out.frame i3 HVDV.out
      have hu3 : Upd (F ++ G ++ D :: V) (F ++ G ++ D :: V2) W w2 := by
        refine ⟨(HS1.out.mono (by simp)).trans' i3 (fun k hk => .inl (by simp only [List.mem_append]; exact .inr hk)), fun k hk => ?_⟩
        simp only [List.mem_append, List.mem_cons] at hk ⊢
        rcases hk with hk | hk | hk
        · exact .inl (.inl hk)
        · exact .inl (.inr (.inl hk))
        · rcases i4 k hk with h | h | h
          · exact .inl (.inr (.inr h))
          · have := HNEW.out k h
            have := HS.out.size
            exact .inr (by omega)
          · have := HS1.out.size
            exact .inr (by omega)
      have HRS := Lib.hid (r_stuck t3.p.r t3.p.okr (t3.p.r.lt R (by obtain ⟨_, _, _, _, _, h⟩ := t3.p.r; exact h.fB)))
      rw [← HL.out] at HRS
      have HT3 := Lib.hid t3
      have HR3 := Lib.hid hr3
      have HU3 := Lib.hid hu3
      clear t3 hr3 hu3 i1 i2 i3 i4
      go_wp2_with fail
      refine HRS.out.mono ?_
      rintro en w3 ⟨v2, rfl, hrow2, hs3, hnew2⟩
      have hr4 := HR3.out.frame hs3 (by simp)
      have hsi := same_ints l l _ _ hr4 hrow2 (by omega) (by omega)
      rw [decide_eq_true rfl] at hsi
      have HSI := Lib.hid hsi
      have HS3 := Lib.hid hs3
      obtain ⟨v2a, v2c, rfl, -, -, -⟩ := hrow2.form
      clear hrow2 hs3 hnew2 hr4 hsi
      go_wp2_with fail
      refine HSI.out.mono ?_
      rintro en w4 ⟨rfl, hs4⟩
      have t5 := HT3.out.frame (HS3.out.trans hs4) (by simp) (by simp) (by simp) (by simp)
      have hu5 : Upd (F ++ G ++ D :: V) (F ++ G ++ D :: V2) W w4 := ⟨HU3.out.same.trans' (HS3.out.trans hs4) (by simp), HU3.out.new⟩
      have HTH := Lib.hid (threads_any (w := w4.drew) (t5.p.b.rep.frame (G := []) ((Same.refl _ _).drew) (by simp)))
      have hrr := t5.p.r
      have HT5 := Lib.hid t5
      have HU5 := Lib.hid hu5
      obtain ⟨gs, tv, lv, gv, rvs, hr⟩ := hrr
      obtain ⟨ta, tc, rfl⟩ := hr.tform
      have c0 := hr.b0
      have e1 : ((m.ths.length : Int) == (m.ths.length : Int)) = true := by simp
      clear hr t5 hu5 hs4
      go_wp2
      go_region_with (first | (refine HTH.out.mono ?_; rintro en w5 ⟨rfl, rfl⟩))
      all_goals
        go_wp2
        go_ret
        exact ⟨rfl, Stepped.of (Same.refl _ _) (HT5.out.frame (F := F) (H := []) ((Same.refl _ _).drew) (by simp) (by simp) (by simp) (by simp)) ⟨HU5.out.same.drew, HU5.out.new⟩ ⟨by simp, fun y hy => (List.mem_append.1 hy).imp id (fun h => by rw [List.mem_singleton.1 h]; exact hl8)⟩⟩
end Lk
end Go.Proofs.YtkfdoocmapjkbaaDoor
