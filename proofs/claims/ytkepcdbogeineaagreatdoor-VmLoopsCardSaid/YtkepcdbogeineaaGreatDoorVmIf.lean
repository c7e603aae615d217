/- Instructions: call. (Printed by mkVmIf.py.) -/
import Derived.Test.YtkepcdbogeineaaGreatDoorVmIe
namespace Go.Proofs.YtkepcdbogeineaaGreatDoor
open Go.RowKit Hp Ck
namespace Vm
variable {w w' w1 W W' : World} {k : Kx} {th th' : Th} {FT G G1 : List Nat} {t t' : Toy}

/-- A call that is ready begins a frame. -/
def Th.called (th : Th) (a : Nat) : Th := (th.goto (th.top.at_ + 1)).begin (th.st.length - a - 2)
def callO (a : Nat) (ready : Bool) : Out → Out
  | .did ev l th t => .did ev l (if ready then th.called a else th) t
  | .fail er th t => .fail er th t
  | .quiet th t => .quiet th t
/-- What call asks first. -/
def callM (a : Nat) (th : Th) (t : Toy) (o : Out) (ready : Bool) : Out :=
  if th.phase = 0 then
    if t.kinded (th.at a) 3 then
      if th.fr.length < 64 then callO a ready o else .fail 181 th (t.asked1 (th.at a))
    else .fail 182 th (t.asked1 (th.at a))
  else callO a ready o
def callT (a : Nat) (th : Th) (t : Toy) : Toy := if th.phase = 0 then t.asked1 (th.at a) else t

set_option maxHeartbeats 4000000 in
set_option maxRecDepth 100000 in
theorem call_any (h : Sit k w th t FT G) (hfi : t.Fine) (o : Out) (rd : Bool) (a : Nat) (ha : a < th.st.length) (hx : 0 ≤ th.at a ∧ th.at a < 18446744073709551616) (hfl : th.fr.length ≤ 1000000) (hA : ∀ W FT' G', Sit k W th (callT a th t) FT' G' → Calls Tryz.prog 83 #[.pointer (some ⟨k.T, 0, none⟩), toyV k.H, .int .i64 a] W (ApP k W FT' G' rd o))
    (hq : ∀ th t, o ≠ .quiet th t) (hr : rd = true → ∀ ev l th2 t2, o = .did ev l th2 t2 → th2.fr ≠ [] ∧ th2.top.at_ ≤ 1000000 ∧ a + 2 ≤ th2.st.length ∧ th2.st.length ≤ 1000000 ∧ th2.fr.length ≤ 1000000 ∧ (0 ≤ th2.number ∧ th2.number < 18446744073709551616) ∧ 0 ≤ ofN' th2.number) :
    Calls Tryz.prog 52 #[.pointer (some ⟨k.T, 0, none⟩), toyV k.H, .int .i64 a] w (InsP k w FT G (callM a th t o rd)) := by
  unfold callM
  have HT := Lib.hid (fun W fv sv rv FT' (h1 : ThAt W k.T k.M k.cv k.pv k.gv fv sv rv k.kvs th k.FC FT') => top_any h1 a ha)
  have HC := Lib.hid (fun W FT' G' (h : Sit k W th t FT' G') => cell2_any h hfi (th.at a) 3 182 hx)
  have HB := Lib.hid (VB.open_ h)
  obtain ⟨t6, tz⟩ : w.cell? ⟨k.T, 6, none⟩ = some (.int .i64 th.phase) ∧ k.T < w.heap.size := by
    obtain ⟨fv, sv, rv, q⟩ := h.vt.th
    exact ⟨q.b.cell 6, q.b.lt⟩
  obtain ⟨x, hx2⟩ : ∃ x, x = th.at a := ⟨_, rfl⟩
  unfold callT at hA
  rw [← hx2] at HT HC hA ⊢
  clear h hx hx2 hfi
  unfold toyV at *
  by_cases hp0 : th.phase = 0
  · rw [if_pos hp0]
    rw [if_pos hp0] at hA
    have hp0' : ((th.phase : Int) == 0) = true := by rw [hp0]; rfl
    obtain ⟨kb, hkb⟩ : ∃ b, b = t.kinded x 3 := ⟨_, rfl⟩
    rw [← hkb] at HC ⊢
    clear hkb
    cases kb with
    | false =>
      simp only [Bool.false_eq_true, if_false] at HC ⊢
      unfold InsP FailP
      clear hA hr hq
      go_enter Tryz.func52, Tryz.ntmps52
      go_wp2_with fail
      obtain ⟨w0, hw0⟩ : ∃ w0, w0 = w.alloc (.cells #[.int .i64 0, .int .u8 0, .int .i64 0, .int .i64 0, .int .u64 0, .int .u64 0, .slice none 0 0, .int .i64 0, .bool false, .int .i64 0] 44) := ⟨_, rfl⟩
      rw [← hw0]
      have HB0 := Lib.hid (HB.out.box zeros hw0)
      clear hw0
      obtain ⟨fv, sv, rv, q⟩ := HB0.out.sit.vt.th
      refine (HT.out _ _ _ _ _ q).mono ?_
      rintro e w1 ⟨g, C, -, rfl, kc, -, gz, -, hs1⟩
      have kc1 := (hs1.cell gz (by simp)).trans kc
      have HB1 := Lib.hid (HB0.out.same hs1)
      clear hs1 kc HT q HB0
      go_wp2_with fail
      refine (HC.out _ _ _ HB1.out.sit).mono ?_
      rintro e w2 ⟨rfl, hlf⟩
      obtain ⟨FT1, G1, hb1⟩ := HB1.out.call hlf
      exact ⟨rfl, rfl, hb1.lf⟩
    | true =>
      simp only [if_true] at HC ⊢
      by_cases hfl64 : th.fr.length < 64
      · rw [if_pos hfl64]
        have hf64 : (th.fr.length : Int) < 64 := by omega
        have hd64 : decide ((th.fr.length : Int) < 64) = true := decide_eq_true hf64
        cases o with
        | quiet a b => exact absurd rfl (hq a b)
        | fail er th2 t2 =>
          unfold callO InsP FailP
          have HA := Lib.hid hA
          unfold ApP at HA
          clear hA hr hq
          go_enter Tryz.func52, Tryz.ntmps52
          go_wp2_with fail
          obtain ⟨w0, hw0⟩ : ∃ w0, w0 = w.alloc (.cells #[.int .i64 0, .int .u8 0, .int .i64 0, .int .i64 0, .int .u64 0, .int .u64 0, .slice none 0 0, .int .i64 0, .bool false, .int .i64 0] 44) := ⟨_, rfl⟩
          rw [← hw0]
          have HB0 := Lib.hid (HB.out.box zeros hw0)
          clear hw0
          obtain ⟨fv, sv, rv, q⟩ := HB0.out.sit.vt.th
          refine (HT.out _ _ _ _ _ q).mono ?_
          rintro e w1 ⟨g, C, -, rfl, kc, -, gz, -, hs1⟩
          have kc1 := (hs1.cell gz (by simp)).trans kc
          have HB1 := Lib.hid (HB0.out.same hs1)
          clear hs1 kc HT q HB0
          go_wp2_with fail
          refine (HC.out _ _ _ HB1.out.sit).mono ?_
          rintro e w2 ⟨rfl, hlf⟩
          obtain ⟨FT1, G1, hb1⟩ := HB1.out.call hlf
          have HB2 := Lib.hid hb1
          obtain ⟨u4, uz⟩ : (∃ A D, w2.cell? ⟨k.T, 4, none⟩ = some (.slice A th.fr.length D)) ∧ k.T < w2.heap.size := by
            obtain ⟨fv, sv, rv, q⟩ := hb1.sit.vt.th
            obtain ⟨A, D, e⟩ := own_lit q.fr
            exact ⟨⟨A, D, by rw [← e]; exact q.b.cell 4⟩, q.b.lt⟩
          obtain ⟨UA, UD, u4⟩ := u4
          clear hlf hb1 HC HB1 kc1
          go_wp2_with fail
          refine (need_yes 181).mono ?_
          rintro e w3 ⟨rfl, rfl⟩
          clear u4 uz
          go_wp2_with fail
          refine (HA.out _ _ _ HB2.out.sit).mono ?_
          rintro e w4 ⟨rfl, hlf⟩
          obtain ⟨FT2, G2, hb2⟩ := HB2.out.call hlf
          exact ⟨rfl, rfl, hb2.lf⟩
        | did ev l th2 t2 =>
          unfold callO InsP DidP
          have HA := Lib.hid hA
          unfold ApP at HA
          simp only [evC] at HA
          cases rd with
          | false =>
            simp only [Bool.false_eq_true, if_false]
            clear hA hr hq
            go_enter Tryz.func52, Tryz.ntmps52
            go_wp2_with fail
            obtain ⟨w0, hw0⟩ : ∃ w0, w0 = w.alloc (.cells #[.int .i64 0, .int .u8 0, .int .i64 0, .int .i64 0, .int .u64 0, .int .u64 0, .slice none 0 0, .int .i64 0, .bool false, .int .i64 0] 44) := ⟨_, rfl⟩
            rw [← hw0]
            have HB0 := Lib.hid (HB.out.box zeros hw0)
            clear hw0
            obtain ⟨fv, sv, rv, q⟩ := HB0.out.sit.vt.th
            refine (HT.out _ _ _ _ _ q).mono ?_
            rintro e w1 ⟨g, C, -, rfl, kc, -, gz, -, hs1⟩
            have kc1 := (hs1.cell gz (by simp)).trans kc
            have HB1 := Lib.hid (HB0.out.same hs1)
            clear hs1 kc HT q HB0
            go_wp2_with fail
            refine (HC.out _ _ _ HB1.out.sit).mono ?_
            rintro e w2 ⟨rfl, hlf⟩
            obtain ⟨FT1, G1, hb1⟩ := HB1.out.call hlf
            have HB2 := Lib.hid hb1
            obtain ⟨u4, uz⟩ : (∃ A D, w2.cell? ⟨k.T, 4, none⟩ = some (.slice A th.fr.length D)) ∧ k.T < w2.heap.size := by
              obtain ⟨fv, sv, rv, q⟩ := hb1.sit.vt.th
              obtain ⟨A, D, e⟩ := own_lit q.fr
              exact ⟨⟨A, D, by rw [← e]; exact q.b.cell 4⟩, q.b.lt⟩
            obtain ⟨UA, UD, u4⟩ := u4
            clear hlf hb1 HC HB1 kc1
            go_wp2_with fail
            refine (need_yes 181).mono ?_
            rintro e w3 ⟨rfl, rfl⟩
            clear u4 uz
            go_wp2_with fail
            refine (HA.out _ _ _ HB2.out.sit).mono ?_
            rintro e w4 ⟨v, rfl, hlf⟩
            obtain ⟨A9, C9, rfl⟩ := hlf.form
            obtain ⟨FT2, G2, hb2⟩ := HB2.out.call hlf
            have HB3 := Lib.hid hb2
            clear hlf hb2 HA HB2
            go_upto_region 5 with fail
            obtain ⟨w5, hw5⟩ : ∃ wb, wb = w4.alloc (.cells #[.int .i64 0, .int .u8 ev.what, .int .i64 ev.cell, .int .i64 ev.field, .int .u64 ev.old, .int .u64 ev.new, .slice A9 l.length C9, .int .i64 ev.other, .bool ev.yes, .int .i64 ev.err] 44) := ⟨_, rfl⟩
            rw [← hw5]
            have HB4 := Lib.hid (HB3.out.box (evC ev (.slice A9 l.length C9)) hw5)
            clear hw5 HB3
            obtain ⟨e0, e1, e2, e3, e4, e5, e6, e7, e8, e9, ez, ef⟩ := HB4.out.get (List.Mem.head _)
            obtain ⟨r0, r1, r2, r3, r4, r5, r6, r7, r8, r9, rz, rf⟩ := HB4.out.get (List.mem_cons_of_mem _ (List.Mem.head _))
            go_wp2_with fail
            refine bodyPost_ret (v := .tuple #[.agg (evC ev (.slice A9 l.length C9)).toArray, .bool true]) (by simp [results, Tryz.results52, go_sem, evC, r0, r1, r2, r3, r4, r5, r6, r7, r8, r9]) rfl ?_
            exact ⟨_, rfl, HB4.out.fin (List.mem_cons_of_mem _ (List.Mem.head _)) (same10 (Same.refl _ _) (.inl (by simp)) _ _ _ _ _ _ _ _ _ _)⟩
          | true =>
            obtain ⟨hf2, hat2, hst2, hsl2, hfl2, hnum2, hp2⟩ := hr rfl _ _ _ _ rfl
            simp only [if_true]
            clear hA hr hq
            go_enter Tryz.func52, Tryz.ntmps52
            go_wp2_with fail
            obtain ⟨w0, hw0⟩ : ∃ w0, w0 = w.alloc (.cells #[.int .i64 0, .int .u8 0, .int .i64 0, .int .i64 0, .int .u64 0, .int .u64 0, .slice none 0 0, .int .i64 0, .bool false, .int .i64 0] 44) := ⟨_, rfl⟩
            rw [← hw0]
            have HB0 := Lib.hid (HB.out.box zeros hw0)
            clear hw0
            obtain ⟨fv, sv, rv, q⟩ := HB0.out.sit.vt.th
            refine (HT.out _ _ _ _ _ q).mono ?_
            rintro e w1 ⟨g, C, -, rfl, kc, -, gz, -, hs1⟩
            have kc1 := (hs1.cell gz (by simp)).trans kc
            have HB1 := Lib.hid (HB0.out.same hs1)
            clear hs1 kc HT q HB0
            go_wp2_with fail
            refine (HC.out _ _ _ HB1.out.sit).mono ?_
            rintro e w2 ⟨rfl, hlf⟩
            obtain ⟨FT1, G1, hb1⟩ := HB1.out.call hlf
            have HB2 := Lib.hid hb1
            obtain ⟨u4, uz⟩ : (∃ A D, w2.cell? ⟨k.T, 4, none⟩ = some (.slice A th.fr.length D)) ∧ k.T < w2.heap.size := by
              obtain ⟨fv, sv, rv, q⟩ := hb1.sit.vt.th
              obtain ⟨A, D, e⟩ := own_lit q.fr
              exact ⟨⟨A, D, by rw [← e]; exact q.b.cell 4⟩, q.b.lt⟩
            obtain ⟨UA, UD, u4⟩ := u4
            clear hlf hb1 HC HB1 kc1
            go_wp2_with fail
            refine (need_yes 181).mono ?_
            rintro e w3 ⟨rfl, rfl⟩
            clear u4 uz
            go_wp2_with fail
            refine (HA.out _ _ _ HB2.out.sit).mono ?_
            rintro e w4 ⟨v, rfl, hlf⟩
            obtain ⟨A9, C9, rfl⟩ := hlf.form
            obtain ⟨FT2, G2, hb2⟩ := HB2.out.call hlf
            have HB3 := Lib.hid hb2
            clear hlf hb2 HA HB2
            go_upto_region 5 with fail
            obtain ⟨w5, hw5⟩ : ∃ wb, wb = w4.alloc (.cells #[.int .i64 0, .int .u8 ev.what, .int .i64 ev.cell, .int .i64 ev.field, .int .u64 ev.old, .int .u64 ev.new, .slice A9 l.length C9, .int .i64 ev.other, .bool ev.yes, .int .i64 ev.err] 44) := ⟨_, rfl⟩
            rw [← hw5]
            have HB4 := Lib.hid (HB3.out.box (evC ev (.slice A9 l.length C9)) hw5)
            clear hw5 HB3
            go_wp2_with fail
            obtain ⟨fv, sv, rv, q⟩ := HB4.out.sit.vt.th
            have HQ := Lib.hid q
            refine (frame_any q hf2).mono ?_
            rintro e w6 ⟨g6, D6, rfl, rfl, hs6⟩
            obtain ⟨m1, m2, m3⟩ := env_cell HQ.out hf2 g6 D6 rfl 1 (by decide)
            have m1' : w6.cell? ⟨g6, (th2.fr.length - 1) * 4 + 1, none⟩ = some (.int .i64 th2.top.at_) := (hs6.cell m3 (by simp)).trans m1
            have m2' := (hs6.frozen m3 (by simp) (o := (th2.fr.length - 1) * 4 + 1)).trans m2
            have HB5 := Lib.hid (HB4.out.same hs6)
            have HQ6 := Lib.hid (HQ.out.frame0 hs6)
            have wr : IntKind.i64.wrap ((th2.top.at_ : Int) + 1) = ((th2.top.at_ + 1 : Nat) : Int) := by rw [IntKind.wrap_i64]; omega
            clear m1 m2 m3 hs6 q HQ HB4
            go_upto_region 7 with fail
            have hgo := HQ6.out.gotoAt hf2 (th2.top.at_ + 1)
            obtain ⟨w7, hw7⟩ : ∃ w7, w7 = w6.setCell ⟨g6, (th2.fr.length - 1) * 4 + 1, none⟩ (.int .i64 ((th2.top.at_ + 1 : Nat) : Int)) := ⟨_, rfl⟩
            have hs7 : Same FT2 w6 w7 := by rw [hw7]; exact (Same.refl FT2 w6).setCell (.inl (HQ6.out.inF g6 rfl)) _
            rw [← hw7] at hgo
            first
              | rw [← hw7]
              | (push_cast at hw7; rw [← hw7])
            obtain ⟨FT3, G3, hb6⟩ := HB5.out.callT (Gs.of hgo hs7)
            have HB6 := Lib.hid hb6
            obtain ⟨fv, sv, rv, q⟩ := hb6.sit.vt.th
            obtain ⟨SA, SC, e5⟩ := st_lit q
            have s5 : w7.cell? ⟨k.T, 5, none⟩ = some (.slice SA th2.st.length SC) := by rw [show th2.st.length = (th2.goto (th2.top.at_ + 1)).st.length from rfl, ← e5]; exact q.b.cell 5
            have n1 : IntKind.i64.wrap ((th2.st.length : Int) - (a : Int)) = (th2.st.length : Int) - (a : Int) := by rw [IntKind.wrap_i64]; omega
            have n2 : IntKind.i64.wrap ((th2.st.length : Int) - (a : Int) - 2) = ((th2.st.length - a - 2 : Nat) : Int) := by rw [IntKind.wrap_i64]; omega
            clear hgo hw7 hs7 hb6 q e5 m1' m2' wr HQ6 HB5
            go_wp2_with fail
            obtain ⟨fv, sv, rv, q⟩ := HB6.out.sit.vt.th
            have HBG := Lib.hid (begin_any q HB6.out.sit.vars (by simp only [Th.goto]; omega) (th2.st.length - a - 2) (by simp only [Th.goto]; omega) (by simp only [Th.goto, List.length_set]; exact hfl2) hnum2 hp2)
            clear s5 n1 n2 q
            refine HBG.out.mono ?_
            rintro e w8 ⟨rfl, hg⟩
            obtain ⟨FT4, G4, hb8⟩ := HB6.out.callT hg
            have HB8 := Lib.hid hb8
            clear hg hb8 HB6 HBG
            obtain ⟨e0, e1, e2, e3, e4, e5, e6, e7, e8, e9, ez, ef⟩ := HB8.out.get (List.Mem.head _)
            obtain ⟨r0, r1, r2, r3, r4, r5, r6, r7, r8, r9, rz, rf⟩ := HB8.out.get (List.mem_cons_of_mem _ (List.Mem.head _))
            go_wp2_with fail
            refine bodyPost_ret (v := .tuple #[.agg (evC ev (.slice A9 l.length C9)).toArray, .bool true]) (by simp [results, Tryz.results52, go_sem, evC, r0, r1, r2, r3, r4, r5, r6, r7, r8, r9]) rfl ?_
            exact ⟨_, rfl, HB8.out.fin (List.mem_cons_of_mem _ (List.Mem.head _)) (same10 (Same.refl _ _) (.inl (by simp)) _ _ _ _ _ _ _ _ _ _)⟩
      · rw [if_neg hfl64]
        unfold InsP FailP
        have hf64 : ¬ (th.fr.length : Int) < 64 := by omega
        have hd64 : decide ((th.fr.length : Int) < 64) = false := decide_eq_false hf64
        clear hA hr hq
        go_enter Tryz.func52, Tryz.ntmps52
        go_wp2_with fail
        obtain ⟨w0, hw0⟩ : ∃ w0, w0 = w.alloc (.cells #[.int .i64 0, .int .u8 0, .int .i64 0, .int .i64 0, .int .u64 0, .int .u64 0, .slice none 0 0, .int .i64 0, .bool false, .int .i64 0] 44) := ⟨_, rfl⟩
        rw [← hw0]
        have HB0 := Lib.hid (HB.out.box zeros hw0)
        clear hw0
        obtain ⟨fv, sv, rv, q⟩ := HB0.out.sit.vt.th
        refine (HT.out _ _ _ _ _ q).mono ?_
        rintro e w1 ⟨g, C, -, rfl, kc, -, gz, -, hs1⟩
        have kc1 := (hs1.cell gz (by simp)).trans kc
        have HB1 := Lib.hid (HB0.out.same hs1)
        clear hs1 kc HT q HB0
        go_wp2_with fail
        refine (HC.out _ _ _ HB1.out.sit).mono ?_
        rintro e w2 ⟨rfl, hlf⟩
        obtain ⟨FT1, G1, hb1⟩ := HB1.out.call hlf
        have HB2 := Lib.hid hb1
        obtain ⟨u4, uz⟩ : (∃ A D, w2.cell? ⟨k.T, 4, none⟩ = some (.slice A th.fr.length D)) ∧ k.T < w2.heap.size := by
          obtain ⟨fv, sv, rv, q⟩ := hb1.sit.vt.th
          obtain ⟨A, D, e⟩ := own_lit q.fr
          exact ⟨⟨A, D, by rw [← e]; exact q.b.cell 4⟩, q.b.lt⟩
        obtain ⟨UA, UD, u4⟩ := u4
        clear hlf hb1 HC HB1 kc1
        go_wp2_with fail
        refine (need_no 181).mono ?_
        rintro e w3 ⟨rfl, rfl⟩
        exact ⟨rfl, rfl, HB2.out.lf⟩
  · rw [if_neg hp0]
    rw [if_neg hp0] at hA
    have hp0' : ((th.phase : Int) == 0) = false := by rw [beq_eq_false_iff_ne]; omega
    clear HT HC
    cases o with
    | quiet a b => exact absurd rfl (hq a b)
    | fail er th2 t2 =>
      unfold callO InsP FailP
      have HA := Lib.hid hA
      unfold ApP at HA
      clear hA hr hq
      go_enter Tryz.func52, Tryz.ntmps52
      go_wp2_with fail
      obtain ⟨w0, hw0⟩ : ∃ w0, w0 = w.alloc (.cells #[.int .i64 0, .int .u8 0, .int .i64 0, .int .i64 0, .int .u64 0, .int .u64 0, .slice none 0 0, .int .i64 0, .bool false, .int .i64 0] 44) := ⟨_, rfl⟩
      rw [← hw0]
      have HB0 := Lib.hid (HB.out.box zeros hw0)
      clear hw0
      have HB2 := Lib.hid HB0.out
      clear HB0
      refine (HA.out _ _ _ HB2.out.sit).mono ?_
      rintro e w4 ⟨rfl, hlf⟩
      obtain ⟨FT2, G2, hb2⟩ := HB2.out.call hlf
      exact ⟨rfl, rfl, hb2.lf⟩
    | did ev l th2 t2 =>
      unfold callO InsP DidP
      have HA := Lib.hid hA
      unfold ApP at HA
      simp only [evC] at HA
      cases rd with
      | false =>
        simp only [Bool.false_eq_true, if_false]
        clear hA hr hq
        go_enter Tryz.func52, Tryz.ntmps52
        go_wp2_with fail
        obtain ⟨w0, hw0⟩ : ∃ w0, w0 = w.alloc (.cells #[.int .i64 0, .int .u8 0, .int .i64 0, .int .i64 0, .int .u64 0, .int .u64 0, .slice none 0 0, .int .i64 0, .bool false, .int .i64 0] 44) := ⟨_, rfl⟩
        rw [← hw0]
        have HB0 := Lib.hid (HB.out.box zeros hw0)
        clear hw0
        have HB2 := Lib.hid HB0.out
        clear HB0
        refine (HA.out _ _ _ HB2.out.sit).mono ?_
        rintro e w4 ⟨v, rfl, hlf⟩
        obtain ⟨A9, C9, rfl⟩ := hlf.form
        obtain ⟨FT2, G2, hb2⟩ := HB2.out.call hlf
        have HB3 := Lib.hid hb2
        clear hlf hb2 HA HB2
        go_upto_region 5 with fail
        obtain ⟨w5, hw5⟩ : ∃ wb, wb = w4.alloc (.cells #[.int .i64 0, .int .u8 ev.what, .int .i64 ev.cell, .int .i64 ev.field, .int .u64 ev.old, .int .u64 ev.new, .slice A9 l.length C9, .int .i64 ev.other, .bool ev.yes, .int .i64 ev.err] 44) := ⟨_, rfl⟩
        rw [← hw5]
        have HB4 := Lib.hid (HB3.out.box (evC ev (.slice A9 l.length C9)) hw5)
        clear hw5 HB3
        obtain ⟨e0, e1, e2, e3, e4, e5, e6, e7, e8, e9, ez, ef⟩ := HB4.out.get (List.Mem.head _)
        obtain ⟨r0, r1, r2, r3, r4, r5, r6, r7, r8, r9, rz, rf⟩ := HB4.out.get (List.mem_cons_of_mem _ (List.Mem.head _))
        go_wp2_with fail
        refine bodyPost_ret (v := .tuple #[.agg (evC ev (.slice A9 l.length C9)).toArray, .bool true]) (by simp [results, Tryz.results52, go_sem, evC, r0, r1, r2, r3, r4, r5, r6, r7, r8, r9]) rfl ?_
        exact ⟨_, rfl, HB4.out.fin (List.mem_cons_of_mem _ (List.Mem.head _)) (same10 (Same.refl _ _) (.inl (by simp)) _ _ _ _ _ _ _ _ _ _)⟩
      | true =>
        obtain ⟨hf2, hat2, hst2, hsl2, hfl2, hnum2, hp2⟩ := hr rfl _ _ _ _ rfl
        simp only [if_true]
        clear hA hr hq
        go_enter Tryz.func52, Tryz.ntmps52
        go_wp2_with fail
        obtain ⟨w0, hw0⟩ : ∃ w0, w0 = w.alloc (.cells #[.int .i64 0, .int .u8 0, .int .i64 0, .int .i64 0, .int .u64 0, .int .u64 0, .slice none 0 0, .int .i64 0, .bool false, .int .i64 0] 44) := ⟨_, rfl⟩
        rw [← hw0]
        have HB0 := Lib.hid (HB.out.box zeros hw0)
        clear hw0
        have HB2 := Lib.hid HB0.out
        clear HB0
        refine (HA.out _ _ _ HB2.out.sit).mono ?_
        rintro e w4 ⟨v, rfl, hlf⟩
        obtain ⟨A9, C9, rfl⟩ := hlf.form
        obtain ⟨FT2, G2, hb2⟩ := HB2.out.call hlf
        have HB3 := Lib.hid hb2
        clear hlf hb2 HA HB2
        go_upto_region 5 with fail
        obtain ⟨w5, hw5⟩ : ∃ wb, wb = w4.alloc (.cells #[.int .i64 0, .int .u8 ev.what, .int .i64 ev.cell, .int .i64 ev.field, .int .u64 ev.old, .int .u64 ev.new, .slice A9 l.length C9, .int .i64 ev.other, .bool ev.yes, .int .i64 ev.err] 44) := ⟨_, rfl⟩
        rw [← hw5]
        have HB4 := Lib.hid (HB3.out.box (evC ev (.slice A9 l.length C9)) hw5)
        clear hw5 HB3
        go_wp2_with fail
        obtain ⟨fv, sv, rv, q⟩ := HB4.out.sit.vt.th
        have HQ := Lib.hid q
        refine (frame_any q hf2).mono ?_
        rintro e w6 ⟨g6, D6, rfl, rfl, hs6⟩
        obtain ⟨m1, m2, m3⟩ := env_cell HQ.out hf2 g6 D6 rfl 1 (by decide)
        have m1' : w6.cell? ⟨g6, (th2.fr.length - 1) * 4 + 1, none⟩ = some (.int .i64 th2.top.at_) := (hs6.cell m3 (by simp)).trans m1
        have m2' := (hs6.frozen m3 (by simp) (o := (th2.fr.length - 1) * 4 + 1)).trans m2
        have HB5 := Lib.hid (HB4.out.same hs6)
        have HQ6 := Lib.hid (HQ.out.frame0 hs6)
        have wr : IntKind.i64.wrap ((th2.top.at_ : Int) + 1) = ((th2.top.at_ + 1 : Nat) : Int) := by rw [IntKind.wrap_i64]; omega
        clear m1 m2 m3 hs6 q HQ HB4
        go_upto_region 7 with fail
        have hgo := HQ6.out.gotoAt hf2 (th2.top.at_ + 1)
        obtain ⟨w7, hw7⟩ : ∃ w7, w7 = w6.setCell ⟨g6, (th2.fr.length - 1) * 4 + 1, none⟩ (.int .i64 ((th2.top.at_ + 1 : Nat) : Int)) := ⟨_, rfl⟩
        have hs7 : Same FT2 w6 w7 := by rw [hw7]; exact (Same.refl FT2 w6).setCell (.inl (HQ6.out.inF g6 rfl)) _
        rw [← hw7] at hgo
        first
          | rw [← hw7]
          | (push_cast at hw7; rw [← hw7])
        obtain ⟨FT3, G3, hb6⟩ := HB5.out.callT (Gs.of hgo hs7)
        have HB6 := Lib.hid hb6
        obtain ⟨fv, sv, rv, q⟩ := hb6.sit.vt.th
        obtain ⟨SA, SC, e5⟩ := st_lit q
        have s5 : w7.cell? ⟨k.T, 5, none⟩ = some (.slice SA th2.st.length SC) := by rw [show th2.st.length = (th2.goto (th2.top.at_ + 1)).st.length from rfl, ← e5]; exact q.b.cell 5
        have n1 : IntKind.i64.wrap ((th2.st.length : Int) - (a : Int)) = (th2.st.length : Int) - (a : Int) := by rw [IntKind.wrap_i64]; omega
        have n2 : IntKind.i64.wrap ((th2.st.length : Int) - (a : Int) - 2) = ((th2.st.length - a - 2 : Nat) : Int) := by rw [IntKind.wrap_i64]; omega
        clear hgo hw7 hs7 hb6 q e5 m1' m2' wr HQ6 HB5
        go_wp2_with fail
        obtain ⟨fv, sv, rv, q⟩ := HB6.out.sit.vt.th
        have HBG := Lib.hid (begin_any q HB6.out.sit.vars (by simp only [Th.goto]; omega) (th2.st.length - a - 2) (by simp only [Th.goto]; omega) (by simp only [Th.goto, List.length_set]; exact hfl2) hnum2 hp2)
        clear s5 n1 n2 q
        refine HBG.out.mono ?_
        rintro e w8 ⟨rfl, hg⟩
        obtain ⟨FT4, G4, hb8⟩ := HB6.out.callT hg
        have HB8 := Lib.hid hb8
        clear hg hb8 HB6 HBG
        obtain ⟨e0, e1, e2, e3, e4, e5, e6, e7, e8, e9, ez, ef⟩ := HB8.out.get (List.Mem.head _)
        obtain ⟨r0, r1, r2, r3, r4, r5, r6, r7, r8, r9, rz, rf⟩ := HB8.out.get (List.mem_cons_of_mem _ (List.Mem.head _))
        go_wp2_with fail
        refine bodyPost_ret (v := .tuple #[.agg (evC ev (.slice A9 l.length C9)).toArray, .bool true]) (by simp [results, Tryz.results52, go_sem, evC, r0, r1, r2, r3, r4, r5, r6, r7, r8, r9]) rfl ?_
        exact ⟨_, rfl, HB8.out.fin (List.mem_cons_of_mem _ (List.Mem.head _)) (same10 (Same.refl _ _) (.inl (by simp)) _ _ _ _ _ _ _ _ _ _)⟩
end Vm
end Go.Proofs.YtkepcdbogeineaaGreatDoor
