/- What a call does first: enters. (Printed by mkVmIc.py.) -/
import Derived.Test.YtkepcdbogeineaaGreatDoorVmIb
namespace Go.Proofs.YtkepcdbogeineaaGreatDoor
open Go.RowKit Hp Ck
namespace Vm
variable {w w' w1 W W' : World} {k : Kx} {th th' : Th} {FT G G1 : List Nat} {t t' : Toy}

/-- What a call that answers an event alone leaves. -/
def EntP (k : Kx) (w : World) (FT G : List Nat) : Out → Ending → World → Prop
  | .quiet _ _, _, _ => False
  | .did ev l th t, e, w' => ∃ v, e = .returned (.agg (evC ev v).toArray) ∧ Lf k w FT G th t l v w'
  | .fail er th t, e, w' => e = .panicked [{ v := .iface 88 (.agg #[.int .i64 er]), recovered := false }] ∧ Lf k w FT G th t [] (.slice none 0 0) w'

def fitsP (th : Th) : Bool := (ofT' th.number == 5) && decide (0 ≤ ofN' th.number ∧ ofN' th.number < th.c.procs.length)
def entersM (f : Int) (params : Nat) (th : Th) (t : Toy) : Out :=
  if t.kinded f 3 then
    if th.phase = 0 then .did { what := 1, cell := cellN f, field := 0, old := (t.cel (cellN f)).a, new := (t.cel (cellN f)).a } [] { th with number := (t.cel (cellN f)).a, phase := 1 } ((t.asked1 f).ask [])
    else if fitsP th then
      if (th.c.procs.getD (ofN' th.number).toNat ⟨0, []⟩).params = params then
        if th.st.length < 256 then .did { what := 1, cell := cellN f, field := 1, old := (t.cel (cellN f)).b, new := (t.cel (cellN f)).b } [] { th with st := th.st ++ [(t.cel (cellN f)).b], phase := 2 } ((t.asked1 f).ask [])
        else .fail 180 th (t.asked1 f)
      else .fail 183 th (t.asked1 f)
    else .fail 182 th (t.asked1 f)
  else .fail 182 th (t.asked1 f)

/-- A procedure's parameters. -/
theorem proc_cell {T M : Nat} {cv pv gv fv sv rv : Value} {kvs : List Value} {FC : List Nat} (h : ThAt W T M cv pv gv fv sv rv kvs th FC FT) (p : Nat) (hp : p < th.c.procs.length) : ∃ g C, W.cell? ⟨T, 1, none⟩ = some (.slice (some ⟨g, 0, none⟩) th.c.procs.length C) ∧ W.cell? ⟨g, p * 2, none⟩ = some (.int .i64 (th.c.procs.getD p ⟨0, []⟩).params) ∧ g < W.heap.size ∧ pv = .slice (some ⟨g, 0, none⟩) th.c.procs.length C := by
  obtain ⟨g, C, e⟩ : ∃ g C, pv = .slice (some ⟨g, 0, none⟩) th.c.procs.length C := by
    rcases h.oc.pr.2 with ⟨_, h0⟩ | ⟨g, cap, cur, e, _⟩
    · omega
    · exact ⟨g, cap, e⟩
  have hpr := h.oc.pr
  rw [e] at hpr
  have k1 := (own_cell hpr (p * 2 + 0) (by omega)).1
  rw [flatP_at _ _ _ 0 h.oc.kl hp (by decide)] at k1
  exact ⟨g, C, by rw [← e]; exact h.b.cell 1, k1, hpr.lt rfl, e⟩
theorem pv_lit {T M : Nat} {cv pv gv fv sv rv : Value} {kvs : List Value} {FC : List Nat} (h : ThAt W T M cv pv gv fv sv rv kvs th FC FT) : ∃ A C, W.cell? ⟨T, 1, none⟩ = some (.slice A th.c.procs.length C) := by
  obtain ⟨A, C, e⟩ := h.oc.pr.lit
  exact ⟨A, C, by rw [← e]; exact h.b.cell 1⟩

set_option maxHeartbeats 4000000 in
set_option maxRecDepth 100000 in
theorem enters_any (h : Sit k w th t FT G) (hfi : t.Fine) (f : Int) (hfr : 0 ≤ f ∧ f < 18446744073709551616) (params : Nat) (hnum : 0 ≤ th.number ∧ th.number < 18446744073709551616) (_ : th.phase < 2) (hkk : t.kinds < 1000000) :
    Calls Tryz.prog 92 #[.pointer (some ⟨k.T, 0, none⟩), toyV k.H, .int .u64 f, .int .i64 params] w (EntP k w FT G (entersM f params th t)) := by
  unfold entersM
  have HC := Lib.hid (fun W FT' G' (h : Sit k W th t FT' G') => cell2_any h hfi f 3 182 hfr)
  have HFI := Lib.hid (asked1_fine t f hfi hkk)
  obtain ⟨ec1, ec2⟩ := asked1_cel t f (cellN f)
  have HH : Hid (t.kinded f 3 = true → t.has (cellN f) = true) := Lib.hid (fun h => kinded_has h (by decide))
  have HL0 := Lib.hid (fun (hk : t.kinded f 3 = true) W FT' G' th (h : Sit k W th (t.asked1 f) FT' G') => load2_any h HFI.out (cellN f) (by rw [ec2]; exact HH.out hk) 0 (.inl rfl))
  have HL1 := Lib.hid (fun (hk : t.kinded f 3 = true) W FT' G' th (h : Sit k W th (t.asked1 f) FT' G') => load2_any h HFI.out (cellN f) (by rw [ec2]; exact HH.out hk) 1 (.inr rfl))
  simp only [ec1] at HL0
  simp only [ec1, if_true] at HL1
  have HB := Lib.hid (VB.open_ h)
  obtain ⟨n, hn⟩ : ∃ y, y = cellN f := ⟨_, rfl⟩
  rw [← hn] at HC HL0 HL1 ⊢
  obtain ⟨xa, hxa⟩ : ∃ x, x = (t.cel n).a := ⟨_, rfl⟩
  obtain ⟨xb, hxb⟩ : ∃ x, x = (t.cel n).b := ⟨_, rfl⟩
  rw [show (if (0 : Int) = 1 then (t.cel n).b else (t.cel n).a) = (t.cel n).a from by simp, ← hxa] at HL0
  rw [← hxb] at HL1
  rw [← hxa, ← hxb]
  obtain ⟨tt, htt⟩ : ∃ s, s = t.asked1 f := ⟨_, rfl⟩
  rw [← htt] at HC HL0 HL1 ⊢
  obtain ⟨kb, hkb⟩ : ∃ b, b = t.kinded f 3 := ⟨_, rfl⟩
  rw [← hkb] at HC HL0 HL1 ⊢
  clear h hn hxa hxb htt ec1 ec2 HFI HH hkb hfi
  unfold toyV at *
  cases kb with
  | false =>
    simp only [Bool.false_eq_true, if_false] at HC ⊢
    unfold EntP
    clear HL0 HL1
    go_enter Tryz.func92, Tryz.ntmps92
    go_wp2_with fail
    obtain ⟨w0, hw0⟩ : ∃ w0, w0 = w.alloc (.cells #[.int .i64 0, .int .u8 0, .int .i64 0, .int .i64 0, .int .u64 0, .int .u64 0, .slice none 0 0, .int .i64 0, .bool false, .int .i64 0] 44) := ⟨_, rfl⟩
    rw [← hw0]
    have HB0 := Lib.hid (HB.out.box zeros hw0)
    clear hw0
    refine (HC.out _ _ _ HB0.out.sit).mono ?_
    rintro e w1 ⟨rfl, hlf⟩
    obtain ⟨FT1, G1, hb1⟩ := HB0.out.call hlf
    have HB1 := Lib.hid hb1
    clear hlf hb1 HC HB0
    exact ⟨rfl, rfl, HB1.out.lf⟩
  | true =>
    simp only [if_true] at HC ⊢
    have HL0' := Lib.hid (HL0.out rfl)
    have HL1' := Lib.hid (HL1.out rfl)
    simp only [evC] at HL0' HL1'
    clear HL0 HL1
    by_cases hp0 : th.phase = 0
    · rw [if_pos hp0]
      unfold EntP
      have hp0' : ((th.phase : Int) == 0) = true := by rw [hp0]; rfl
      go_enter Tryz.func92, Tryz.ntmps92
      go_wp2_with fail
      obtain ⟨w0, hw0⟩ : ∃ w0, w0 = w.alloc (.cells #[.int .i64 0, .int .u8 0, .int .i64 0, .int .i64 0, .int .u64 0, .int .u64 0, .slice none 0 0, .int .i64 0, .bool false, .int .i64 0] 44) := ⟨_, rfl⟩
      rw [← hw0]
      have HB0 := Lib.hid (HB.out.box zeros hw0)
      clear hw0
      refine (HC.out _ _ _ HB0.out.sit).mono ?_
      rintro e w1 ⟨rfl, hlf⟩
      obtain ⟨FT1, G1, hb1⟩ := HB0.out.call hlf
      have HB1 := Lib.hid hb1
      clear hlf hb1 HC HB0
      obtain ⟨fv, sv, rv, q⟩ := HB1.out.sit.vt.th
      have t6 : w1.cell? ⟨k.T, 6, none⟩ = some (.int .i64 th.phase) := q.b.cell 6
      have t7 : w1.cell? ⟨k.T, 7, none⟩ = some (.int .u64 th.number) := q.b.cell 7
      have tz := q.b.lt
      have tf := q.b.frozen
      clear q
      go_wp2_with fail
      refine (HL0'.out _ _ _ _ HB1.out.sit).mono ?_
      rintro e w2 ⟨x2, hx2, rfl, hlf⟩
      subst hx2
      obtain ⟨FT2, G2, hb2⟩ := HB1.out.call hlf
      have HB2 := Lib.hid hb2
      clear hlf hb2 HL0' HL1' t6 t7 tz tf HB1
      go_upto_region 4 with fail
      obtain ⟨w3, hwn⟩ : ∃ wb, wb = w2.alloc (.cells #[.int .i64 0, .int .u8 1, .int .i64 n, .int .i64 0, .int .u64 x2, .int .u64 x2, .slice none 0 0, .int .i64 0, .bool false, .int .i64 0] 44) := ⟨_, rfl⟩
      rw [← hwn]
      have HB3 := Lib.hid (HB2.out.box (evC { what := 1, cell := n, field := 0, old := x2, new := x2 } (.slice none 0 0)) hwn)
      clear hwn
      obtain ⟨fv, sv, rv, q⟩ := HB3.out.sit.vt.th
      have t6 : w3.cell? ⟨k.T, 6, none⟩ = some (.int .i64 th.phase) := q.b.cell 6
      have t7 : w3.cell? ⟨k.T, 7, none⟩ = some (.int .u64 th.number) := q.b.cell 7
      have tz := q.b.lt
      have tf := q.b.frozen
      have HQ := Lib.hid q
      obtain ⟨e0, e1, e2, e3, e4, e5, e6, e7, e8, e9, ez, ef⟩ := HB3.out.get (List.Mem.head _)
      obtain ⟨r0, r1, r2, r3, r4, r5, r6, r7, r8, r9, rz, rf⟩ := HB3.out.get (List.mem_cons_of_mem _ (List.Mem.head _))
      have hTR : ¬ w.heap.size = k.T := fun e => (HB3.out.bx _ (List.mem_cons_of_mem _ (List.Mem.head _))).2.2.1 (by rw [e]; exact HQ.out.inT)
      have hTE : ¬ w2.heap.size = k.T := fun e => (HB3.out.bx _ (List.Mem.head _)).2.2.1 (by rw [e]; exact HQ.out.inT)
      clear q
      go_wp2_with fail
      refine bodyPost_ret (v := .agg (evC { what := 1, cell := n, field := 0, old := x2, new := x2 } (.slice none 0 0)).toArray) (by simp [results, Tryz.results92, go_sem, evC, r0, r1, r2, r3, r4, r5, r6, r7, r8, r9]) rfl ?_
      have h1 := HQ.out.scal (th' := { th with number := x2 }) 7 (.int .u64 x2) rfl rfl rfl rfl rfl
      have h2 := h1.scal (th' := { th with number := x2, phase := 1 }) 6 (.int .i64 1) rfl rfl rfl rfl rfl
      obtain ⟨FT4, G4, h4⟩ := HB3.out.callT (Gs.of h2 (((Same.refl FT2 w3).setCell (.inl HQ.out.inT) _).setCell (.inl HQ.out.inT) _))
      exact ⟨_, rfl, h4.fin (List.mem_cons_of_mem _ (List.Mem.head _)) (same10 (Same.refl _ _) (.inl (by simp)) _ _ _ _ _ _ _ _ _ _)⟩
    · rw [if_neg hp0]
      have hp0' : ((th.phase : Int) == 0) = false := by rw [beq_eq_false_iff_ne]; omega
      unfold fitsP
      obtain ⟨isb, hisb⟩ : ∃ b, b = (ofT' th.number == 5) := ⟨_, rfl⟩
      obtain ⟨p, hp⟩ : ∃ b, b = ofN' th.number := ⟨_, rfl⟩
      have HI := Lib.hid (fun W (hv : Vars W) => integer_any (w := W) th.number hnum hv)
      rw [← hisb, ← hp] at HI ⊢
      obtain ⟨L, hL⟩ : ∃ L, L = th.c.procs.length := ⟨_, rfl⟩
      rw [← hL]
      have HLL := Lib.hid hL
      clear hisb hp hL hnum hp0 HL0'
      cases isb with
      | false =>
        simp only [Bool.false_and, Bool.false_eq_true, if_false]
        unfold EntP
        go_enter Tryz.func92, Tryz.ntmps92
        go_wp2_with fail
        obtain ⟨w0, hw0⟩ : ∃ w0, w0 = w.alloc (.cells #[.int .i64 0, .int .u8 0, .int .i64 0, .int .i64 0, .int .u64 0, .int .u64 0, .slice none 0 0, .int .i64 0, .bool false, .int .i64 0] 44) := ⟨_, rfl⟩
        rw [← hw0]
        have HB0 := Lib.hid (HB.out.box zeros hw0)
        clear hw0
        refine (HC.out _ _ _ HB0.out.sit).mono ?_
        rintro e w1 ⟨rfl, hlf⟩
        obtain ⟨FT1, G1, hb1⟩ := HB0.out.call hlf
        have HB1 := Lib.hid hb1
        clear hlf hb1 HC HB0
        obtain ⟨fv, sv, rv, q⟩ := HB1.out.sit.vt.th
        have t6 : w1.cell? ⟨k.T, 6, none⟩ = some (.int .i64 th.phase) := q.b.cell 6
        have t7 : w1.cell? ⟨k.T, 7, none⟩ = some (.int .u64 th.number) := q.b.cell 7
        have tz := q.b.lt
        have tf := q.b.frozen
        obtain ⟨PA, PC, c1⟩ := pv_lit q
        rw [← HLL.out] at c1
        clear q
        go_wp2_with fail
        refine (HI.out _ HB1.out.sit.vars).mono ?_
        rintro e w3 ⟨rfl, rfl⟩
        go_wp2_with fail
        refine (need_no 182).mono ?_
        rintro e w3 ⟨rfl, rfl⟩
        exact ⟨rfl, rfl, HB1.out.lf⟩
      | true =>
        simp only [Bool.true_and]
        by_cases hp0 : 0 ≤ p
        · by_cases hpL : p < (L : Int)
          · rw [if_pos (by simpa using And.intro hp0 hpL)]
            obtain ⟨pn, rfl⟩ : ∃ pn : Nat, p = pn := ⟨p.toNat, by omega⟩
            rw [Int.toNat_natCast]
            have d1 : decide ((0 : Int) ≤ (pn : Int)) = true := decide_eq_true hp0
            have d2 : decide ((pn : Int) < (L : Int)) = true := decide_eq_true hpL
            obtain ⟨pp, hpp⟩ : ∃ x, x = (th.c.procs.getD pn ⟨0, []⟩).params := ⟨_, rfl⟩
            rw [← hpp]
            have HPP := Lib.hid hpp
            clear hpp
            by_cases heq : pp = (params : Int)
            · rw [if_pos heq]
              have heq' : (pp == (params : Int)) = true := by simpa using heq
              by_cases hl : th.st.length < 256
              · rw [if_pos hl]
                unfold EntP
                go_enter Tryz.func92, Tryz.ntmps92
                go_wp2_with fail
                obtain ⟨w0, hw0⟩ : ∃ w0, w0 = w.alloc (.cells #[.int .i64 0, .int .u8 0, .int .i64 0, .int .i64 0, .int .u64 0, .int .u64 0, .slice none 0 0, .int .i64 0, .bool false, .int .i64 0] 44) := ⟨_, rfl⟩
                rw [← hw0]
                have HB0 := Lib.hid (HB.out.box zeros hw0)
                clear hw0
                refine (HC.out _ _ _ HB0.out.sit).mono ?_
                rintro e w1 ⟨rfl, hlf⟩
                obtain ⟨FT1, G1, hb1⟩ := HB0.out.call hlf
                have HB1 := Lib.hid hb1
                clear hlf hb1 HC HB0
                obtain ⟨fv, sv, rv, q⟩ := HB1.out.sit.vt.th
                have t6 : w1.cell? ⟨k.T, 6, none⟩ = some (.int .i64 th.phase) := q.b.cell 6
                have t7 : w1.cell? ⟨k.T, 7, none⟩ = some (.int .u64 th.number) := q.b.cell 7
                have tz := q.b.lt
                have tf := q.b.frozen
                obtain ⟨PA, PC, c1⟩ := pv_lit q
                rw [← HLL.out] at c1
                clear q
                go_wp2_with fail
                refine (HI.out _ HB1.out.sit.vars).mono ?_
                rintro e w3 ⟨rfl, rfl⟩
                go_wp2_with fail
                refine (need_yes 182).mono ?_
                rintro e w3 ⟨rfl, rfl⟩
                obtain ⟨fv, sv, rv, q⟩ := HB1.out.sit.vt.th
                obtain ⟨pg, PC2, c1', kp, gz, -⟩ := proc_cell q pn (by rw [← HLL.out]; omega)
                rw [← HLL.out] at c1'
                rw [c1] at c1'
                injection c1' with c1'
                injection c1' with c1a _ c1b
                subst c1a c1b
                rw [← HPP.out] at kp
                clear q
                go_wp2_with fail
                refine (need_yes 183).mono ?_
                rintro e w3 ⟨rfl, rfl⟩
                go_wp2_with fail
                obtain ⟨fv, sv, rv, q⟩ := HB1.out.sit.vt.th
                refine (room_yes q hl).mono ?_
                rintro e w3 ⟨rfl, rfl⟩
                clear q t6 t7 tz tf c1 kp gz
                go_wp2_with fail
                refine (HL1'.out _ _ _ _ HB1.out.sit).mono ?_
                rintro e w2 ⟨x2, hx2, rfl, hlf⟩
                subst hx2
                obtain ⟨FT2, G2, hb2⟩ := HB1.out.call hlf
                have HB2 := Lib.hid hb2
                clear hlf hb2 HL1' HB1
                go_upto_region 12 with fail
                obtain ⟨w3, hwn⟩ : ∃ wb, wb = w2.alloc (.cells #[.int .i64 0, .int .u8 1, .int .i64 n, .int .i64 1, .int .u64 x2, .int .u64 x2, .slice none 0 0, .int .i64 0, .bool false, .int .i64 0] 44) := ⟨_, rfl⟩
                rw [← hwn]
                have HB3 := Lib.hid (HB2.out.box (evC { what := 1, cell := n, field := 1, old := x2, new := x2 } (.slice none 0 0)) hwn)
                clear hwn
                go_wp2_with fail
                obtain ⟨fv, sv, rv, q⟩ := HB3.out.sit.vt.th
                refine (push_any q hl x2).mono ?_
                rintro e w4 ⟨rfl, hg⟩
                obtain ⟨FT_w4, G_w4, hb_⟩ := HB3.out.callT hg
                have HB4 := Lib.hid hb_
                clear hg hb_ q
                obtain ⟨fv, sv, rv, q⟩ := HB4.out.sit.vt.th
                have t6 : w4.cell? ⟨k.T, 6, none⟩ = some (.int .i64 th.phase) := q.b.cell 6
                have tf := q.b.frozen
                have HQ := Lib.hid q
                obtain ⟨e0, e1, e2, e3, e4, e5, e6, e7, e8, e9, ez, ef⟩ := HB4.out.get (List.Mem.head _)
                obtain ⟨r0, r1, r2, r3, r4, r5, r6, r7, r8, r9, rz, rf⟩ := HB4.out.get (List.mem_cons_of_mem _ (List.Mem.head _))
                have hTR : ¬ w.heap.size = k.T := fun e => (HB4.out.bx _ (List.mem_cons_of_mem _ (List.Mem.head _))).2.2.1 (by rw [e]; exact HQ.out.inT)
                have hTE : ¬ w2.heap.size = k.T := fun e => (HB4.out.bx _ (List.Mem.head _)).2.2.1 (by rw [e]; exact HQ.out.inT)
                clear q
                go_wp2_with fail
                refine bodyPost_ret (v := .agg (evC { what := 1, cell := n, field := 1, old := x2, new := x2 } (.slice none 0 0)).toArray) (by simp [results, Tryz.results92, go_sem, evC, r0, r1, r2, r3, r4, r5, r6, r7, r8, r9]) rfl ?_
                have h2 := HQ.out.scal (th' := { th with st := th.st ++ [x2], phase := 2 }) 6 (.int .i64 2) rfl rfl rfl rfl rfl
                obtain ⟨FT4, G4, h4⟩ := HB4.out.callT (Gs.of h2 ((Same.refl FT_w4 w4).setCell (.inl HQ.out.inT) _))
                exact ⟨_, rfl, h4.fin (List.mem_cons_of_mem _ (List.Mem.head _)) (same10 (Same.refl _ _) (.inl (by simp)) _ _ _ _ _ _ _ _ _ _)⟩
              · rw [if_neg hl]
                unfold EntP
                go_enter Tryz.func92, Tryz.ntmps92
                go_wp2_with fail
                obtain ⟨w0, hw0⟩ : ∃ w0, w0 = w.alloc (.cells #[.int .i64 0, .int .u8 0, .int .i64 0, .int .i64 0, .int .u64 0, .int .u64 0, .slice none 0 0, .int .i64 0, .bool false, .int .i64 0] 44) := ⟨_, rfl⟩
                rw [← hw0]
                have HB0 := Lib.hid (HB.out.box zeros hw0)
                clear hw0
                refine (HC.out _ _ _ HB0.out.sit).mono ?_
                rintro e w1 ⟨rfl, hlf⟩
                obtain ⟨FT1, G1, hb1⟩ := HB0.out.call hlf
                have HB1 := Lib.hid hb1
                clear hlf hb1 HC HB0
                obtain ⟨fv, sv, rv, q⟩ := HB1.out.sit.vt.th
                have t6 : w1.cell? ⟨k.T, 6, none⟩ = some (.int .i64 th.phase) := q.b.cell 6
                have t7 : w1.cell? ⟨k.T, 7, none⟩ = some (.int .u64 th.number) := q.b.cell 7
                have tz := q.b.lt
                have tf := q.b.frozen
                obtain ⟨PA, PC, c1⟩ := pv_lit q
                rw [← HLL.out] at c1
                clear q
                go_wp2_with fail
                refine (HI.out _ HB1.out.sit.vars).mono ?_
                rintro e w3 ⟨rfl, rfl⟩
                go_wp2_with fail
                refine (need_yes 182).mono ?_
                rintro e w3 ⟨rfl, rfl⟩
                obtain ⟨fv, sv, rv, q⟩ := HB1.out.sit.vt.th
                obtain ⟨pg, PC2, c1', kp, gz, -⟩ := proc_cell q pn (by rw [← HLL.out]; omega)
                rw [← HLL.out] at c1'
                rw [c1] at c1'
                injection c1' with c1'
                injection c1' with c1a _ c1b
                subst c1a c1b
                rw [← HPP.out] at kp
                clear q
                go_wp2_with fail
                refine (need_yes 183).mono ?_
                rintro e w3 ⟨rfl, rfl⟩
                go_wp2_with fail
                obtain ⟨fv, sv, rv, q⟩ := HB1.out.sit.vt.th
                refine (room_no q (by omega)).mono ?_
                rintro e w3 ⟨rfl, rfl⟩
                exact ⟨rfl, rfl, HB1.out.lf⟩
            · rw [if_neg heq]
              have heq' : (pp == (params : Int)) = false := by simpa using heq
              unfold EntP
              go_enter Tryz.func92, Tryz.ntmps92
              go_wp2_with fail
              obtain ⟨w0, hw0⟩ : ∃ w0, w0 = w.alloc (.cells #[.int .i64 0, .int .u8 0, .int .i64 0, .int .i64 0, .int .u64 0, .int .u64 0, .slice none 0 0, .int .i64 0, .bool false, .int .i64 0] 44) := ⟨_, rfl⟩
              rw [← hw0]
              have HB0 := Lib.hid (HB.out.box zeros hw0)
              clear hw0
              refine (HC.out _ _ _ HB0.out.sit).mono ?_
              rintro e w1 ⟨rfl, hlf⟩
              obtain ⟨FT1, G1, hb1⟩ := HB0.out.call hlf
              have HB1 := Lib.hid hb1
              clear hlf hb1 HC HB0
              obtain ⟨fv, sv, rv, q⟩ := HB1.out.sit.vt.th
              have t6 : w1.cell? ⟨k.T, 6, none⟩ = some (.int .i64 th.phase) := q.b.cell 6
              have t7 : w1.cell? ⟨k.T, 7, none⟩ = some (.int .u64 th.number) := q.b.cell 7
              have tz := q.b.lt
              have tf := q.b.frozen
              obtain ⟨PA, PC, c1⟩ := pv_lit q
              rw [← HLL.out] at c1
              clear q
              go_wp2_with fail
              refine (HI.out _ HB1.out.sit.vars).mono ?_
              rintro e w3 ⟨rfl, rfl⟩
              go_wp2_with fail
              refine (need_yes 182).mono ?_
              rintro e w3 ⟨rfl, rfl⟩
              obtain ⟨fv, sv, rv, q⟩ := HB1.out.sit.vt.th
              obtain ⟨pg, PC2, c1', kp, gz, -⟩ := proc_cell q pn (by rw [← HLL.out]; omega)
              rw [← HLL.out] at c1'
              rw [c1] at c1'
              injection c1' with c1'
              injection c1' with c1a _ c1b
              subst c1a c1b
              rw [← HPP.out] at kp
              clear q
              go_wp2_with fail
              refine (need_no 183).mono ?_
              rintro e w3 ⟨rfl, rfl⟩
              exact ⟨rfl, rfl, HB1.out.lf⟩
          · rw [if_neg (by simp; omega)]
            unfold EntP
            have d1 : decide ((0 : Int) ≤ p) = true := decide_eq_true hp0
            have d2 : decide (p < (L : Int)) = false := decide_eq_false hpL
            go_enter Tryz.func92, Tryz.ntmps92
            go_wp2_with fail
            obtain ⟨w0, hw0⟩ : ∃ w0, w0 = w.alloc (.cells #[.int .i64 0, .int .u8 0, .int .i64 0, .int .i64 0, .int .u64 0, .int .u64 0, .slice none 0 0, .int .i64 0, .bool false, .int .i64 0] 44) := ⟨_, rfl⟩
            rw [← hw0]
            have HB0 := Lib.hid (HB.out.box zeros hw0)
            clear hw0
            refine (HC.out _ _ _ HB0.out.sit).mono ?_
            rintro e w1 ⟨rfl, hlf⟩
            obtain ⟨FT1, G1, hb1⟩ := HB0.out.call hlf
            have HB1 := Lib.hid hb1
            clear hlf hb1 HC HB0
            obtain ⟨fv, sv, rv, q⟩ := HB1.out.sit.vt.th
            have t6 : w1.cell? ⟨k.T, 6, none⟩ = some (.int .i64 th.phase) := q.b.cell 6
            have t7 : w1.cell? ⟨k.T, 7, none⟩ = some (.int .u64 th.number) := q.b.cell 7
            have tz := q.b.lt
            have tf := q.b.frozen
            obtain ⟨PA, PC, c1⟩ := pv_lit q
            rw [← HLL.out] at c1
            clear q
            go_wp2_with fail
            refine (HI.out _ HB1.out.sit.vars).mono ?_
            rintro e w3 ⟨rfl, rfl⟩
            go_wp2_with fail
            refine (need_no 182).mono ?_
            rintro e w3 ⟨rfl, rfl⟩
            exact ⟨rfl, rfl, HB1.out.lf⟩
        · rw [if_neg (by simp; omega)]
          unfold EntP
          have d1 : decide ((0 : Int) ≤ p) = false := decide_eq_false hp0
          go_enter Tryz.func92, Tryz.ntmps92
          go_wp2_with fail
          obtain ⟨w0, hw0⟩ : ∃ w0, w0 = w.alloc (.cells #[.int .i64 0, .int .u8 0, .int .i64 0, .int .i64 0, .int .u64 0, .int .u64 0, .slice none 0 0, .int .i64 0, .bool false, .int .i64 0] 44) := ⟨_, rfl⟩
          rw [← hw0]
          have HB0 := Lib.hid (HB.out.box zeros hw0)
          clear hw0
          refine (HC.out _ _ _ HB0.out.sit).mono ?_
          rintro e w1 ⟨rfl, hlf⟩
          obtain ⟨FT1, G1, hb1⟩ := HB0.out.call hlf
          have HB1 := Lib.hid hb1
          clear hlf hb1 HC HB0
          obtain ⟨fv, sv, rv, q⟩ := HB1.out.sit.vt.th
          have t6 : w1.cell? ⟨k.T, 6, none⟩ = some (.int .i64 th.phase) := q.b.cell 6
          have t7 : w1.cell? ⟨k.T, 7, none⟩ = some (.int .u64 th.number) := q.b.cell 7
          have tz := q.b.lt
          have tf := q.b.frozen
          obtain ⟨PA, PC, c1⟩ := pv_lit q
          rw [← HLL.out] at c1
          clear q
          go_wp2_with fail
          refine (HI.out _ HB1.out.sit.vars).mono ?_
          rintro e w3 ⟨rfl, rfl⟩
          go_wp2_with fail
          refine (need_no 182).mono ?_
          rintro e w3 ⟨rfl, rfl⟩
          exact ⟨rfl, rfl, HB1.out.lf⟩
end Vm
end Go.Proofs.YtkepcdbogeineaaGreatDoor
