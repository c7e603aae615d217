/- Instructions: tail. (Printed by mkVmIg.py.) -/
import Derived.Test.YtkepcdbogeineaaGreatDoorVmIf
namespace Go.Proofs.YtkepcdbogeineaaGreatDoor
open Go.RowKit Hp Ck
namespace Vm
variable {w w' w1 W W' : World} {k : Kx} {th th' : Th} {FT G G1 : List Nat} {t t' : Toy}

/-- A call in tail place that is ready begins a frame in the place of its own. -/
def Th.tailed (th : Th) : Th := ({ th with fr := th.fr.take (th.fr.length - 1) } : Th).begin th.top.base
def tailO (ready : Bool) : Out → Out
  | .did ev l th t => .did ev l (if ready then th.tailed else th) t
  | .fail er th t => .fail er th t
  | .quiet th t => .quiet th t

set_option maxHeartbeats 4000000 in
set_option maxRecDepth 100000 in
theorem tail_any (h : Sit k w th t FT G) (o : Out) (rd : Bool) (a : Nat) (hA : ∀ W FT' G', Sit k W th t FT' G' → Calls Tryz.prog 83 #[.pointer (some ⟨k.T, 0, none⟩), toyV k.H, .int .i64 a] W (ApP k W FT' G' rd o))
    (hq : ∀ th t, o ≠ .quiet th t) (hr : rd = true → ∀ ev l th2 t2, o = .did ev l th2 t2 → th2.fr ≠ [] ∧ 0 < th2.st.length ∧ th2.top.base ≤ th2.st.length ∧ th2.fr.length ≤ 1000000 ∧ (0 ≤ th2.number ∧ th2.number < 18446744073709551616) ∧ 0 ≤ ofN' th2.number) :
    Calls Tryz.prog 53 #[.pointer (some ⟨k.T, 0, none⟩), toyV k.H, .int .i64 a] w (InsP k w FT G (tailO rd o)) := by
  have HB := Lib.hid (VB.open_ h)
  clear h
  unfold toyV at *
  cases o with
  | quiet a b => exact absurd rfl (hq a b)
  | fail er th2 t2 =>
    unfold tailO InsP FailP
    have HA := Lib.hid hA
    unfold ApP at HA
    clear hA hr hq
    go_enter Tryz.func53, Tryz.ntmps53
    go_wp2_with fail
    obtain ⟨w0, hw0⟩ : ∃ w0, w0 = w.alloc (.cells #[.int .i64 0, .int .u8 0, .int .i64 0, .int .i64 0, .int .u64 0, .int .u64 0, .slice none 0 0, .int .i64 0, .bool false, .int .i64 0] 44) := ⟨_, rfl⟩
    rw [← hw0]
    have HB0 := Lib.hid (HB.out.box zeros hw0)
    clear hw0
    refine (HA.out _ _ _ HB0.out.sit).mono ?_
    rintro e w4 ⟨rfl, hlf⟩
    obtain ⟨FT2, G2, hb2⟩ := HB0.out.call hlf
    exact ⟨rfl, rfl, hb2.lf⟩
  | did ev l th2 t2 =>
    unfold tailO InsP DidP
    have HA := Lib.hid hA
    unfold ApP at HA
    simp only [evC] at HA
    cases rd with
    | false =>
      simp only [Bool.false_eq_true, if_false]
      clear hA hr hq
      go_enter Tryz.func53, Tryz.ntmps53
      go_wp2_with fail
      obtain ⟨w0, hw0⟩ : ∃ w0, w0 = w.alloc (.cells #[.int .i64 0, .int .u8 0, .int .i64 0, .int .i64 0, .int .u64 0, .int .u64 0, .slice none 0 0, .int .i64 0, .bool false, .int .i64 0] 44) := ⟨_, rfl⟩
      rw [← hw0]
      have HB0 := Lib.hid (HB.out.box zeros hw0)
      clear hw0
      refine (HA.out _ _ _ HB0.out.sit).mono ?_
      rintro e w4 ⟨v, rfl, hlf⟩
      obtain ⟨A9, C9, rfl⟩ := hlf.form
      obtain ⟨FT2, G2, hb2⟩ := HB0.out.call hlf
      have HB3 := Lib.hid hb2
      clear hlf hb2 HA HB0
      go_upto_region 2 with fail
      obtain ⟨w5, hw5⟩ : ∃ wb, wb = w4.alloc (.cells #[.int .i64 0, .int .u8 ev.what, .int .i64 ev.cell, .int .i64 ev.field, .int .u64 ev.old, .int .u64 ev.new, .slice A9 l.length C9, .int .i64 ev.other, .bool ev.yes, .int .i64 ev.err] 44) := ⟨_, rfl⟩
      rw [← hw5]
      have HB4 := Lib.hid (HB3.out.box (evC ev (.slice A9 l.length C9)) hw5)
      clear hw5 HB3
      obtain ⟨e0, e1, e2, e3, e4, e5, e6, e7, e8, e9, ez, ef⟩ := HB4.out.get (List.Mem.head _)
      obtain ⟨r0, r1, r2, r3, r4, r5, r6, r7, r8, r9, rz, rf⟩ := HB4.out.get (List.mem_cons_of_mem _ (List.Mem.head _))
      go_wp2_with fail
      refine bodyPost_ret (v := .tuple #[.agg (evC ev (.slice A9 l.length C9)).toArray, .bool true]) (by simp [results, Tryz.results53, go_sem, evC, r0, r1, r2, r3, r4, r5, r6, r7, r8, r9]) rfl ?_
      exact ⟨_, rfl, HB4.out.fin (List.mem_cons_of_mem _ (List.Mem.head _)) (same10 (Same.refl _ _) (.inl (by simp)) _ _ _ _ _ _ _ _ _ _)⟩
    | true =>
      obtain ⟨hf2, hst2, hb2, hfl2, hnum2, hp2⟩ := hr rfl _ _ _ _ rfl
      simp only [if_true]
      clear hA hr hq
      go_enter Tryz.func53, Tryz.ntmps53
      go_wp2_with fail
      obtain ⟨w0, hw0⟩ : ∃ w0, w0 = w.alloc (.cells #[.int .i64 0, .int .u8 0, .int .i64 0, .int .i64 0, .int .u64 0, .int .u64 0, .slice none 0 0, .int .i64 0, .bool false, .int .i64 0] 44) := ⟨_, rfl⟩
      rw [← hw0]
      have HB0 := Lib.hid (HB.out.box zeros hw0)
      clear hw0
      refine (HA.out _ _ _ HB0.out.sit).mono ?_
      rintro e w4 ⟨v, rfl, hlf⟩
      obtain ⟨A9, C9, rfl⟩ := hlf.form
      obtain ⟨FT2, G2, hb2⟩ := HB0.out.call hlf
      have HB3 := Lib.hid hb2
      clear hlf hb2 HA HB0
      go_upto_region 2 with fail
      obtain ⟨w5, hw5⟩ : ∃ wb, wb = w4.alloc (.cells #[.int .i64 0, .int .u8 ev.what, .int .i64 ev.cell, .int .i64 ev.field, .int .u64 ev.old, .int .u64 ev.new, .slice A9 l.length C9, .int .i64 ev.other, .bool ev.yes, .int .i64 ev.err] 44) := ⟨_, rfl⟩
      rw [← hw5]
      have HB4 := Lib.hid (HB3.out.box (evC ev (.slice A9 l.length C9)) hw5)
      clear hw5 HB3
      go_wp2_with fail
      obtain ⟨fv, sv, rv, q⟩ := HB4.out.sit.vt.th
      have HQ := Lib.hid q
      refine (frame_any q hf2).mono ?_
      rintro e w6 ⟨g6, D6, rfl, rfl, hs6⟩
      obtain ⟨m1, -, m3⟩ := env_cell HQ.out hf2 g6 D6 rfl 3 (by decide)
      have m1' : w6.cell? ⟨g6, (th2.fr.length - 1) * 4 + 3, none⟩ = some (.int .i64 th2.top.base) := (hs6.cell m3 (by simp)).trans m1
      have HB5 := Lib.hid (HB4.out.same hs6)
      have HQ6 := Lib.hid (HQ.out.frame0 hs6)
      have c4 : w6.cell? ⟨k.T, 4, none⟩ = some (.slice (some ⟨g6, 0, none⟩) th2.fr.length D6) := HQ6.out.b.cell 4
      have tf := HQ6.out.b.frozen
      have hLD : th2.fr.length ≤ D6 ∧ D6 ≤ 9223372036854775807 := by
        rcases HQ6.out.fr.2 with ⟨e1, h0⟩ | ⟨g, cap, cur, e1, _, _, h1, h2, _⟩
        · cases e1
        · injection e1 with _ _ e3
          unfold maxLen at h2
          omega
      obtain ⟨L, hL⟩ : ∃ L, L = th2.fr.length := ⟨_, rfl⟩
      have hLp : 0 < L := by rw [hL]; exact List.length_pos_iff.2 hf2
      rw [← hL] at c4 hLD
      have HL := Lib.hid hL
      have m4 : IntKind.i64.wrap ((L : Int) - 1) = (L : Int) - 1 := by rw [IntKind.wrap_i64]; omega
      have m5 : (0 : Int) ≤ (L : Int) - 1 := by omega
      have m6 : (L : Int) - 1 ≤ (D6 : Int) := by omega
      have m7 : ((L : Int) - 1).toNat = L - 1 := by omega
      clear m1 m3 hs6 q HQ HB4 hL
      go_wp2_with fail
      clear m1'

      go_cut [] (fun wx => ∃ FT1 G1, VB k w wx { th2 with fr := th2.fr.take (L - 1) } t2 FT G FT1 G1 l (.slice A9 l.length C9) [(w4.heap.size, 44, evC ev (.slice A9 l.length C9)), (w.heap.size, 44, zeros)])
      case first =>
        go_region
        all_goals
          go_wp2_with fail
          go_meet
          have hd := HQ6.out.cutF (n := L - 1) (by rw [← HL.out]; omega) (Same.refl [] _)
          obtain ⟨FT3, G3, h3⟩ := HB5.out.callT (Gs.of hd ((Same.refl _ _).setCell (.inl HQ6.out.inT) _))
          exact ⟨FT3, G3, h3.same ((Same.refl [] _).drew)⟩
      case rest =>
        obtain ⟨FT3, G3, h6⟩ := hcut
        have HB6 := Lib.hid h6
        clear c4 tf hLD m4 m5 m6 m7 HQ6 HB5 h6
        go_wp2_with fail
        obtain ⟨fv, sv, rv, q⟩ := HB6.out.sit.vt.th
        have HBG := Lib.hid (begin_any q HB6.out.sit.vars hst2 th2.top.base hb2 (by simp only [List.length_take]; omega) hnum2 hp2)
        clear q
        refine HBG.out.mono ?_
        rintro e w8 ⟨rfl, hg⟩
        obtain ⟨FT4, G4, hb8⟩ := HB6.out.callT hg
        have e9 : ({ th2 with fr := th2.fr.take (L - 1) } : Th).begin th2.top.base = th2.tailed := by rw [HL.out]; rfl
        rw [e9] at hb8
        have HB8 := Lib.hid hb8
        clear hg hb8 HB6 HBG e9
        obtain ⟨e0, e1, e2, e3, e4, e5, e6, e7, e8, e9, ez, ef⟩ := HB8.out.get (List.Mem.head _)
        obtain ⟨r0, r1, r2, r3, r4, r5, r6, r7, r8, r9, rz, rf⟩ := HB8.out.get (List.mem_cons_of_mem _ (List.Mem.head _))
        go_wp2_with fail
        refine bodyPost_ret (v := .tuple #[.agg (evC ev (.slice A9 l.length C9)).toArray, .bool true]) (by simp [results, Tryz.results53, go_sem, evC, r0, r1, r2, r3, r4, r5, r6, r7, r8, r9]) rfl ?_
        exact ⟨_, rfl, HB8.out.fin (List.mem_cons_of_mem _ (List.Mem.head _)) (same10 (Same.refl _ _) (.inl (by simp)) _ _ _ _ _ _ _ _ _ _)⟩
end Vm
end Go.Proofs.YtkepcdbogeineaaGreatDoor
