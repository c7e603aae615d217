/- What a call does: applies, its first two accesses. (Printed by mkVmIe.py.) -/
import Derived.Test.YtkepcdbogeineaaGreatDoorVmId
import Derived.Deep.RegionHeld3
namespace Go.Proofs.YtkepcdbogeineaaGreatDoor
open Go.RowKit Hp Ck
namespace Vm
variable {w w' w1 W W' : World} {k : Kx} {th th' : Th} {FT G G1 : List Nat} {t t' : Toy}

/-- What applies leaves. -/
def ApP (k : Kx) (w : World) (FT G : List Nat) (ready : Bool) : Out → Ending → World → Prop
  | .quiet _ _, _, _ => False
  | .did ev l th t, e, w' => ∃ v, e = .returned (.tuple #[.agg (evC ev v).toArray, .bool ready]) ∧ Lf k w FT G th t l v w'
  | .fail er th t, e, w' => e = .panicked [{ v := .iface 88 (.agg #[.int .i64 er]), recovered := false }] ∧ Lf k w FT G th t [] (.slice none 0 0) w'

set_option maxHeartbeats 4000000 in
set_option maxRecDepth 100000 in
theorem applies1_any (h : Sit k w th t FT G) (o : Out) (n : Nat) (hn : n < th.st.length) (hph : th.phase < 2) (hE : ∀ W FT' G', Sit k W th t FT' G' → Calls Tryz.prog 92 #[.pointer (some ⟨k.T, 0, none⟩), toyV k.H, .int .u64 (th.at n), .int .i64 n] W (EntP k W FT' G' o)) (ready : Bool) (hr : ∀ ev l th2 t2, o = .did ev l th2 t2 → ready = (decide (th2.phase = 2) && decide (n = 0))) :
    Calls Tryz.prog 83 #[.pointer (some ⟨k.T, 0, none⟩), toyV k.H, .int .i64 n] w (ApP k w FT G ready o) := by
  have HT := Lib.hid (fun W fv sv rv FT' (h1 : ThAt W k.T k.M k.cv k.pv k.gv fv sv rv k.kvs th k.FC FT') => top_any h1 n hn)
  have HB := Lib.hid (VB.open_ h)
  obtain ⟨x, hx⟩ : ∃ x, x = th.at n := ⟨_, rfl⟩
  rw [← hx] at HT hE
  have hph' : (th.phase : Int) < 2 := by omega
  obtain ⟨t6, tz⟩ : w.cell? ⟨k.T, 6, none⟩ = some (.int .i64 th.phase) ∧ k.T < w.heap.size := by
    obtain ⟨fv, sv, rv, q⟩ := h.vt.th
    exact ⟨q.b.cell 6, q.b.lt⟩
  clear h hx
  unfold toyV at *
  cases o with
  | quiet a b =>
    have HE := Lib.hid hE
    unfold EntP at HE
    unfold ApP
    clear hE hr
    go_enter Tryz.func83, Tryz.ntmps83
    go_wp2_with fail
    obtain ⟨w0, hw0⟩ : ∃ w0, w0 = w.alloc (.cells #[.int .i64 0, .int .u8 0, .int .i64 0, .int .i64 0, .int .u64 0, .int .u64 0, .slice none 0 0, .int .i64 0, .bool false, .int .i64 0] 44) := ⟨_, rfl⟩
    rw [← hw0]
    have HB0 := Lib.hid (HB.out.box zeros hw0)
    clear hw0
    obtain ⟨fv, sv, rv, q⟩ := HB0.out.sit.vt.th
    have HQ := Lib.hid q
    clear q
    refine (HT.out _ _ _ _ _ HQ.out).mono ?_
    rintro e w1 ⟨g, C, -, rfl, kc, -, gz, -, hs1⟩
    have kc1 := (hs1.cell gz (by simp)).trans kc
    have HB1 := Lib.hid (HB0.out.same hs1)
    clear hs1 kc HT HQ HB0 t6 tz
    go_wp2_with fail
    refine (HE.out _ _ _ HB1.out.sit).mono ?_
    rintro e w2 hf
    exact hf.elim
  | fail er th2 t2 =>
    have HE := Lib.hid hE
    unfold EntP at HE
    unfold ApP
    clear hE hr
    go_enter Tryz.func83, Tryz.ntmps83
    go_wp2_with fail
    obtain ⟨w0, hw0⟩ : ∃ w0, w0 = w.alloc (.cells #[.int .i64 0, .int .u8 0, .int .i64 0, .int .i64 0, .int .u64 0, .int .u64 0, .slice none 0 0, .int .i64 0, .bool false, .int .i64 0] 44) := ⟨_, rfl⟩
    rw [← hw0]
    have HB0 := Lib.hid (HB.out.box zeros hw0)
    clear hw0
    obtain ⟨fv, sv, rv, q⟩ := HB0.out.sit.vt.th
    have HQ := Lib.hid q
    clear q
    refine (HT.out _ _ _ _ _ HQ.out).mono ?_
    rintro e w1 ⟨g, C, -, rfl, kc, -, gz, -, hs1⟩
    have kc1 := (hs1.cell gz (by simp)).trans kc
    have HB1 := Lib.hid (HB0.out.same hs1)
    clear hs1 kc HT HQ HB0 t6 tz
    go_wp2_with fail
    refine (HE.out _ _ _ HB1.out.sit).mono ?_
    rintro e w2 ⟨rfl, hlf⟩
    obtain ⟨FT1, G1, hb1⟩ := HB1.out.call hlf
    exact ⟨rfl, rfl, hb1.lf⟩
  | did ev l th2 t2 =>
    have hrd := hr ev l th2 t2 rfl
    have HE := Lib.hid hE
    unfold EntP at HE
    simp only [evC] at HE
    unfold ApP
    clear hE hr
    go_enter Tryz.func83, Tryz.ntmps83
    go_wp2_with fail
    obtain ⟨w0, hw0⟩ : ∃ w0, w0 = w.alloc (.cells #[.int .i64 0, .int .u8 0, .int .i64 0, .int .i64 0, .int .u64 0, .int .u64 0, .slice none 0 0, .int .i64 0, .bool false, .int .i64 0] 44) := ⟨_, rfl⟩
    rw [← hw0]
    have HB0 := Lib.hid (HB.out.box zeros hw0)
    clear hw0
    obtain ⟨fv, sv, rv, q⟩ := HB0.out.sit.vt.th
    have HQ := Lib.hid q
    clear q
    refine (HT.out _ _ _ _ _ HQ.out).mono ?_
    rintro e w1 ⟨g, C, -, rfl, kc, -, gz, -, hs1⟩
    have kc1 := (hs1.cell gz (by simp)).trans kc
    have HB1 := Lib.hid (HB0.out.same hs1)
    clear hs1 kc HT HQ HB0 t6 tz
    go_wp2_with fail
    refine (HE.out _ _ _ HB1.out.sit).mono ?_
    rintro e w2 ⟨v, rfl, hlf⟩
    obtain ⟨A9, C9, rfl⟩ := hlf.form
    obtain ⟨FT2, G2, hb2⟩ := HB1.out.call hlf
    have HB2 := Lib.hid hb2
    clear hlf hb2 HE HB1 kc1
    go_upto_region 3 with fail
    obtain ⟨w3, hw3⟩ : ∃ wb, wb = w2.alloc (.cells #[.int .i64 0, .int .u8 ev.what, .int .i64 ev.cell, .int .i64 ev.field, .int .u64 ev.old, .int .u64 ev.new, .slice A9 l.length C9, .int .i64 ev.other, .bool ev.yes, .int .i64 ev.err] 44) := ⟨_, rfl⟩
    rw [← hw3]
    have HB3 := Lib.hid (HB2.out.box (evC ev (.slice A9 l.length C9)) hw3)
    clear hw3 HB2
    obtain ⟨fv, sv, rv, q⟩ := HB3.out.sit.vt.th
    have t6 : w3.cell? ⟨k.T, 6, none⟩ = some (.int .i64 th2.phase) := q.b.cell 6
    have tz := q.b.lt
    have HQ := Lib.hid q
    obtain ⟨e0, e1, e2, e3, e4, e5, e6, e7, e8, e9, ez, ef⟩ := HB3.out.get (List.Mem.head _)
    obtain ⟨r0, r1, r2, r3, r4, r5, r6, r7, r8, r9, rz, rf⟩ := HB3.out.get (List.mem_cons_of_mem _ (List.Mem.head _))
    clear q
    obtain ⟨pb, hpb⟩ : ∃ b, b = decide (th2.phase = 2) := ⟨_, rfl⟩
    obtain ⟨nb, hnb⟩ : ∃ b, b = decide (n = 0) := ⟨_, rfl⟩
    rw [← hpb, ← hnb] at hrd
    have g1 : ((th2.phase : Int) == 2) = pb := by
      rw [hpb]
      by_cases h2 : th2.phase = 2
      · rw [h2]; rfl
      · rw [decide_eq_false h2, beq_eq_false_iff_ne]; omega
    have g2 : ((n : Int) == 0) = nb := by
      rw [hnb]
      by_cases h2 : n = 0
      · rw [h2]; rfl
      · rw [decide_eq_false h2, beq_eq_false_iff_ne]; omega
    subst hrd
    clear hpb hnb
    cases pb
    · clear g2
      go_region
      all_goals
        go_wp2_with fail
        refine bodyPost_ret (v := .tuple #[.agg (evC ev (.slice A9 l.length C9)).toArray, .bool false]) (by simp [results, Tryz.results83, go_sem, evC, r0, r1, r2, r3, r4, r5, r6, r7, r8, r9]) rfl ?_
        exact ⟨_, rfl, HB3.out.fin (List.mem_cons_of_mem _ (List.Mem.head _)) ((same10 (Same.refl _ _) (.inl (by simp)) _ _ _ _ _ _ _ _ _ _).drew)⟩
    · cases nb
      · clear hph hn
        go_region
        all_goals
          go_wp2_with fail
          refine bodyPost_ret (v := .tuple #[.agg (evC ev (.slice A9 l.length C9)).toArray, .bool false]) (by simp [results, Tryz.results83, go_sem, evC, r0, r1, r2, r3, r4, r5, r6, r7, r8, r9]) rfl ?_
          exact ⟨_, rfl, HB3.out.fin (List.mem_cons_of_mem _ (List.Mem.head _)) ((same10 (Same.refl _ _) (.inl (by simp)) _ _ _ _ _ _ _ _ _ _).drew)⟩
      · clear hph hn
        go_region
        all_goals
          go_wp2_with fail
          refine bodyPost_ret (v := .tuple #[.agg (evC ev (.slice A9 l.length C9)).toArray, .bool true]) (by simp [results, Tryz.results83, go_sem, evC, r0, r1, r2, r3, r4, r5, r6, r7, r8, r9]) rfl ?_
          exact ⟨_, rfl, HB3.out.fin (List.mem_cons_of_mem _ (List.Mem.head _)) ((same10 (Same.refl _ _) (.inl (by simp)) _ _ _ _ _ _ _ _ _ _).drew)⟩
end Vm
end Go.Proofs.YtkepcdbogeineaaGreatDoor
