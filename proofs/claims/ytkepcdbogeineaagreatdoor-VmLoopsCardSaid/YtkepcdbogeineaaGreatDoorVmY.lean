/- Step. -/
import Derived.Test.YtkepcdbogeineaaGreatDoorVmX
import Derived.Deep.RegionWith
import Derived.BigRegion
import Derived.Deep.LoopGhost
import Derived.Deep.RegionHeld3
namespace Go.Proofs.YtkepcdbogeineaaGreatDoor
open Go.RowKit Hp Ck
namespace Vm
variable {w w' w1 W W' : World} {k : Kx} {th th' : Th} {FT G : List Nat} {t t' : Toy}

theorem leaves_slot {R : Ending → World → Prop} {tmps tmps' : Array Value} (h : tmps[4]?.getD undef = tmps'[4]?.getD undef) : ∀ (ds : List Deferred) (u : FrameMode) (w : World), Leaves Tryz.prog Tryz.f13 tmps R ds u w → Leaves Tryz.prog Tryz.f13 tmps' R ds u w := by
  intro ds
  induction ds with
  | nil =>
    intro u w hl
    cases u with
    | returning =>
      obtain ⟨v, h1, h2⟩ := hl
      refine ⟨v, ?_, h2⟩
      simp only [results, Tryz.results13] at h1 ⊢
      simp [go_sem, h] at h1 ⊢
      exact h1
    | panicking c => exact hl
    | run => exact hl
  | cons d ds ih =>
    intro u w hl
    obtain ⟨h1, fv, cap, f, args, h2, h3, h4⟩ := hl
    refine ⟨h1, fv, cap, f, args, h2, h3, h4.mono ?_⟩
    intro e u' w' he
    cases e with
    | returned v => exact ih _ _ he
    | panicked c => exact ih _ _ he
    | outgrown => exact he
/-- What a panic leaves hangs on one slot alone. -/
theorem post_slot {R : Ending → World → Prop} (i : Nat) (hi : i ≠ 4) (v : Value) (c : List PanicEntry) (a : Act) (w : World) (h : bodyPostD Tryz.prog Tryz.f13 R (.panic c) (a.put (some i) v) w) : bodyPostD Tryz.prog Tryz.f13 R (.panic c) a w :=
  leaves_slot (by simp [Act.put, hi]) _ _ _ h

/-- What the region of the call reads. -/
def StS (k : Kx) (R0 X : Nat) (op a : Int) (W : World) : Prop := W.cell? ⟨R0, 0, none⟩ = some (.pointer (some ⟨k.T, 0, none⟩)) ∧ W.cell? ⟨k.T, 3, none⟩ = some (.map (some k.M)) ∧ W.cell? ⟨X, 0, none⟩ = some (.int .u8 op) ∧ W.cell? ⟨X, 1, none⟩ = some (.int .i64 a) ∧ W.heap[k.M]? = some (.map (tab 18) 18)
theorem step_S {w0 : World} {FT0 G0 : List Nat} {bs : List (Nat × Nat × List Value)} {l : List Int} {v : Value} {R0 X : Nat} {op a : Int} (h : VB k w0 W th t FT0 G0 FT G l v bs) (h1 : (X, 53, [.int .u8 op, .int .i64 a]) ∈ bs) (h0 : (R0, 35, [.pointer (some ⟨k.T, 0, none⟩)]) ∈ bs) : StS k R0 X op a W := by
  obtain ⟨fv, sv, rv, q⟩ := h.sit.vt.th
  exact ⟨(h.bx _ h0).1.cell 0, q.b.cell 3, (h.bx _ h1).1.cell 0, (h.bx _ h1).1.cell 1, q.tb⟩

/-- An instruction's function is entered. -/
theorem op_enter : ∀ (n : Nat) (_ : n < 18) (args : Array Value) (w : World), (callFunc (opF.getD n 0) args).run Tryz.prog w = .ok (.enter (opF.getD n 0) args) w
  | 0, _, args, w => by simp [go_sem, opF]
  | 1, _, args, w => by simp [go_sem, opF]
  | 2, _, args, w => by simp [go_sem, opF]
  | 3, _, args, w => by simp [go_sem, opF]
  | 4, _, args, w => by simp [go_sem, opF]
  | 5, _, args, w => by simp [go_sem, opF]
  | 6, _, args, w => by simp [go_sem, opF]
  | 7, _, args, w => by simp [go_sem, opF]
  | 8, _, args, w => by simp [go_sem, opF]
  | 9, _, args, w => by simp [go_sem, opF]
  | 10, _, args, w => by simp [go_sem, opF]
  | 11, _, args, w => by simp [go_sem, opF]
  | 12, _, args, w => by simp [go_sem, opF]
  | 13, _, args, w => by simp [go_sem, opF]
  | 14, _, args, w => by simp [go_sem, opF]
  | 15, _, args, w => by simp [go_sem, opF]
  | 16, _, args, w => by simp [go_sem, opF]
  | 17, _, args, w => by simp [go_sem, opF]
  | _ + 18, h, _, _ => absurd h (by omega)

/-- The instruction at hand. -/
def Th.ins (th : Th) : Cd.In := (th.c.procs.getD th.top.proc ⟨0, []⟩).code.getD th.top.at_ ⟨0, 0⟩

theorem own_some {e s n : Nat} {v : Value} {xs : List Value} (h : Ow w e s v n xs) (hn : 0 < n) : ∃ g C, v = .slice (some ⟨g, 0, none⟩) n C := by
  rcases h.2 with ⟨_, h0⟩ | ⟨g, cap, cur, e, _⟩
  · omega
  · exact ⟨g, cap, e⟩

theorem ins_cells {T M : Nat} {cv pv gv fv sv rv : Value} {kvs : List Value} {FC : List Nat} (h : ThAt w T M cv pv gv fv sv rv kvs th FC FT) (hf : th.fr ≠ []) (hp : th.top.proc < th.c.procs.length) (ha : th.top.at_ < (th.c.procs.getD th.top.proc ⟨0, []⟩).code.length) :
    ∃ pg PC fg D cg CC, w.cell? ⟨T, 1, none⟩ = some (.slice (some ⟨pg, 0, none⟩) th.c.procs.length PC) ∧ w.cell? ⟨T, 4, none⟩ = some (.slice (some ⟨fg, 0, none⟩) th.fr.length D)
      ∧ w.cell? ⟨fg, (th.fr.length - 1) * 4, none⟩ = some (.int .i64 th.top.proc) ∧ w.cell? ⟨fg, (th.fr.length - 1) * 4 + 1, none⟩ = some (.int .i64 th.top.at_)
      ∧ w.cell? ⟨pg, th.top.proc * 2 + 1, none⟩ = some (.slice (some ⟨cg, 0, none⟩) (th.c.procs.getD th.top.proc ⟨0, []⟩).code.length CC)
      ∧ w.cell? ⟨cg, th.top.at_ * 2, none⟩ = some (.int .u8 th.ins.op) ∧ w.cell? ⟨cg, th.top.at_ * 2 + 1, none⟩ = some (.int .i64 th.ins.a)
      ∧ th.fr.length ≤ 9223372036854775807 ∧ pg < w.heap.size ∧ fg < w.heap.size ∧ cg < w.heap.size := by
  obtain ⟨pg, PC, e1⟩ := own_some h.oc.pr (by omega)
  obtain ⟨fg, D, e2⟩ := own_some h.fr (List.length_pos_iff.2 hf)
  have hk := h.oc.kr _ hp
  obtain ⟨cg, CC, e3⟩ := own_some hk (by omega)
  have h1 : w.cell? ⟨T, 1, none⟩ = some pv := h.b.cell 1
  have h4 : w.cell? ⟨T, 4, none⟩ = some fv := h.b.cell 4
  have hfr := h.fr
  have hpr := h.oc.pr
  rw [e2] at hfr h4
  rw [e1] at hpr h1
  rw [e3] at hk
  have f0 := (frame_cell (th := th) hfr hf 0 (by decide)).1
  have f1 := (frame_cell (th := th) hfr hf 1 (by decide)).1
  have k1 := (own_cell hpr (th.top.proc * 2 + 1) (by omega)).1
  rw [flatP_at _ _ _ 1 h.oc.kl hp (by decide)] at k1
  have i0 := (own_cell hk (th.top.at_ * 2) (by omega)).1
  have i1 := (own_cell hk (th.top.at_ * 2 + 1) (by omega)).1
  rw [show th.top.at_ * 2 = th.top.at_ * 2 + 0 from rfl, flatI_at _ _ 0 ha (by decide)] at i0
  rw [flatI_at _ _ 1 ha (by decide)] at i1
  refine ⟨pg, PC, fg, D, cg, CC, h1, h4, f0, f1, k1.trans ?_, i0, i1, ?_, hpr.lt rfl, hfr.lt rfl, hk.lt rfl⟩
  · rw [← e3]; rfl
  · rcases hfr.2 with ⟨e1, h0⟩ | ⟨g, cap, cur, e1, _, _, h1, h2, _⟩
    · cases e1
    · unfold maxLen at h2
      omega

/-- An instruction's contract, wherever both lie. -/
structure Meets (k : Kx) (th : Th) (t : Toy) (o : Out) : Prop where
  fr : th.fr ≠ []
  pc : th.top.proc < th.c.procs.length
  at_ : th.top.at_ < (th.c.procs.getD th.top.proc ⟨0, []⟩).code.length
  op : 1 ≤ th.ins.op ∧ th.ins.op ≤ 18
  meets : ∀ w FT G, Sit k w th t FT G → Calls Tryz.prog (opF.getD (th.ins.op - 1).toNat 0) #[.pointer (some ⟨k.T, 0, none⟩), toyV k.H, .int .i64 th.ins.a] w (InsP k w FT G o)

/-- So many instructions at most: what comes out. -/
inductive Runs (R : Th → Toy → Out → Prop) : Nat → Th → Toy → Out → Prop
  | zero (th : Th) (t : Toy) : Runs R 0 th t (.did { what := 15 } [] th t)
  | did {n : Nat} {th : Th} {t : Toy} {ev : Ev} {l : List Int} {th' : Th} {t' : Toy} (h : R th t (.did ev l th' t')) : Runs R (n + 1) th t (.did ev l th' t')
  | fail {n : Nat} {th : Th} {t : Toy} {er : Int} {th' : Th} {t' : Toy} (h : R th t (.fail er th' t')) : Runs R (n + 1) th t (.fail er th' t')
  | more {n : Nat} {th : Th} {t : Toy} {th' : Th} {t' : Toy} {o : Out} (h : R th t (.quiet th' t')) (h2 : Runs R n th' t' o) : Runs R (n + 1) th t o

theorem Runs.ways {R : Th → Toy → Out → Prop} {n : Nat} {o : Out} (h : Runs R n th t o) : (n = 0 ∧ o = .did { what := 15 } [] th t) ∨ ∃ m o1, n = m + 1 ∧ R th t o1 ∧ ((∃ ev l th' t', o1 = .did ev l th' t' ∧ o = .did ev l th' t') ∨ (∃ er th' t', o1 = .fail er th' t' ∧ o = .fail er th' t') ∨ (∃ th' t', o1 = .quiet th' t' ∧ Runs R m th' t' o)) := by
  cases h with
  | zero => exact .inl ⟨rfl, rfl⟩
  | did h => exact .inr ⟨_, _, rfl, h, .inl ⟨_, _, _, _, rfl, rfl⟩⟩
  | fail h => exact .inr ⟨_, _, rfl, h, .inr (.inl ⟨_, _, _, rfl, rfl⟩)⟩
  | more h h2 => exact .inr ⟨_, _, rfl, h, .inr (.inr ⟨_, _, rfl, h2⟩)⟩

theorem Lf.keep {th2 : Th} {t2 : Toy} {l : List Int} {v : Value} {b ty : Nat} {cs : List Value} (h : Lf k w FT G th2 t2 l v w') (hb : Blk w b ty cs) (hn : b ∉ FT ∧ b ∉ G) : Blk w' b ty cs := by
  obtain ⟨F2, G2, -, hs, -⟩ := h
  exact hb.frame hs (by simp [hn.1, hn.2])
theorem Lf.c3 {th2 : Th} {t2 : Toy} {l : List Int} {v : Value} (h : Lf k w FT G th2 t2 l v w') : w'.cell? ⟨k.T, 3, none⟩ = some (.map (some k.M)) ∧ k.T < w'.heap.size := by
  obtain ⟨F2, G2, hs, -⟩ := h
  obtain ⟨fv, sv, rv, q⟩ := hs.vt.th
  exact ⟨q.b.cell 3, q.b.lt⟩
theorem Sit.fresh {b : Nat} (h : Sit k w th t FT G) (hb : w.heap.size ≤ b) : b ∉ FT ∧ b ∉ G :=
  ⟨fun hm => by have := h.lt.2 b (.inl hm); omega, fun hm => by have := h.lt.2 b (.inr hm); omega⟩

/-- What a step leaves. -/
def StepP (k : Kx) (w : World) (FT G : List Nat) : Out → Ending → World → Prop
  | .quiet _ _, _, _ => False
  | .did ev l th t, e, w' => ∃ v, e = .returned (.agg (evC ev v).toArray) ∧ Lf k w FT G th t l v w'
  | .fail er th t, e, w' => e = .returned (.agg (evC { what := 17, err := er } (.slice none 0 0)).toArray) ∧ Lf k w FT G { th with ended := true, word := 0, err := er } t [] (.slice none 0 0) w'

set_option maxRecDepth 100000 in
/-- The way out of a step. -/
theorem step_out {R0 R1 : Nat} {tmps : Array Value} {P : Ending → World → Prop} {ev : Ev} {v : Value} (htm : tmps[4]?.getD undef = .pointer (some ⟨R1, 0, none⟩)) (hb : Blk W R1 44 (evC ev v)) (hP : ∀ W', Same [] W W' → P (.returned (.agg (evC ev v).toArray)) W') :
    Leaves Tryz.prog Tryz.f13 tmps P [{ target := .fn (.func 31) #[.pointer (some ⟨R0, 0, none⟩), .pointer (some ⟨R1, 0, none⟩)], args := #[] }] .returning W := by
  refine leaves_cons (f := 31) (args := #[.pointer (some ⟨R0, 0, none⟩), .pointer (some ⟨R1, 0, none⟩)]) (by simp) (by simp [go_sem]) ?_
  refine (idle_any _ _ _).mono ?_
  rintro e u' w2 ⟨rfl, rfl, hs⟩
  have hb2 := hb.frame hs (by simp)
  have r0 := hb2.cell 0
  have r1 := hb2.cell 1
  have r2 := hb2.cell 2
  have r3 := hb2.cell 3
  have r4 := hb2.cell 4
  have r5 := hb2.cell 5
  have r6 := hb2.cell 6
  have r7 := hb2.cell 7
  have r8 := hb2.cell 8
  have r9 := hb2.cell 9
  simp only [evC, List.getElem?_cons_zero, List.getElem?_cons_succ] at r0 r1 r2 r3 r4 r5 r6 r7 r8 r9
  refine ⟨.agg (evC ev v).toArray, ?_, hP _ hs⟩
  simp [results, Tryz.results13, go_sem, htm, evC, r0, r1, r2, r3, r4, r5, r6, r7, r8, r9]
set_option maxRecDepth 100000 in
theorem step_outp {R0 R1 : Nat} {tmps : Array Value} {P : Ending → World → Prop} {w0 : World} {FT0 G0 : List Nat} {bs : List (Nat × Nat × List Value)} {l : List Int} {v : Value} {a0 a1 a2 a3 a4 a5 a6 a7 a8 a9 : Value} (htm : tmps[4]?.getD undef = .pointer (some ⟨R1, 0, none⟩)) (h : VB k w0 W th t FT0 G0 FT G l v bs) (h0 : (R0, 35, [.pointer (some ⟨k.T, 0, none⟩)]) ∈ bs) (h1 : (R1, 44, [a0, a1, a2, a3, a4, a5, a6, a7, a8, a9]) ∈ bs) (er : Int)
    (hP : ∀ W', Lf k w0 FT0 G0 { th with ended := true, word := 0, err := er } t l v W' → P (.returned (.agg (evC { what := 17, err := er } (.slice none 0 0)).toArray)) W') :
    Leaves Tryz.prog Tryz.f13 tmps P [{ target := .fn (.func 31) #[.pointer (some ⟨R0, 0, none⟩), .pointer (some ⟨R1, 0, none⟩)], args := #[] }] (.panicking [{ v := .iface 88 (.agg #[.int .i64 er]), recovered := false }]) W := by
  refine leaves_cons (f := 31) (args := #[.pointer (some ⟨R0, 0, none⟩), .pointer (some ⟨R1, 0, none⟩)]) (by simp) (by simp [go_sem]) ?_
  refine (caught_any h h0 h1 er).mono ?_
  rintro e u' w2 ⟨rfl, rfl, hl, hb2⟩
  have r0 := hb2.cell 0
  have r1 := hb2.cell 1
  have r2 := hb2.cell 2
  have r3 := hb2.cell 3
  have r4 := hb2.cell 4
  have r5 := hb2.cell 5
  have r6 := hb2.cell 6
  have r7 := hb2.cell 7
  have r8 := hb2.cell 8
  have r9 := hb2.cell 9
  simp only [evC, List.getElem?_cons_zero, List.getElem?_cons_succ] at r0 r1 r2 r3 r4 r5 r6 r7 r8 r9
  refine ⟨.agg (evC { what := 17, err := er } (.slice none 0 0)).toArray, ?_, hP _ hl⟩
  simp [results, Tryz.results13, go_sem, htm, evC, r0, r1, r2, r3, r4, r5, r6, r7, r8, r9]

set_option maxHeartbeats 4000000 in
set_option maxRecDepth 100000 in
theorem step_any (h : Sit k w th t FT G) (he : th.ended = false) (hr : th.refused = false) (o : Out) (hrun : Runs (Meets k) 1000 th t o) :
    Calls Tryz.prog 13 #[.pointer (some ⟨k.T, 0, none⟩), toyV k.H] w (StepP k w FT G o) := by
  have hmf : ∀ (fn : Fn) (first cap : Array Value) (w : World), (Instr.makeFunc fn first cap).run Tryz.prog w = .ok (.func fn first cap) w := fun _ _ _ _ => rfl
  obtain ⟨fv, sv, rv, q⟩ := h.vt.th
  have t10 : w.cell? ⟨k.T, 10, none⟩ = some (.bool false) := by rw [← he]; exact q.b.cell 10
  have t9 : w.cell? ⟨k.T, 9, none⟩ = some (.bool false) := by rw [← hr]; exact q.b.cell 9
  have tz := q.b.lt
  have HB := Lib.hid (VB.open_ h)
  have HR := Lib.hid hrun
  unfold toyV at *
  clear h he hr hrun q
  go_enter_defers Tryz.func13, Tryz.ntmps13
  go_wp2_with fail
  obtain ⟨wa, hwa⟩ : ∃ wa, wa = w.alloc (.cells #[.pointer (some ⟨k.T, 0, none⟩)] 35) := ⟨_, rfl⟩
  rw [← hwa]
  obtain ⟨wb, hwb⟩ : ∃ wb, wb = wa.alloc (.cells #[.int .i64 0, .int .u8 0, .int .i64 0, .int .i64 0, .int .u64 0, .int .u64 0, .slice none 0 0, .int .i64 0, .bool false, .int .i64 0] 44) := ⟨_, rfl⟩
  rw [← hwb]
  have hwz : wa.heap.size = w.heap.size + 1 := by rw [hwa]; simp
  have hB := (HB.out.boxT 35 [.pointer (some ⟨k.T, 0, none⟩)] (by decide) hwa).box zeros hwb
  rw [hwz] at hB
  have HB0 := Lib.hid hB
  clear hwa hwb hwz hB t10 t9
  refine (need_yes 121).mono ?_
  rintro e w1 ⟨rfl, rfl⟩
  go_wp2_with fail
  go_loopg [22] 1000 (fun gk i wr => ∃ (th1 : Th) (t1 : Toy) (FT1 G1 : List Nat), gk ≤ 1000 ∧ i = .int .i64 ((1000 - gk : Nat) : Int) ∧ Runs (Meets k) gk th1 t1 o ∧ VB k w wr th1 t1 FT G FT1 G1 [] (.slice none 0 0) [(w.heap.size + 1, 44, zeros), (w.heap.size, 35, [.pointer (some ⟨k.T, 0, none⟩)])])
  case atStart => exact ⟨th, t, FT, G, Nat.le_refl _, rfl, HR.out, HB0.out⟩
  case round =>
    obtain ⟨th1, t1, FT1, G1, hgk, rfl, hrun, hvb⟩ := hrel
    have HB1 := Lib.hid hvb
    have hb0 := (hvb.bx _ (List.mem_cons_of_mem _ (List.Mem.head _))).1
    have b0 := hb0.cell 0
    have bz := hb0.lt
    obtain ⟨r0, r1, r2, r3, r4, r5, r6, r7, r8, r9, rz, rf⟩ := hvb.get (List.Mem.head _)
    simp only [List.getElem?_cons_zero] at b0
    clear HR HB0 HB hvb hb0
    rcases hrun.ways with ⟨rfl, rfl⟩ | ⟨m, o1, rfl, hm, hways⟩
    · go_wp2_with fail
      refine step_out (ev := { what := 15 }) (v := .slice none 0 0) rfl (blk10 (HB1.out.bx _ (List.Mem.head _)).1 _ _ _ _ _ _ _ _ _ _) (fun W' hs => ?_)
      exact ⟨_, rfl, HB1.out.fin (List.Mem.head _) ((same10 (Same.refl _ _) (.inl (by simp)) _ _ _ _ _ _ _ _ _ _).trans (hs.mono (by simp)))⟩
    · obtain ⟨fv1, sv1, rv1, q1⟩ := HB1.out.sit.vt.th
      obtain ⟨pg, PC, fg, D, cg, CC, c1, c4, f0, f1, k1, i0, i1, hLm, pgz, fgz, cgz⟩ := ins_cells q1 hm.fr hm.pc hm.at_
      have c3 : wr.cell? ⟨k.T, 3, none⟩ = some (.map (some k.M)) := q1.b.cell 3
      have tz1 := q1.b.lt
      have hLp : 0 < th1.fr.length := List.length_pos_iff.2 hm.fr
      have hpc := hm.pc
      have hat := hm.at_
      have hop := hm.op
      have HM := Lib.hid hm.meets
      obtain ⟨L, hL⟩ : ∃ L, L = th1.fr.length := ⟨_, rfl⟩
      rw [← hL] at c4 f0 f1 hLm hLp
      obtain ⟨P, hP⟩ : ∃ L, L = th1.c.procs.length := ⟨_, rfl⟩
      rw [← hP] at c1 hpc
      obtain ⟨CL, hCL⟩ : ∃ L, L = (th1.c.procs.getD th1.top.proc ⟨0, []⟩).code.length := ⟨_, rfl⟩
      rw [← hCL] at k1 hat
      obtain ⟨pn, hpn⟩ : ∃ L, L = th1.top.proc := ⟨_, rfl⟩
      rw [← hpn] at f0 hpc k1
      obtain ⟨an, han⟩ : ∃ L, L = th1.top.at_ := ⟨_, rfl⟩
      rw [← han] at f1 hat i0 i1
      obtain ⟨ia, hia⟩ : ∃ L, L = th1.ins.a := ⟨_, rfl⟩
      rw [← hia] at i1 HM
      obtain ⟨on, hon⟩ : ∃ n : Nat, th1.ins.op = ((n + 1 : Nat) : Int) := ⟨(th1.ins.op - 1).toNat, by omega⟩
      rw [hon] at i0 hop HM
      have hon9 : ((on + 1 : Nat) : Int) = (on : Int) + 1 := by omega
      have hon2 : on < 18 := by omega
      have hon3 : (((on + 1 : Nat) : Int) - 1).toNat = on := by omega
      rw [hon3] at HM
      have HLW := Lib.hid (fun W hW => look (w := W) k.M hW on hon2)
      rw [hon9] at HLW i0
      have e1 : IntKind.i64.wrap ((L : Int) - 1) = (L : Int) - 1 := by rw [IntKind.wrap_i64]; omega
      have e2 : (0 : Int) ≤ (L : Int) - 1 := by omega
      have e3 : (L : Int) - 1 < (L : Int) := by omega
      have e4 : ((L : Int) - 1).toNat = L - 1 := by omega
      have p1 : (0 : Int) ≤ (pn : Int) := by omega
      have p2 : (pn : Int) < (P : Int) := by omega
      have a1 : (0 : Int) ≤ (an : Int) := by omega
      have a2 : (an : Int) < (CL : Int) := by omega
      have g1 : ((1000 - (m + 1) : Nat) : Int) < 1000 := by omega
      obtain ⟨fn, hfn⟩ : ∃ f, f = opF.getD on 0 := ⟨_, rfl⟩
      have hcf := fun args w => op_enter on hon2 args w
      rw [← hfn] at HLW HM hcf
      clear hL hP hCL hpn han hia hon hop hon3 hrun hm hLm hLp hpc hat hon2 hfn q1
      go_wp2_with fail
      go_quiet (fail)
      go_wp2_with fail
      obtain ⟨wq, hwq⟩ : ∃ wq, wq = wr.drewN nq := ⟨_, rfl⟩
      rw [← hwq]
      have hsq : Same [] wr wq := by rw [hwq]; exact (Same.refl _ _).drewN _
      have hcq : ∀ p, wr.cell? p = wq.cell? p := fun p => by rw [hwq]; rfl
      rw [hcq] at c1 c3 f0 f1 k1 i0 i1 b0
      have HB2 := Lib.hid (HB1.out.same hsq)
      have bz2 : w.heap.size < wq.heap.size := Nat.lt_of_lt_of_le bz hsq.size
      have pgz2 := Nat.lt_of_lt_of_le pgz hsq.size
      have fgz2 := Nat.lt_of_lt_of_le fgz hsq.size
      have cgz2 := Nat.lt_of_lt_of_le cgz hsq.size
      have tz2 := Nat.lt_of_lt_of_le tz1 hsq.size
      clear hsq hcq hwq c4 HB1 bz r0 r1 r2 r3 r4 r5 r6 r7 r8 r9 rz rf e1 e2 e3 e4 g1 pgz fgz cgz tz1 tz
      have n0 : wq.heap.size ≠ w.heap.size := by omega
      have n1 : wq.heap.size ≠ k.T := by omega
      have n2 : wq.heap.size ≠ fg := by omega
      have n3 : wq.heap.size ≠ pg := by omega
      have n4 : wq.heap.size ≠ cg := by omega
      go_region_held3 (fun W => W.cell? ⟨w.heap.size, 0, none⟩ = some (.pointer (some ⟨k.T, 0, none⟩)) ∧ W.cell? ⟨k.T, 1, none⟩ = some (.slice (some ⟨pg, 0, none⟩) P PC) ∧ W.cell? ⟨fg, (L - 1) * 4, none⟩ = some (.int .i64 pn) ∧ W.cell? ⟨fg, (L - 1) * 4 + 1, none⟩ = some (.int .i64 an) ∧ W.cell? ⟨pg, pn * 2 + 1, none⟩ = some (.slice (some ⟨cg, 0, none⟩) CL CC) ∧ W.cell? ⟨cg, an * 2, none⟩ = some (.int .u8 ((on : Int) + 1)) ∧ W.cell? ⟨cg, an * 2 + 1, none⟩ = some (.int .i64 ia)) (go_keep) (fail)
      go_wp2_with fail
      obtain ⟨wy, hwy⟩ : ∃ wy, wy = wq.alloc (.cells #[.int .u8 ((on : Int) + 1), .int .i64 ia] 53) := ⟨_, rfl⟩
      rw [← hwy]
      have hB3 := HB2.out.boxT 53 [.int .u8 ((on : Int) + 1), .int .i64 ia] (by decide) hwy
      have hsy : Same [] wq wy := by rw [hwy]; exact (Same.refl _ _).alloc _
      obtain ⟨wx, hwx⟩ : ∃ wx, wx = wy.drew := ⟨_, rfl⟩
      rw [← hwx]
      have hsx : Same [] wy wx := by rw [hwx]; exact (Same.refl _ _).drew
      have hB4 := hB3.same hsx
      have HMAP := Lib.hid (show wx.heap[k.M]? = some (.map (tab 18) 18) from by obtain ⟨_, _, _, q⟩ := hB4.sit.vt.th; exact q.tb)
      obtain ⟨X, hX⟩ : ∃ X, X = wq.heap.size := ⟨_, rfl⟩
      rw [← hX] at hB4 ⊢
      have HB := Lib.hid hB4
      have x0 : wx.cell? ⟨X, 0, none⟩ = some (.int .u8 ((on : Int) + 1)) := (hB4.bx _ (List.Mem.head _)).1.cell 0
      have x1 : wx.cell? ⟨X, 1, none⟩ = some (.int .i64 ia) := (hB4.bx _ (List.Mem.head _)).1.cell 1
      have xz := (hB4.bx _ (List.Mem.head _)).1.lt
      have d0 : wx.cell? ⟨w.heap.size, 0, none⟩ = some (.pointer (some ⟨k.T, 0, none⟩)) := (hB4.bx (w.heap.size, 35, [.pointer (some ⟨k.T, 0, none⟩)]) (by simp)).1.cell 0
      have dz : w.heap.size < wx.heap.size := (hB4.bx (w.heap.size, 35, [.pointer (some ⟨k.T, 0, none⟩)]) (by simp)).1.lt
      have d3 : wx.cell? ⟨k.T, 3, none⟩ = some (.map (some k.M)) := hB4.lf.c3.1
      have dT : k.T < wx.heap.size := hB4.lf.c3.2
      have hKT : X ∉ FT1 ∧ X ∉ G1 := ⟨(hB4.bx _ (List.Mem.head _)).2.2.1, (hB4.bx _ (List.Mem.head _)).2.2.2.1⟩
      have HFR := Lib.hid (fun b hb => hB4.sit.fresh (b := b) hb)
      clear hwy hsy hwx hsx hB3 hB4 hX HB2 b0 c1 c3 f0 f1 k1 i0 i1 n0 n1 n2 n3 n4 p1 p2 a1 a2 bz2 pgz2 fgz2 cgz2 tz2 hon9
      refine wp_region_held_drew (S := StS k w.heap.size X ((on : Int) + 1) ia) (by kernel_rfl) ?_ (fun hHeld => ?_)
      · exact step_S (HB.out.same (Same.refl _ _).drew) (List.Mem.head _) (by simp)
      refine wpAnyH_take (i := 0) (v := ?_) rfl (by kernel_rfl) (by kernel_rfl) (by kernel_rfl) (fun c a w h => post_slot 54 (by decide) _ c a w h) (Or.inl ⟨by rfl, ?_⟩) (by assumption) ?_
      rotate_left
      · intro w hSw; obtain ⟨q0, q3, q4, q5, q6⟩ := hSw; simp only [List.getElem_toArray, List.getElem_cons_zero]; go_simp; (try with_reducible rfl)
      simp only [Act.put, List.getElem_toArray, List.getElem_cons_zero, List.setIfInBounds_toArray, List.set_cons_zero, List.set_cons_succ]
      refine wpAnyH_take (i := 1) (v := ?_) rfl (by kernel_rfl) (by kernel_rfl) (by kernel_rfl) (fun c a w h => post_slot 55 (by decide) _ c a w h) (Or.inl ⟨by rfl, ?_⟩) (by assumption) ?_
      rotate_left
      · intro w hSw; obtain ⟨q0, q3, q4, q5, q6⟩ := hSw; simp only [List.getElem_toArray, List.getElem_cons_zero, List.getElem_cons_succ]; go_simp; (try with_reducible rfl)
      simp only [Act.put, List.getElem_toArray, List.getElem_cons_zero, List.getElem_cons_succ, List.setIfInBounds_toArray, List.set_cons_zero, List.set_cons_succ]
      refine wpAnyH_take (i := 2) (v := ?_) rfl (by kernel_rfl) (by kernel_rfl) (by kernel_rfl) (fun c a w h => post_slot 56 (by decide) _ c a w h) (Or.inl ⟨by rfl, ?_⟩) (by assumption) ?_
      rotate_left
      · intro w hSw; obtain ⟨q0, q3, q4, q5, q6⟩ := hSw; simp only [List.getElem_toArray, List.getElem_cons_zero, List.getElem_cons_succ]; go_simp; (try with_reducible rfl)
      simp only [Act.put, List.getElem_toArray, List.getElem_cons_zero, List.getElem_cons_succ, List.setIfInBounds_toArray, List.set_cons_zero, List.set_cons_succ]
      refine wpAnyH_take (i := 3) (v := ?_) rfl (by kernel_rfl) (by kernel_rfl) (by kernel_rfl) (fun c a w h => post_slot 57 (by decide) _ c a w h) (Or.inl ⟨by rfl, ?_⟩) (by assumption) ?_
      rotate_left
      · intro w hSw; obtain ⟨q0, q3, q4, q5, q6⟩ := hSw; simp only [List.getElem_toArray, List.getElem_cons_zero, List.getElem_cons_succ]; go_simp; (try with_reducible rfl)
      simp only [Act.put, List.getElem_toArray, List.getElem_cons_zero, List.getElem_cons_succ, List.setIfInBounds_toArray, List.set_cons_zero, List.set_cons_succ]
      refine wpAnyH_take (i := 4) (v := ?_) rfl (by kernel_rfl) (by kernel_rfl) (by kernel_rfl) (fun c a w h => post_slot 58 (by decide) _ c a w h) (Or.inl ⟨by rfl, ?_⟩) (by assumption) ?_
      rotate_left
      · intro w hSw; obtain ⟨q0, q3, q4, q5, q6⟩ := hSw; simp only [List.getElem_toArray, List.getElem_cons_zero, List.getElem_cons_succ]; go_simp; (try with_reducible rfl)
      simp only [Act.put, List.getElem_toArray, List.getElem_cons_zero, List.getElem_cons_succ, List.setIfInBounds_toArray, List.set_cons_zero, List.set_cons_succ]
      refine wpAnyH_take (i := 5) (v := ?_) rfl (by kernel_rfl) (by kernel_rfl) (by kernel_rfl) (fun c a w h => post_slot 59 (by decide) _ c a w h) (Or.inl ⟨by rfl, ?_⟩) (by assumption) ?_
      rotate_left
      · intro w hSw; obtain ⟨q0, q3, q4, q5, q6⟩ := hSw; simp only [List.getElem_toArray, List.getElem_cons_zero, List.getElem_cons_succ]; go_simp; (try with_reducible rfl)
      simp only [Act.put, List.getElem_toArray, List.getElem_cons_zero, List.getElem_cons_succ, List.setIfInBounds_toArray, List.set_cons_zero, List.set_cons_succ]
      refine wpAnyH_take (i := 6) (v := ?_) rfl (by kernel_rfl) (by kernel_rfl) (by kernel_rfl) (fun c a w h => post_slot 60 (by decide) _ c a w h) (Or.inl ⟨by rfl, ?_⟩) (by assumption) ?_
      rotate_left
      · intro w hSw; obtain ⟨q0, q3, q4, q5, q6⟩ := hSw; simp only [List.getElem_toArray, List.getElem_cons_zero, List.getElem_cons_succ]; have lkw := HLW.out _ q6; go_simp; (try with_reducible rfl)
      simp only [Act.put, List.getElem_toArray, List.getElem_cons_zero, List.getElem_cons_succ, List.setIfInBounds_toArray, List.set_cons_zero, List.set_cons_succ]
      refine wpAnyH_take (i := 7) (v := ?_) rfl (by kernel_rfl) (by kernel_rfl) (by kernel_rfl) (fun c a w h => post_slot 61 (by decide) _ c a w h) (Or.inl ⟨by rfl, ?_⟩) (by assumption) ?_
      rotate_left
      · intro w hSw; obtain ⟨q0, q3, q4, q5, q6⟩ := hSw; simp only [List.getElem_toArray, List.getElem_cons_zero, List.getElem_cons_succ]; go_simp; (try with_reducible rfl)
      simp only [Act.put, List.getElem_toArray, List.getElem_cons_zero, List.getElem_cons_succ, List.setIfInBounds_toArray, List.set_cons_zero, List.set_cons_succ]
      refine wpAnyH_take (i := 8) (v := ?_) rfl (by kernel_rfl) (by kernel_rfl) (by kernel_rfl) (fun c a w h => post_slot 62 (by decide) _ c a w h) (Or.inl ⟨by rfl, ?_⟩) (by assumption) ?_
      rotate_left
      · intro w hSw; obtain ⟨q0, q3, q4, q5, q6⟩ := hSw; simp only [List.getElem_toArray, List.getElem_cons_zero, List.getElem_cons_succ]; go_simp; (try with_reducible rfl)
      simp only [Act.put, List.getElem_toArray, List.getElem_cons_zero, List.getElem_cons_succ, List.setIfInBounds_toArray, List.set_cons_zero, List.set_cons_succ]
      refine wpAnyH_take (i := 9) (v := ?_) rfl (by kernel_rfl) (by kernel_rfl) (by kernel_rfl) (fun c a w h => post_slot 63 (by decide) _ c a w h) (Or.inl ⟨by rfl, ?_⟩) (by assumption) ?_
      rotate_left
      · intro w hSw; obtain ⟨q0, q3, q4, q5, q6⟩ := hSw; simp only [List.getElem_toArray, List.getElem_cons_zero, List.getElem_cons_succ]; go_simp; (try with_reducible rfl)
      simp only [Act.put, List.getElem_toArray, List.getElem_cons_zero, List.getElem_cons_succ, List.setIfInBounds_toArray, List.set_cons_zero, List.set_cons_succ]
      refine wpAnyH_take (i := 10) (v := ?_) rfl (by kernel_rfl) (by kernel_rfl) (by kernel_rfl) (fun c a w h => post_slot 64 (by decide) _ c a w h) (Or.inl ⟨by rfl, ?_⟩) (by assumption) ?_
      rotate_left
      · intro w hSw; obtain ⟨q0, q3, q4, q5, q6⟩ := hSw; simp only [List.getElem_toArray, List.getElem_cons_zero, List.getElem_cons_succ]; go_simp; (try with_reducible rfl)
      simp only [Act.put, List.getElem_toArray, List.getElem_cons_zero, List.getElem_cons_succ, List.setIfInBounds_toArray, List.set_cons_zero, List.set_cons_succ]
      have HNE : Hid (∀ p ∈ [(X, 53, [Value.int .u8 ((on : Int) + 1), .int .i64 ia]), (w.heap.size + 1, 44, zeros), (w.heap.size, 35, [.pointer (some ⟨k.T, 0, none⟩)])], p.1 ≠ wx.heap.size) := Lib.hid (fun p hp => by have := (HB.out.bx p hp).1.lt; omega)
      rcases hways with ⟨ev, l, th2, t2, rfl, rfl⟩ | ⟨er, th2, t2, rfl, rfl⟩ | ⟨th2, t2, rfl, hnext⟩
      · skip
        unfold InsP DidP at HM
        simp only [evC] at HM
        refine wpAnyH_ready (rs := [11, 15]) (by kernel_rfl) (by simp) ?_
        refine AllReadyH.cons rfl (fun K hK => ?_) (AllReadyH.cons rfl (fun K hK => ?_) AllReadyH.nil)
        · (try simp only [List.getElem_toArray, List.getElem_cons_zero, List.getElem_cons_succ])
          go_simp
          refine (HM.out _ _ _ (HB.out.same (Same.refl _ _).drew).sit).mono ?_
          rintro e w2 ⟨v, rfl, hlf⟩
          obtain ⟨A9, C9, rfl⟩ := hlf.form
          obtain ⟨FT2, G2, hb5⟩ := (HB.out.same (Same.refl _ _).drew).call hlf
          have HB5 := Lib.hid hb5
          clear hlf hb5
          go_wp2_with fail
          refine hK.out _ _ (step_S HB5.out (by simp) (by simp)) (fun hHeld2 => ?_)
          clear hK K hHeld
          (try simp only [Act.put, List.getElem_toArray, List.getElem_cons_zero, List.getElem_cons_succ, List.setIfInBounds_toArray, List.set_cons_zero, List.set_cons_succ])
          refine wpAnyH_take (i := 12) (v := ?_) rfl (by kernel_rfl) (by kernel_rfl) (by kernel_rfl) (fun c a w h => post_slot 53 (by decide) _ c a w h) (Or.inl ⟨by rfl, ?_⟩) (by assumption) ?_
          rotate_left
          · intro w hSw; simp only [List.getElem_toArray, List.getElem_cons_zero, List.getElem_cons_succ]; go_simp; (try with_reducible rfl)
          simp only [Act.put, List.getElem_toArray, List.getElem_cons_zero, List.getElem_cons_succ, List.setIfInBounds_toArray, List.set_cons_zero, List.set_cons_succ]
          refine wpAnyH_take (i := 13) (v := ?_) rfl (by kernel_rfl) (by kernel_rfl) (by kernel_rfl) (fun c a w h => post_slot 66 (by decide) _ c a w h) (Or.inl ⟨by rfl, ?_⟩) (by assumption) ?_
          rotate_left
          · intro w hSw; simp only [List.getElem_toArray, List.getElem_cons_zero, List.getElem_cons_succ]; go_simp; (try with_reducible rfl)
          simp only [Act.put, List.getElem_toArray, List.getElem_cons_zero, List.getElem_cons_succ, List.setIfInBounds_toArray, List.set_cons_zero, List.set_cons_succ]
          refine wpAnyH_take (i := 14) (v := ?_) rfl (by kernel_rfl) (by kernel_rfl) (by kernel_rfl) (fun c a w h => post_slot 67 (by decide) _ c a w h) (Or.inl ⟨by rfl, ?_⟩) (by assumption) ?_
          rotate_left
          · intro w hSw; simp only [List.getElem_toArray, List.getElem_cons_zero, List.getElem_cons_succ]; go_simp; (try with_reducible rfl)
          simp only [Act.put, List.getElem_toArray, List.getElem_cons_zero, List.getElem_cons_succ, List.setIfInBounds_toArray, List.set_cons_zero, List.set_cons_succ]
          refine wpAnyH_ready (rs := [15]) (by kernel_rfl) (by simp) ?_
          refine AllReadyH.cons rfl (fun K hK => ?_) AllReadyH.nil
          (try simp only [List.getElem_toArray, List.getElem_cons_zero, List.getElem_cons_succ])
          go_simp
          refine hK.out _ _ (step_S (HB5.out.same ((Same.refl _ _).alloc _)) (List.Mem.head _) (by simp)) (fun hHeld3 => ?_)
          clear hK K hHeld2
          (try simp only [Act.put, List.getElem_toArray, List.getElem_cons_zero, List.getElem_cons_succ, List.setIfInBounds_toArray, List.set_cons_zero, List.set_cons_succ])
          refine wpAnyH_ready (rs := [16]) (by kernel_rfl) (by simp) ?_
          refine AllReadyH.cons rfl (fun K hK => ?_) AllReadyH.nil
          (try simp only [List.getElem_toArray, List.getElem_cons_zero, List.getElem_cons_succ])
          go_simp
          refine hK.out _ _ (step_S (HB5.out.same ((Same.refl _ _).alloc _)) (List.Mem.head _) (by simp)) (fun hHeld4 => ?_)
          clear hK K hHeld3
          (try simp only [Act.put, List.getElem_toArray, List.getElem_cons_zero, List.getElem_cons_succ, List.setIfInBounds_toArray, List.set_cons_zero, List.set_cons_succ])
          refine wpAnyH_take (i := 17) (v := ?_) rfl (by kernel_rfl) (by kernel_rfl) (by kernel_rfl) (fun c a w h => post_slot 8 (by decide) _ c a w h) (Or.inl ⟨by rfl, ?_⟩) (by assumption) ?_
          rotate_left
          · intro w hSw; simp only [List.getElem_toArray, List.getElem_cons_zero, List.getElem_cons_succ]; go_simp; (try with_reducible rfl)
          simp only [Act.put, List.getElem_toArray, List.getElem_cons_zero, List.getElem_cons_succ, List.setIfInBounds_toArray, List.set_cons_zero, List.set_cons_succ]
          refine wpAnyH_done (by kernel_rfl) ?_ _
          obtain ⟨wz, hwz⟩ : ∃ wz, wz = w2.alloc (.cells #[.int .i64 0, .int .u8 ev.what, .int .i64 ev.cell, .int .i64 ev.field, .int .u64 ev.old, .int .u64 ev.new, .slice A9 l.length C9, .int .i64 ev.other, .bool ev.yes, .int .i64 ev.err] 44) := ⟨_, rfl⟩
          rw [← hwz]
          have HB6 := Lib.hid (HB5.out.box (evC ev (.slice A9 l.length C9)) hwz)
          clear hwz HB5 hHeld4
          obtain ⟨e0, e1, e2, e3, e4, e5, e6, e7, e8, e9, ez, ef⟩ := HB6.out.get (List.Mem.head _)
          obtain ⟨r0, r1, r2, r3, r4, r5, r6, r7, r8, r9, rz, rf⟩ := HB6.out.get (List.mem_cons_of_mem _ (List.mem_cons_of_mem _ (List.Mem.head _)))
          go_wp2_with fail
          refine step_out (ev := ev) (v := .slice A9 l.length C9) rfl (blk10 (HB6.out.bx _ (List.mem_cons_of_mem _ (List.mem_cons_of_mem _ (List.Mem.head _)))).1 _ _ _ _ _ _ _ _ _ _) (fun W' hs => ?_)
          exact ⟨_, rfl, HB6.out.fin (List.mem_cons_of_mem _ (List.mem_cons_of_mem _ (List.Mem.head _))) ((same10 (Same.refl _ _) (.inl (by simp)) _ _ _ _ _ _ _ _ _ _).trans (hs.mono (by simp)))⟩
        · (try simp only [List.getElem_toArray, List.getElem_cons_zero, List.getElem_cons_succ])
          go_simp
          have HBv : Hid (VB k w (wx.alloc (.cells #[.int .i64 0, .int .u8 0, .int .i64 0, .int .i64 0, .int .u64 0, .int .u64 0, .slice none 0 0, .int .i64 0, .bool false, .int .i64 0] 44)).drew th1 t1 FT G FT1 G1 [] (.slice none 0 0) [(wx.heap.size, 44, zeros), (X, 53, [Value.int .u8 ((on : Int) + 1), .int .i64 ia]), (w.heap.size + 1, 44, zeros), (w.heap.size, 35, [.pointer (some ⟨k.T, 0, none⟩)])]) := Lib.hid ((HB.out.same (Same.refl _ _).drew).box (W' := (wx.alloc (.cells #[.int .i64 0, .int .u8 0, .int .i64 0, .int .i64 0, .int .u64 0, .int .u64 0, .slice none 0 0, .int .i64 0, .bool false, .int .i64 0] 44)).drew) zeros rfl)
          refine hK.out _ _ (step_S HBv.out (by simp) (by simp)) (fun hHeld1 => ?_)
          clear hK K hHeld
          (try simp only [Act.put, List.getElem_toArray, List.getElem_cons_zero, List.getElem_cons_succ, List.setIfInBounds_toArray, List.set_cons_zero, List.set_cons_succ])
          refine wpAnyH_ready (rs := [11]) (by kernel_rfl) (by simp) ?_
          refine AllReadyH.cons rfl (fun K hK => ?_) AllReadyH.nil
          (try simp only [List.getElem_toArray, List.getElem_cons_zero, List.getElem_cons_succ])
          go_simp
          skip
          refine (HM.out _ _ _ HBv.out.sit).mono ?_
          rintro e w2 ⟨v, rfl, hlf⟩
          obtain ⟨A9, C9, rfl⟩ := hlf.form
          obtain ⟨FT2, G2, hb5⟩ := HBv.out.call hlf
          have HB5 := Lib.hid hb5
          clear hlf hb5
          go_wp2_with fail
          refine hK.out _ _ (step_S HB5.out (by simp) (by simp)) (fun hHeld2 => ?_)
          clear hK K hHeld1
          (try simp only [Act.put, List.getElem_toArray, List.getElem_cons_zero, List.getElem_cons_succ, List.setIfInBounds_toArray, List.set_cons_zero, List.set_cons_succ])
          refine wpAnyH_take (i := 12) (v := ?_) rfl (by kernel_rfl) (by kernel_rfl) (by kernel_rfl) (fun c a w h => post_slot 53 (by decide) _ c a w h) (Or.inl ⟨by rfl, ?_⟩) (by assumption) ?_
          rotate_left
          · intro w hSw; simp only [List.getElem_toArray, List.getElem_cons_zero, List.getElem_cons_succ]; go_simp; (try with_reducible rfl)
          simp only [Act.put, List.getElem_toArray, List.getElem_cons_zero, List.getElem_cons_succ, List.setIfInBounds_toArray, List.set_cons_zero, List.set_cons_succ]
          refine wpAnyH_take (i := 13) (v := ?_) rfl (by kernel_rfl) (by kernel_rfl) (by kernel_rfl) (fun c a w h => post_slot 66 (by decide) _ c a w h) (Or.inl ⟨by rfl, ?_⟩) (by assumption) ?_
          rotate_left
          · intro w hSw; simp only [List.getElem_toArray, List.getElem_cons_zero, List.getElem_cons_succ]; go_simp; (try with_reducible rfl)
          simp only [Act.put, List.getElem_toArray, List.getElem_cons_zero, List.getElem_cons_succ, List.setIfInBounds_toArray, List.set_cons_zero, List.set_cons_succ]
          refine wpAnyH_take (i := 14) (v := ?_) rfl (by kernel_rfl) (by kernel_rfl) (by kernel_rfl) (fun c a w h => post_slot 67 (by decide) _ c a w h) (Or.inl ⟨by rfl, ?_⟩) (by assumption) ?_
          rotate_left
          · intro w hSw; simp only [List.getElem_toArray, List.getElem_cons_zero, List.getElem_cons_succ]; go_simp; (try with_reducible rfl)
          simp only [Act.put, List.getElem_toArray, List.getElem_cons_zero, List.getElem_cons_succ, List.setIfInBounds_toArray, List.set_cons_zero, List.set_cons_succ]
          obtain ⟨n0, n1, n2, n3, n4, n5, n6, n7, n8, n9, nz, nf⟩ := HB5.out.get (List.Mem.head _)
          refine wpAnyH_ready (rs := [16]) (by kernel_rfl) (by simp) ?_
          refine AllReadyH.cons rfl (fun K hK => ?_) AllReadyH.nil
          (try simp only [List.getElem_toArray, List.getElem_cons_zero, List.getElem_cons_succ])
          go_simp
          have HB6 := Lib.hid (HB5.out.laid (same10 (Same.refl _ w2) (.inl (by simp)) (.int .i64 0) (.int .u8 ev.what) (.int .i64 ev.cell) (.int .i64 ev.field) (.int .u64 ev.old) (.int .u64 ev.new) (.slice A9 l.length C9) (.int .i64 ev.other) (.bool ev.yes) (.int .i64 ev.err)) (blk10 (HB5.out.bx _ (List.Mem.head _)).1 (.int .i64 0) (.int .u8 ev.what) (.int .i64 ev.cell) (.int .i64 ev.field) (.int .u64 ev.old) (.int .u64 ev.new) (.slice A9 l.length C9) (.int .i64 ev.other) (.bool ev.yes) (.int .i64 ev.err)) HNE.out)
          refine hK.out _ _ (step_S HB6.out (by simp) (by simp)) (fun hHeld4 => ?_)
          clear hK K hHeld2
          (try simp only [Act.put, List.getElem_toArray, List.getElem_cons_zero, List.getElem_cons_succ, List.setIfInBounds_toArray, List.set_cons_zero, List.set_cons_succ])
          refine wpAnyH_take (i := 17) (v := ?_) rfl (by kernel_rfl) (by kernel_rfl) (by kernel_rfl) (fun c a w h => post_slot 8 (by decide) _ c a w h) (Or.inl ⟨by rfl, ?_⟩) (by assumption) ?_
          rotate_left
          · intro w hSw; simp only [List.getElem_toArray, List.getElem_cons_zero, List.getElem_cons_succ]; go_simp; (try with_reducible rfl)
          simp only [Act.put, List.getElem_toArray, List.getElem_cons_zero, List.getElem_cons_succ, List.setIfInBounds_toArray, List.set_cons_zero, List.set_cons_succ]
          refine wpAnyH_done (by kernel_rfl) ?_ _
          clear HB5 hHeld4 n0 n1 n2 n3 n4 n5 n6 n7 n8 n9 nz nf
          generalize hwz : ((((((((((w2.setCell _ _).setCell _ _).setCell _ _).setCell _ _).setCell _ _).setCell _ _).setCell _ _).setCell _ _).setCell _ _).setCell _ _) = wz
          simp only [hwz] at HB6
          obtain ⟨e0, e1, e2, e3, e4, e5, e6, e7, e8, e9, ez, ef⟩ := HB6.out.get (List.Mem.head _)
          obtain ⟨r0, r1, r2, r3, r4, r5, r6, r7, r8, r9, rz, rf⟩ := HB6.out.get (List.mem_cons_of_mem _ (List.mem_cons_of_mem _ (List.Mem.head _)))
          go_wp2_with fail
          refine step_out (ev := ev) (v := .slice A9 l.length C9) rfl (blk10 (HB6.out.bx _ (List.mem_cons_of_mem _ (List.mem_cons_of_mem _ (List.Mem.head _)))).1 _ _ _ _ _ _ _ _ _ _) (fun W' hs => ?_)
          exact ⟨_, rfl, HB6.out.fin (List.mem_cons_of_mem _ (List.mem_cons_of_mem _ (List.Mem.head _))) ((same10 (Same.refl _ _) (.inl (by simp)) _ _ _ _ _ _ _ _ _ _).trans (hs.mono (by simp)))⟩
      · skip
        unfold InsP FailP at HM
        refine wpAnyH_ready (rs := [11, 15]) (by kernel_rfl) (by simp) ?_
        refine AllReadyH.cons rfl (fun K hK => ?_) (AllReadyH.cons rfl (fun K hK => ?_) AllReadyH.nil)
        · (try simp only [List.getElem_toArray, List.getElem_cons_zero, List.getElem_cons_succ])
          go_simp
          refine (HM.out _ _ _ (HB.out.same (Same.refl _ _).drew).sit).mono ?_
          rintro e w2 ⟨rfl, hlf⟩
          obtain ⟨FT2, G2, hb5⟩ := (HB.out.same (Same.refl _ _).drew).call hlf
          refine step_outp rfl hb5 (R0 := w.heap.size) (R1 := w.heap.size + 1) (List.mem_cons_of_mem _ (List.mem_cons_of_mem _ (List.Mem.head _))) (List.mem_cons_of_mem _ (List.Mem.head _)) er (fun W' hl => ⟨rfl, hl⟩)
        · (try simp only [List.getElem_toArray, List.getElem_cons_zero, List.getElem_cons_succ])
          go_simp
          have HBv : Hid (VB k w (wx.alloc (.cells #[.int .i64 0, .int .u8 0, .int .i64 0, .int .i64 0, .int .u64 0, .int .u64 0, .slice none 0 0, .int .i64 0, .bool false, .int .i64 0] 44)).drew th1 t1 FT G FT1 G1 [] (.slice none 0 0) [(wx.heap.size, 44, zeros), (X, 53, [Value.int .u8 ((on : Int) + 1), .int .i64 ia]), (w.heap.size + 1, 44, zeros), (w.heap.size, 35, [.pointer (some ⟨k.T, 0, none⟩)])]) := Lib.hid ((HB.out.same (Same.refl _ _).drew).box (W' := (wx.alloc (.cells #[.int .i64 0, .int .u8 0, .int .i64 0, .int .i64 0, .int .u64 0, .int .u64 0, .slice none 0 0, .int .i64 0, .bool false, .int .i64 0] 44)).drew) zeros rfl)
          refine hK.out _ _ (step_S HBv.out (by simp) (by simp)) (fun hHeld1 => ?_)
          clear hK K hHeld
          (try simp only [Act.put, List.getElem_toArray, List.getElem_cons_zero, List.getElem_cons_succ, List.setIfInBounds_toArray, List.set_cons_zero, List.set_cons_succ])
          refine wpAnyH_ready (rs := [11]) (by kernel_rfl) (by simp) ?_
          refine AllReadyH.cons rfl (fun K hK => ?_) AllReadyH.nil
          (try simp only [List.getElem_toArray, List.getElem_cons_zero, List.getElem_cons_succ])
          go_simp
          refine (HM.out _ _ _ HBv.out.sit).mono ?_
          rintro e w2 ⟨rfl, hlf⟩
          obtain ⟨FT2, G2, hb5⟩ := HBv.out.call hlf
          refine step_outp rfl hb5 (R0 := w.heap.size) (R1 := w.heap.size + 1) (List.mem_cons_of_mem _ (List.mem_cons_of_mem _ (List.mem_cons_of_mem _ (List.Mem.head _)))) (List.mem_cons_of_mem _ (List.mem_cons_of_mem _ (List.Mem.head _))) er (fun W' hl => ⟨rfl, hl⟩)
      · skip
        unfold InsP QuietP at HM
        simp only [evC] at HM
        refine wpAnyH_ready (rs := [11, 15]) (by kernel_rfl) (by simp) ?_
        refine AllReadyH.cons rfl (fun K hK => ?_) (AllReadyH.cons rfl (fun K hK => ?_) AllReadyH.nil)
        · (try simp only [List.getElem_toArray, List.getElem_cons_zero, List.getElem_cons_succ])
          go_simp
          refine (HM.out _ _ _ (HB.out.same (Same.refl _ _).drew).sit).mono ?_
          rintro e w2 ⟨rfl, hlf⟩
          obtain ⟨FT2, G2, hb5⟩ := (HB.out.same (Same.refl _ _).drew).call hlf
          have HB5 := Lib.hid hb5
          clear hlf hb5
          go_wp2_with fail
          refine hK.out _ _ (step_S HB5.out (by simp) (by simp)) (fun hHeld2 => ?_)
          clear hK K hHeld
          (try simp only [Act.put, List.getElem_toArray, List.getElem_cons_zero, List.getElem_cons_succ, List.setIfInBounds_toArray, List.set_cons_zero, List.set_cons_succ])
          refine wpAnyH_take (i := 12) (v := ?_) rfl (by kernel_rfl) (by kernel_rfl) (by kernel_rfl) (fun c a w h => post_slot 53 (by decide) _ c a w h) (Or.inl ⟨by rfl, ?_⟩) (by assumption) ?_
          rotate_left
          · intro w hSw; simp only [List.getElem_toArray, List.getElem_cons_zero, List.getElem_cons_succ]; go_simp; (try with_reducible rfl)
          simp only [Act.put, List.getElem_toArray, List.getElem_cons_zero, List.getElem_cons_succ, List.setIfInBounds_toArray, List.set_cons_zero, List.set_cons_succ]
          refine wpAnyH_take (i := 13) (v := ?_) rfl (by kernel_rfl) (by kernel_rfl) (by kernel_rfl) (fun c a w h => post_slot 66 (by decide) _ c a w h) (Or.inl ⟨by rfl, ?_⟩) (by assumption) ?_
          rotate_left
          · intro w hSw; simp only [List.getElem_toArray, List.getElem_cons_zero, List.getElem_cons_succ]; go_simp; (try with_reducible rfl)
          simp only [Act.put, List.getElem_toArray, List.getElem_cons_zero, List.getElem_cons_succ, List.setIfInBounds_toArray, List.set_cons_zero, List.set_cons_succ]
          refine wpAnyH_take (i := 14) (v := ?_) rfl (by kernel_rfl) (by kernel_rfl) (by kernel_rfl) (fun c a w h => post_slot 67 (by decide) _ c a w h) (Or.inl ⟨by rfl, ?_⟩) (by assumption) ?_
          rotate_left
          · intro w hSw; simp only [List.getElem_toArray, List.getElem_cons_zero, List.getElem_cons_succ]; go_simp; (try with_reducible rfl)
          simp only [Act.put, List.getElem_toArray, List.getElem_cons_zero, List.getElem_cons_succ, List.setIfInBounds_toArray, List.set_cons_zero, List.set_cons_succ]
          refine wpAnyH_ready (rs := [15]) (by kernel_rfl) (by simp) ?_
          refine AllReadyH.cons rfl (fun K hK => ?_) AllReadyH.nil
          (try simp only [List.getElem_toArray, List.getElem_cons_zero, List.getElem_cons_succ])
          go_simp
          refine hK.out _ _ (step_S (HB5.out.same ((Same.refl _ _).alloc _)) (List.Mem.head _) (by simp)) (fun hHeld3 => ?_)
          clear hK K hHeld2
          (try simp only [Act.put, List.getElem_toArray, List.getElem_cons_zero, List.getElem_cons_succ, List.setIfInBounds_toArray, List.set_cons_zero, List.set_cons_succ])
          refine wpAnyH_ready (rs := [16]) (by kernel_rfl) (by simp) ?_
          refine AllReadyH.cons rfl (fun K hK => ?_) AllReadyH.nil
          (try simp only [List.getElem_toArray, List.getElem_cons_zero, List.getElem_cons_succ])
          go_simp
          refine hK.out _ _ (step_S (HB5.out.same ((Same.refl _ _).alloc _)) (List.Mem.head _) (by simp)) (fun hHeld4 => ?_)
          clear hK K hHeld3
          (try simp only [Act.put, List.getElem_toArray, List.getElem_cons_zero, List.getElem_cons_succ, List.setIfInBounds_toArray, List.set_cons_zero, List.set_cons_succ])
          refine wpAnyH_take (i := 17) (v := ?_) rfl (by kernel_rfl) (by kernel_rfl) (by kernel_rfl) (fun c a w h => post_slot 8 (by decide) _ c a w h) (Or.inl ⟨by rfl, ?_⟩) (by assumption) ?_
          rotate_left
          · intro w hSw; simp only [List.getElem_toArray, List.getElem_cons_zero, List.getElem_cons_succ]; go_simp; (try with_reducible rfl)
          simp only [Act.put, List.getElem_toArray, List.getElem_cons_zero, List.getElem_cons_succ, List.setIfInBounds_toArray, List.set_cons_zero, List.set_cons_succ]
          refine wpAnyH_done (by kernel_rfl) ?_ _
          obtain ⟨wz, hwz⟩ : ∃ wz, wz = w2.alloc (.cells #[.int .i64 0, .int .u8 0, .int .i64 0, .int .i64 0, .int .u64 0, .int .u64 0, .slice none 0 0, .int .i64 0, .bool false, .int .i64 0] 44) := ⟨_, rfl⟩
          rw [← hwz]
          have HB6 := Lib.hid (HB5.out.box (zeros) hwz)
          clear hwz HB5 hHeld4
          obtain ⟨e0, e1, e2, e3, e4, e5, e6, e7, e8, e9, ez, ef⟩ := HB6.out.get (List.Mem.head _)
          obtain ⟨r0, r1, r2, r3, r4, r5, r6, r7, r8, r9, rz, rf⟩ := HB6.out.get (List.mem_cons_of_mem _ (List.mem_cons_of_mem _ (List.Mem.head _)))
          go_wp2_with fail
          go_roundg m
          case measure => omega
          case rel => exact ⟨th2, t2, FT2, G2, by omega, by rw [show ((999 - m : Nat) : Int) + 1 = ((1000 - m : Nat) : Int) from by omega], hnext, HB6.out.less (by simp)⟩
        · (try simp only [List.getElem_toArray, List.getElem_cons_zero, List.getElem_cons_succ])
          go_simp
          have HBv : Hid (VB k w (wx.alloc (.cells #[.int .i64 0, .int .u8 0, .int .i64 0, .int .i64 0, .int .u64 0, .int .u64 0, .slice none 0 0, .int .i64 0, .bool false, .int .i64 0] 44)).drew th1 t1 FT G FT1 G1 [] (.slice none 0 0) [(wx.heap.size, 44, zeros), (X, 53, [Value.int .u8 ((on : Int) + 1), .int .i64 ia]), (w.heap.size + 1, 44, zeros), (w.heap.size, 35, [.pointer (some ⟨k.T, 0, none⟩)])]) := Lib.hid ((HB.out.same (Same.refl _ _).drew).box (W' := (wx.alloc (.cells #[.int .i64 0, .int .u8 0, .int .i64 0, .int .i64 0, .int .u64 0, .int .u64 0, .slice none 0 0, .int .i64 0, .bool false, .int .i64 0] 44)).drew) zeros rfl)
          refine hK.out _ _ (step_S HBv.out (by simp) (by simp)) (fun hHeld1 => ?_)
          clear hK K hHeld
          (try simp only [Act.put, List.getElem_toArray, List.getElem_cons_zero, List.getElem_cons_succ, List.setIfInBounds_toArray, List.set_cons_zero, List.set_cons_succ])
          refine wpAnyH_ready (rs := [11]) (by kernel_rfl) (by simp) ?_
          refine AllReadyH.cons rfl (fun K hK => ?_) AllReadyH.nil
          (try simp only [List.getElem_toArray, List.getElem_cons_zero, List.getElem_cons_succ])
          go_simp
          skip
          refine (HM.out _ _ _ HBv.out.sit).mono ?_
          rintro e w2 ⟨rfl, hlf⟩
          obtain ⟨FT2, G2, hb5⟩ := HBv.out.call hlf
          have HB5 := Lib.hid hb5
          clear hlf hb5
          go_wp2_with fail
          refine hK.out _ _ (step_S HB5.out (by simp) (by simp)) (fun hHeld2 => ?_)
          clear hK K hHeld1
          (try simp only [Act.put, List.getElem_toArray, List.getElem_cons_zero, List.getElem_cons_succ, List.setIfInBounds_toArray, List.set_cons_zero, List.set_cons_succ])
          refine wpAnyH_take (i := 12) (v := ?_) rfl (by kernel_rfl) (by kernel_rfl) (by kernel_rfl) (fun c a w h => post_slot 53 (by decide) _ c a w h) (Or.inl ⟨by rfl, ?_⟩) (by assumption) ?_
          rotate_left
          · intro w hSw; simp only [List.getElem_toArray, List.getElem_cons_zero, List.getElem_cons_succ]; go_simp; (try with_reducible rfl)
          simp only [Act.put, List.getElem_toArray, List.getElem_cons_zero, List.getElem_cons_succ, List.setIfInBounds_toArray, List.set_cons_zero, List.set_cons_succ]
          refine wpAnyH_take (i := 13) (v := ?_) rfl (by kernel_rfl) (by kernel_rfl) (by kernel_rfl) (fun c a w h => post_slot 66 (by decide) _ c a w h) (Or.inl ⟨by rfl, ?_⟩) (by assumption) ?_
          rotate_left
          · intro w hSw; simp only [List.getElem_toArray, List.getElem_cons_zero, List.getElem_cons_succ]; go_simp; (try with_reducible rfl)
          simp only [Act.put, List.getElem_toArray, List.getElem_cons_zero, List.getElem_cons_succ, List.setIfInBounds_toArray, List.set_cons_zero, List.set_cons_succ]
          refine wpAnyH_take (i := 14) (v := ?_) rfl (by kernel_rfl) (by kernel_rfl) (by kernel_rfl) (fun c a w h => post_slot 67 (by decide) _ c a w h) (Or.inl ⟨by rfl, ?_⟩) (by assumption) ?_
          rotate_left
          · intro w hSw; simp only [List.getElem_toArray, List.getElem_cons_zero, List.getElem_cons_succ]; go_simp; (try with_reducible rfl)
          simp only [Act.put, List.getElem_toArray, List.getElem_cons_zero, List.getElem_cons_succ, List.setIfInBounds_toArray, List.set_cons_zero, List.set_cons_succ]
          obtain ⟨n0, n1, n2, n3, n4, n5, n6, n7, n8, n9, nz, nf⟩ := HB5.out.get (List.Mem.head _)
          refine wpAnyH_ready (rs := [16]) (by kernel_rfl) (by simp) ?_
          refine AllReadyH.cons rfl (fun K hK => ?_) AllReadyH.nil
          (try simp only [List.getElem_toArray, List.getElem_cons_zero, List.getElem_cons_succ])
          go_simp
          have HB6 := Lib.hid (HB5.out.laid (same10 (Same.refl _ w2) (.inl (by simp)) (.int .i64 0) (.int .u8 0) (.int .i64 0) (.int .i64 0) (.int .u64 0) (.int .u64 0) (.slice none 0 0) (.int .i64 0) (.bool false) (.int .i64 0)) (blk10 (HB5.out.bx _ (List.Mem.head _)).1 (.int .i64 0) (.int .u8 0) (.int .i64 0) (.int .i64 0) (.int .u64 0) (.int .u64 0) (.slice none 0 0) (.int .i64 0) (.bool false) (.int .i64 0)) HNE.out)
          refine hK.out _ _ (step_S HB6.out (by simp) (by simp)) (fun hHeld4 => ?_)
          clear hK K hHeld2
          (try simp only [Act.put, List.getElem_toArray, List.getElem_cons_zero, List.getElem_cons_succ, List.setIfInBounds_toArray, List.set_cons_zero, List.set_cons_succ])
          refine wpAnyH_take (i := 17) (v := ?_) rfl (by kernel_rfl) (by kernel_rfl) (by kernel_rfl) (fun c a w h => post_slot 8 (by decide) _ c a w h) (Or.inl ⟨by rfl, ?_⟩) (by assumption) ?_
          rotate_left
          · intro w hSw; simp only [List.getElem_toArray, List.getElem_cons_zero, List.getElem_cons_succ]; go_simp; (try with_reducible rfl)
          simp only [Act.put, List.getElem_toArray, List.getElem_cons_zero, List.getElem_cons_succ, List.setIfInBounds_toArray, List.set_cons_zero, List.set_cons_succ]
          refine wpAnyH_done (by kernel_rfl) ?_ _
          clear HB5 hHeld4 n0 n1 n2 n3 n4 n5 n6 n7 n8 n9 nz nf
          generalize hwz : ((((((((((w2.setCell _ _).setCell _ _).setCell _ _).setCell _ _).setCell _ _).setCell _ _).setCell _ _).setCell _ _).setCell _ _).setCell _ _) = wz
          simp only [hwz] at HB6
          obtain ⟨e0, e1, e2, e3, e4, e5, e6, e7, e8, e9, ez, ef⟩ := HB6.out.get (List.Mem.head _)
          obtain ⟨r0, r1, r2, r3, r4, r5, r6, r7, r8, r9, rz, rf⟩ := HB6.out.get (List.mem_cons_of_mem _ (List.mem_cons_of_mem _ (List.Mem.head _)))
          go_wp2_with fail
          go_roundg m
          case measure => omega
          case rel => exact ⟨th2, t2, FT2, G2, by omega, by rw [show ((999 - m : Nat) : Int) + 1 = ((1000 - m : Nat) : Int) from by omega], hnext, HB6.out.less (by simp)⟩
end Vm
end Go.Proofs.YtkepcdbogeineaaGreatDoor
