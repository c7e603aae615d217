/- What the chapter's first example fixes: works. -/
import Derived.Test.YtkepcdbogeineaaGreatDoorVmY
import Derived.Test.YtkepcdbogeineaaGreatDoorVmP
import Derived.Test.YtkepcdbogeineaaGreatDoorVmQ
import Derived.Test.YtkepcdbogeineaaGreatDoorVmV
namespace Go.Proofs.YtkepcdbogeineaaGreatDoor
open Go.RowKit Hp Ck
namespace Vm
variable {w w' w1 W W' : World} {k : Kx} {th th' : Th} {FT G : List Nat} {t t' : Toy}

theorem Meets.of {o : Out} {fn : Nat} {op a : Int} (hf : th.fr ≠ []) (hp : th.top.proc < th.c.procs.length) (ha : th.top.at_ < (th.c.procs.getD th.top.proc ⟨0, []⟩).code.length) (hi : th.ins = ⟨op, a⟩) (hop : 1 ≤ op ∧ op ≤ 18) (hfn : opF.getD (op - 1).toNat 0 = fn)
    (h : ∀ w FT G, Sit k w th t FT G → Calls Tryz.prog fn #[.pointer (some ⟨k.T, 0, none⟩), toyV k.H, .int .i64 a] w (InsP k w FT G o)) : Meets k th t o :=
  ⟨hf, hp, ha, by rw [hi]; exact hop, fun w FT G hs => by rw [hi, hfn]; exact h w FT G hs⟩

/-- The example's threads and toys. -/
def five : Int := mkW 5 5
def nil1 : Int := mkW 1 0
def x0 : Th := begins firstC 0 nil1
def x1 : Th := { x0 with fr := [⟨0, 1, nil1, 0⟩], st := [five] }
def x2 : Th := { x0 with fr := [⟨0, 2, nil1, 0⟩], st := [five, nil1] }
def x3 : Th := { x0 with fr := [⟨0, 3, nil1, 0⟩], st := [mkW 8 0] }
def x4 : Th := { x0 with fr := [⟨0, 4, nil1, 0⟩], st := [five] }
def x5 : Th := { x0 with fr := [], st := [], ended := true, word := five, err := 0 }
def y0 : Toy := newToy 0 0 9
def y1 : Toy := (y0.ask [five, nil1]).more ⟨1, 0, five, nil1⟩
def y2 : Toy := (y1.asked1 (mkW 8 0)).ask []

theorem y0_fine : y0.Fine := ⟨by decide, by decide, by decide, by decide⟩
theorem y1_fine : y1.Fine := ⟨by decide, by decide, by decide, by decide⟩

theorem m0 : Meets k x0 y0 (.quiet x1 y0) := Meets.of (op := 1) (a := 0) (by decide) (by decide) (by decide) rfl (by decide) rfl (fun w FT G hs => by
  have h := constant_any hs 0 (by decide) (by decide) (by decide) (toyV k.H)
  rw [show constM 0 x0 y0 = .quiet x1 y0 from by kernel_rfl] at h
  exact h)
theorem m1 : Meets k x1 y0 (.quiet x2 y0) := Meets.of (op := 1) (a := 1) (by decide) (by decide) (by decide) rfl (by decide) rfl (fun w FT G hs => by
  have h := constant_any hs 1 (by decide) (by decide) (by decide) (toyV k.H)
  rw [show constM 1 x1 y0 = .quiet x2 y0 from by kernel_rfl] at h
  exact h)
def ev1 : Ev := { what := 5, cell := 0, old := five, new := nil1 }
def ev2 : Ev := { what := 1, cell := 0, field := 0, old := five, new := five }
def ev3 : Ev := { what := 17, new := five }
theorem m2 : Meets k x2 y0 (.did ev1 [] x3 y1) := Meets.of (op := 13) (a := 1) (by decide) (by decide) (by decide) rfl (by decide) rfl (fun w FT G hs => by
  refine prim_1 hs (by decide) ev1 [] x3 y1 (fun W F2 G2 h2 => ?_)
  have h := cons_any h2 y0_fine 1 2 (x2.at 1) (x2.at 0) (by rw [show x2.at 1 = mkW 5 5 from by kernel_rfl]; exact mkW_in _ _) (by rw [show x2.at 0 = mkW 1 0 from by kernel_rfl]; exact mkW_in _ _) (by decide) (by decide) (by decide) (by decide)
  rw [show consM 1 2 (x2.at 1) (x2.at 0) x2 y0 = .did ev1 [] x3 y1 from by kernel_rfl] at h
  exact h)
theorem m3 : Meets k x3 y1 (.did ev2 [] x4 y2) := Meets.of (op := 13) (a := 2) (by decide) (by decide) (by decide) rfl (by decide) rfl (fun w FT G hs => by
  refine prim_2 hs _ (fun _ _ => by simp) (fun W F2 G2 h2 => ?_)
  have h := field_any h2 y1_fine 1 (by decide) 0 (.inl rfl) (by decide) (by rw [show x3.at 0 = mkW 8 0 from by kernel_rfl]; exact mkW_in _ _) (by decide) (by decide) (by decide) (by decide)
  rw [show fieldM 1 0 x3 y1 = .did ev2 [] x4 y2 from by kernel_rfl] at h
  exact h)
theorem m4 : Meets k x4 y2 (.did ev3 [] x5 y2) := Meets.of (op := 12) (a := 0) (by decide) (by decide) (by decide) rfl (by decide) rfl (fun w FT G hs => by
  have h := returns_any hs (by decide) (by decide) (by decide) (by decide) (toyV k.H) 0
  rw [show retM x4 y2 = .did ev3 [] x5 y2 from by kernel_rfl] at h
  exact h)
theorem step1_any (h : Sit k w x0 y0 FT G) : Calls Tryz.prog 13 #[.pointer (some ⟨k.T, 0, none⟩), toyV k.H] w fun e w' => ∃ v, e = .returned (.agg (evC ev1 v).toArray) ∧ Lf k w FT G x3 y1 [] v w' :=
  step_any h rfl rfl (.did ev1 [] x3 y1) (.more m0 (.more m1 (.did m2)))
theorem step2_any (h : Sit k w x3 y1 FT G) : Calls Tryz.prog 13 #[.pointer (some ⟨k.T, 0, none⟩), toyV k.H] w fun e w' => ∃ v, e = .returned (.agg (evC ev2 v).toArray) ∧ Lf k w FT G x4 y2 [] v w' :=
  step_any h rfl rfl (.did ev2 [] x4 y2) (.did m3)
theorem step3_any (h : Sit k w x4 y2 FT G) : Calls Tryz.prog 13 #[.pointer (some ⟨k.T, 0, none⟩), toyV k.H] w fun e w' => ∃ v, e = .returned (.agg (evC ev3 v).toArray) ∧ Lf k w FT G x5 y2 [] v w' :=
  step_any h rfl rfl (.did ev3 [] x5 y2) (.did m4)

/-- The list of a call, as a block. -/
theorem NewW.blk {l : List Int} {A : Option Addr} {C : Nat} (h : NewW w l A C w') (hl : 0 < l.length) : ∃ b cs, A = some ⟨b, 0, none⟩ ∧ Blk w' b 30 cs ∧ (∀ i, i < l.length → cs[i]? = (l.map (Value.int .u64))[i]?) ∧ w.heap.size ≤ b ∧ l.length ≤ C ∧ C ≤ maxLen := by
  obtain ⟨b, C2, e⟩ : ∃ g C2, (Value.slice A l.length C) = .slice (some ⟨g, 0, none⟩) l.length C2 := by
    rcases h.1.2 with ⟨_, h0⟩ | ⟨g, cap, cur, e, _⟩
    · omega
    · exact ⟨g, cap, e⟩
  injection e with e1 _ e2
  subst e1 e2
  have hcap : l.length ≤ C ∧ C ≤ maxLen := by
    rcases h.1.2 with ⟨e1, h0⟩ | ⟨g, cap, cur, e1, _, _, h1, h2, _⟩
    · cases e1
    · injection e1 with _ _ e3; subst e3; exact ⟨by omega, h2⟩
  obtain ⟨cur, hc⟩ := h.1.kind (show (Value.slice (some ⟨b, 0, none⟩) l.length C).ownBlock = some b from rfl)
  refine ⟨b, cur.toList, rfl, by unfold Blk; simpa using hc, fun i hi => ?_, h.2.1 b rfl, hcap⟩
  have h1 := (own_cell h.1 i (by omega)).1
  have hb : Blk w' b 30 cur.toList := by unfold Blk; simpa using hc
  rw [hb.cell i] at h1
  exact h1
theorem VB.add {w0 : World} {FT0 G0 : List Nat} {bs : List (Nat × Nat × List Value)} {l : List Int} {v : Value} {b ty : Nat} {cs : List Value} (h : VB k w0 W th t FT0 G0 FT G l v bs) (hb : Blk W b ty cs) (hn : w0.heap.size ≤ b ∧ b ∉ FT ∧ b ∉ G) (hty : ty ≠ 3) : VB k w0 W th t FT0 G0 FT G l v ((b, ty, cs) :: bs) :=
  ⟨h.sit, h.sm, h.sub, h.sh, fun p hp => by
    rcases List.mem_cons.1 hp with e | hp
    · subst e; exact ⟨hb, hn.1, hn.2.1, hn.2.2, hty⟩
    · exact h.bx p hp, h.c0, h.f0, h.v0⟩

set_option maxHeartbeats 8000000 in
set_option maxRecDepth 100000 in
theorem works_any (hv : Vars w) : Calls Tryz.prog 7 #[] w fun e w' => e = .returned (.bool true) ∧ Same [] w w' := by
  have HV := Lib.hid (fun W (hs : Same [] w W) => hv.frame hs (by simp))
  clear hv
  go_enter Tryz.func7, Tryz.ntmps7
  go_wp2_with fail
  refine (int_any 5 (by unfold in64; omega) (HV.out _ (Same.refl _ _))).mono ?_
  rintro e w1 ⟨rfl, rfl⟩
  go_wp2_with fail
  refine (make_two 1 0 (by decide) (by unfold in64; omega) (HV.out _ (Same.refl _ _))).mono ?_
  rintro e w1 ⟨rfl, rfl⟩
  go_wp2_with fail
  refine (first_any (HV.out _ (Same.refl _ _))).mono ?_
  rintro e w1 ⟨b1, b2, rfl, hr1, hs1⟩
  have HS1 := Lib.hid hs1
  have HR1 := Lib.hid hr1
  clear hs1 hr1
  go_wp2_with fail
  refine (new_any _ _ _ firstC HR1.out first_w (HV.out _ HS1.out) 0 (mkW 1 0) (by unfold in64; omega)).mono ?_
  rintro e w2 ⟨hs2, hp⟩
  rw [if_pos first_e.1] at hp
  obtain ⟨T, FC, FT, rfl, ⟨M, cv, pv, gv, fv, sv, rv, kvs, hth⟩, hnew⟩ := hp
  have HS2 := Lib.hid hs2
  have HTH := Lib.hid hth
  have HNW := Lib.hid hnew
  clear hs2 hth hnew HR1
  go_wp2_with fail
  refine (first_any (HV.out _ (HS1.out.trans HS2.out))).mono ?_
  rintro e w3 ⟨b3, b4, rfl, hr3, hs3⟩
  have HS3 := Lib.hid hs3
  have HR3 := Lib.hid hr3
  clear hs3 hr3
  go_wp2_with fail
  refine (new_any _ _ _ firstC HR3.out first_w (HV.out _ ((HS1.out.trans HS2.out).trans HS3.out)) 1 (mkW 1 0) (by unfold in64; omega)).mono ?_
  rintro e w4 ⟨hs4, hp⟩
  rw [if_neg (by rw [first_e.2]; decide), first_e.2] at hp
  obtain rfl := hp
  have HS4 := Lib.hid hs4
  clear hs4 HR3
  go_wp2_with fail
  refine (first_any (HV.out _ (((HS1.out.trans HS2.out).trans HS3.out).trans HS4.out))).mono ?_
  rintro e w5 ⟨b5, b6, rfl, -, hs5⟩
  have HS5 := Lib.hid ((((HS1.out.trans HS2.out).trans HS3.out).trans HS4.out).trans hs5)
  have HS25 := Lib.hid ((HS3.out.trans HS4.out).trans hs5)
  clear hs5
  go_wp2_with fail
  refine (toy_any (HV.out _ HS5.out) (.slice (some ⟨b5, 0, none⟩) 2 2) (.slice (some ⟨b6, 0, none⟩) 1 1) none 0 0 ⟨_, _, _, rfl⟩ ⟨_, _, _, rfl⟩ (by decide) 0 9).mono ?_
  rintro e w6 ⟨H, G, rfl, ⟨gv6, ht6⟩, hG, hs6⟩
  have hsit : Sit ⟨T, M, cv, pv, gv, kvs, H, FC⟩ w6 x0 y0 FT G := by
    have hth6 := HTH.out.frame0 (HS25.out.trans hs6)
    have hz := HS25.out.size
    refine ⟨⟨⟨fv, sv, rv, hth6⟩, ⟨_, _, _, _, ht6⟩, fun b hb hm => ?_, fun b hb hm => ?_⟩, HV.out _ (HS5.out.trans hs6), fun b hb => ?_⟩
    · have h1 := hG b hb; have h2 := HTH.out.tl b hm; omega
    · have h1 := hG b hm; have h2 := HTH.out.cl b hb; omega
    · have h0 := (HV.out w (Same.refl _ _)).size
      have h9 := HS1.out.size
      rcases hb with hb | hb
      · have h1 := HNW.out b (.inr hb); omega
      · have h1 := hG b hb; have := HS5.out.size; omega
  have HB0 := Lib.hid (VB.open_ hsit)
  have HS6 := Lib.hid (HS5.out.trans hs6)
  have HLO : Hid (∀ b, b ∈ FT ∨ b ∈ G → w.heap.size ≤ b) := Lib.hid (fun b hb => by
    have h9 := HS1.out.size
    have h8 := HS5.out.size
    rcases hb with hb | hb
    · have := HNW.out b (.inr hb); omega
    · have := hG b hb; omega)
  clear ht6 hG hs6 hsit HTH HNW HS1 HS2 HS3 HS4 HS5 HS25
  go_wp2_with fail
  refine (step1_any HB0.out.sit).mono ?_
  rintro e w7 ⟨v, he, hlf⟩
  obtain ⟨A1, C1, rfl⟩ := hlf.form
  simp only [evC, ev1, List.length_nil] at he
  subst he
  obtain ⟨FT1, G1, hb⟩ := HB0.out.call hlf
  have HB1a := Lib.hid hb
  clear hlf hb
  go_wp2_with fail
  obtain ⟨w7b, hw⟩ : ∃ wb, wb = w7.alloc (.cells #[.int .i64 0, .int .u8 5, .int .i64 0, .int .i64 0, .int .u64 five, .int .u64 nil1, .slice A1 0 C1, .int .i64 0, .bool false, .int .i64 0] 44) := ⟨_, rfl⟩
  rw [← hw]
  have HB1 := Lib.hid (HB1a.out.box (evC ev1 (.slice A1 0 C1)) hw)
  clear hw HB1a
  clear HB0
  go_wp2_with fail
  obtain ⟨fv1, sv1, rv1, q⟩ := HB1.out.sit.vt.th
  refine (roots_any q (by decide) (by decide)).mono ?_
  rintro e w8 ⟨AL, CL, he, hN⟩
  have hroots : x3.roots = [mkW 8 0, nil1] := by kernel_rfl
  rw [hroots] at he hN
  subst he
  obtain ⟨bl, cs, rfl, hbl, hcs, hzl, hcap⟩ := hN.blk (by decide)
  have HB2 := Lib.hid ((HB1.out.same hN.2.2).add hbl ⟨Nat.le_trans (HB1.out.sm.size) hzl, HB1.out.sit.fresh hzl⟩ (by decide))
  have HCS := Lib.hid (And.intro hcs hcap)
  clear hN hbl hcs hzl hcap hroots q HB1
  go_wp2_with fail
  refine (step2_any HB2.out.sit).mono ?_
  rintro e w9 ⟨v, he, hlf⟩
  obtain ⟨A2, C2, rfl⟩ := hlf.form
  simp only [evC, ev2, List.length_nil] at he
  subst he
  obtain ⟨FT2, G2, hb⟩ := HB2.out.call hlf
  have HB3a := Lib.hid hb
  clear hlf hb
  go_wp2_with fail
  obtain ⟨w9b, hw⟩ : ∃ wb, wb = w9.alloc (.cells #[.int .i64 0, .int .u8 1, .int .i64 0, .int .i64 0, .int .u64 five, .int .u64 five, .slice A2 0 C2, .int .i64 0, .bool false, .int .i64 0] 44) := ⟨_, rfl⟩
  rw [← hw]
  have HB3 := Lib.hid (HB3a.out.box (evC ev2 (.slice A2 0 C2)) hw)
  clear hw HB3a
  clear HB2
  go_wp2_with fail
  refine (step3_any HB3.out.sit).mono ?_
  rintro e w10 ⟨v, he, hlf⟩
  obtain ⟨A3, C3, rfl⟩ := hlf.form
  simp only [evC, ev3, List.length_nil] at he
  subst he
  obtain ⟨FT3, G3, hb⟩ := HB3.out.call hlf
  have HB4a := Lib.hid hb
  clear hlf hb
  go_wp2_with fail
  obtain ⟨w10b, hw⟩ : ∃ wb, wb = w10.alloc (.cells #[.int .i64 0, .int .u8 17, .int .i64 0, .int .i64 0, .int .u64 0, .int .u64 five, .slice A3 0 C3, .int .i64 0, .bool false, .int .i64 0] 44) := ⟨_, rfl⟩
  rw [← hw]
  have HB4 := Lib.hid (HB4a.out.box (evC ev3 (.slice A3 0 C3)) hw)
  clear hw HB4a
  clear HB3
  go_wp2_with fail
  obtain ⟨fv1, sv1, rv1, q⟩ := HB4.out.sit.vt.th
  refine (ended_any q).mono ?_
  rintro e w11 ⟨he, hs11⟩
  rw [show x5.ended = true from rfl, show x5.word = mkW 5 5 from rfl, show x5.err = 0 from rfl] at he
  subst he
  have HB5 := Lib.hid (HB4.out.same hs11)
  clear hs11 q HB4
  have hb1 := (HB5.out.bx (w7.heap.size, 44, evC ev1 (.slice A1 0 C1)) (by simp)).1
  have hb2 := (HB5.out.bx (w9.heap.size, 44, evC ev2 (.slice A2 0 C2)) (by simp)).1
  have hb3 := (HB5.out.bx (w10.heap.size, 44, evC ev3 (.slice A3 0 C3)) (by simp)).1
  have hbl := (HB5.out.bx (bl, 30, cs) (by simp)).1
  have p1 : w11.cell? ⟨w7.heap.size, 1, none⟩ = some (.int .u8 5) := hb1.cell 1
  have p2 : w11.cell? ⟨w7.heap.size, 2, none⟩ = some (.int .i64 0) := hb1.cell 2
  have p4 : w11.cell? ⟨w7.heap.size, 4, none⟩ = some (.int .u64 (mkW 5 5)) := hb1.cell 4
  have p5 : w11.cell? ⟨w7.heap.size, 5, none⟩ = some (.int .u64 (mkW 1 0)) := hb1.cell 5
  have q1 : w11.cell? ⟨w9.heap.size, 1, none⟩ = some (.int .u8 1) := hb2.cell 1
  have q5 : w11.cell? ⟨w9.heap.size, 5, none⟩ = some (.int .u64 (mkW 5 5)) := hb2.cell 5
  have r1 : w11.cell? ⟨w10.heap.size, 1, none⟩ = some (.int .u8 17) := hb3.cell 1
  have r5 : w11.cell? ⟨w10.heap.size, 5, none⟩ = some (.int .u64 (mkW 5 5)) := hb3.cell 5
  have pz := hb1.lt
  have qz := hb2.lt
  have rz := hb3.lt
  have HBL := Lib.hid hbl
  clear hb1 hb2 hb3 hbl
  go_wp2_with fail
  obtain ⟨we, hwe⟩ : ∃ we, we = w11.alloc (.cells #[.bool true, .int .u64 (mkW 5 5), .int .i64 0] 58) := ⟨_, rfl⟩
  rw [← hwe]
  have hse : Same [] w11 we := by rw [hwe]; exact (Same.refl _ _).alloc _
  have HB6 := Lib.hid (HB5.out.same hse)
  have HBE := Lib.hid (HBL.out.frame hse (by simp))
  clear hwe hse HB5 HBL p1 p2 p4 p5 q1 q5 r1 r5 pz qz rz
  refine (ref_any 0 (by unfold in64; omega) HB6.out.sit.vars).mono ?_
  rintro e w12 ⟨rfl, rfl⟩
  go_wp2_with fail
  obtain ⟨wg, hwg⟩ : ∃ wg, wg = we.alloc (.cells #[.int .u64 (mkW 8 0), .int .u64 (mkW 1 0)] 30) := ⟨_, rfl⟩
  rw [← hwg]
  have hsg : Same [] we wg := by rw [hwg]; exact (Same.refl _ _).alloc _
  have hbg : Blk wg we.heap.size 30 [.int .u64 (mkW 8 0), .int .u64 (mkW 1 0)] := by rw [hwg]; exact Blk.new we _ _
  have hbl := HBE.out.frame hsg (by simp)
  have hq1 : Sq wg (.slice (some ⟨bl, 0, none⟩) 2 CL) [mkW 8 0, mkW 1 0].length 1 (fW [mkW 8 0, mkW 1 0]) := by
    refine ⟨_, CL, rfl, HCS.out.2.1, HCS.out.2.2, fun _ => ⟨bl, 0, rfl, hbl.lt, fun i j hi hj => ?_⟩⟩
    obtain rfl : j = 0 := by omega
    have hi' : i < 2 := hi
    have h1 := HCS.out.1 i hi'
    rw [hbl.cell, show 0 + i * 1 + 0 = i from by omega, h1]
    obtain rfl | rfl : i = 0 ∨ i = 1 := by omega
    · rfl
    · rfl
  have hq2 : Sq wg (.slice (some ⟨we.heap.size, 0, none⟩) 2 2) [mkW 8 0, mkW 1 0].length 1 (fW [mkW 8 0, mkW 1 0]) := by
    refine ⟨_, 2, rfl, by decide, by unfold maxLen; omega, fun _ => ⟨we.heap.size, 0, rfl, hbg.lt, fun i j hi hj => ?_⟩⟩
    obtain rfl : j = 0 := by omega
    have hi' : i < 2 := hi
    obtain rfl | rfl : i = 0 ∨ i = 1 := by omega
    · exact hbg.cell 0
    · exact hbg.cell 1
  have HQ := Lib.hid (And.intro hq1 hq2)
  have HB7 := Lib.hid (HB6.out.same hsg)
  clear hwg hsg hbg hbl hq1 hq2 HB6 HBE
  refine (s0W_any _ _ _ _ HQ.out.1 HQ.out.2).mono ?_
  rintro e w13 ⟨rfl, hq⟩
  have HB8 := Lib.hid (HB7.out.same hq.same)
  clear hq HB7 HQ
  go_wp2_with fail
  go_ret
  refine ⟨by simp, HS6.out.trans' HB8.out.sm (fun x hx => .inr ?_)⟩
  exact HLO.out x (by simpa using hx)
end Vm
end Go.Proofs.YtkepcdbogeineaaGreatDoor
