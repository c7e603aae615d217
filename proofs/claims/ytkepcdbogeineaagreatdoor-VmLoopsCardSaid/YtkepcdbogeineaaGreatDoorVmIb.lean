/- Instructions: closure; what a call does: enters, begin. (Printed by mkVmIb.py.) -/
import Derived.Test.YtkepcdbogeineaaGreatDoorVmIa
namespace Go.Proofs.YtkepcdbogeineaaGreatDoor
open Go.RowKit Hp Ck
namespace Vm
variable {w w' w1 W W' : World} {k : Kx} {th th' : Th} {FT G G1 : List Nat} {t t' : Toy}

/-- The environment of the frame at hand. -/
theorem env_cell {T M : Nat} {cv pv gv fv sv rv : Value} {kvs : List Value} {FC : List Nat} (h : ThAt W T M cv pv gv fv sv rv kvs th FC FT) (hf : th.fr ≠ []) (g D : Nat) (e : fv = .slice (some ⟨g, 0, none⟩) th.fr.length D) (r : Nat) (hr : r < 4) : W.cell? ⟨g, (th.fr.length - 1) * 4 + r, none⟩ = (frC th.top)[r]? ∧ W.frozen? ⟨g, (th.fr.length - 1) * 4 + r, none⟩ = false ∧ g < W.heap.size := by
  have hfr := h.fr
  rw [e] at hfr
  obtain ⟨k1, k2⟩ := frame_cell (th := th) hfr hf r hr
  exact ⟨k1, k2, hfr.lt rfl⟩

def closureM (a : Int) (th : Th) (t : Toy) : Out :=
  if th.st.length < 256 then
    if (t.cells.length : Int) < t.most then .did { what := 5, cell := t.off + t.cells.length, old := mkW 5 a, new := th.top.env } (shadL (mkW 5 a) th.top.env) (({ th with req := none } : Th).value 0 (mkW 8 (t.off + t.cells.length))) ((t.ask [mkW 5 a, th.top.env]).more ⟨3, 0, mkW 5 a, th.top.env⟩)
    else .did { what := 6 } [] { th with req := some (mkW 5 a, th.top.env) } (t.ask [mkW 5 a, th.top.env])
  else .fail 180 th t
set_option maxHeartbeats 4000000 in
set_option maxRecDepth 100000 in
theorem closure_any (h : Sit k w th t FT G) (hfi : t.Fine) (a : Int) (ha64 : in64 a) (henv : 0 ≤ th.top.env ∧ th.top.env < 18446744073709551616) (hl : th.st.length ≤ 1000000) (hf : th.fr ≠ []) (hat : th.top.at_ ≤ 1000000) :
    Calls Tryz.prog 48 #[.pointer (some ⟨k.T, 0, none⟩), toyV k.H, .int .i64 a] w (InsP k w FT G (closureM a th t)) := by
  unfold closureM
  have HA := Lib.hid (fun W FT' G' (h : Sit k W th t FT' G') => alloc2_any h hfi 3 (mkW 5 a) th.top.env (mkW_in _ _) henv)
  have HB := Lib.hid (VB.open_ h)
  clear h hfi henv
  obtain ⟨en, hen⟩ : ∃ x, x = th.top.env := ⟨_, rfl⟩
  rw [← hen] at HA ⊢
  have HEN := Lib.hid hen
  clear hen
  unfold toyV at *
  by_cases hl2 : th.st.length < 256
  · rw [if_pos hl2]
    by_cases hroom : (t.cells.length : Int) < t.most
    · simp only [if_pos hroom] at HA ⊢
      simp only [evC] at HA
      unfold InsP DidP
      obtain ⟨cn, hcn⟩ : ∃ c, c = t.off + (t.cells.length : Int) := ⟨_, rfl⟩
      rw [← hcn] at HA ⊢
      obtain ⟨x, hx⟩ : ∃ x, x = mkW 8 cn := ⟨_, rfl⟩
      rw [← hx] at HA ⊢
      clear hroom hcn hx
      go_enter Tryz.func48, Tryz.ntmps48
      go_wp2_with fail
      obtain ⟨w0, hw0⟩ : ∃ w0, w0 = w.alloc (.cells #[.int .i64 0, .int .u8 0, .int .i64 0, .int .i64 0, .int .u64 0, .int .u64 0, .slice none 0 0, .int .i64 0, .bool false, .int .i64 0] 44) := ⟨_, rfl⟩
      rw [← hw0]
      have HB0 := Lib.hid (HB.out.box zeros hw0)
      clear hw0
      obtain ⟨fv, sv, rv, q⟩ := HB0.out.sit.vt.th
      refine (room_yes q hl2).mono ?_
      rintro e w1 ⟨rfl, rfl⟩
      go_wp2_with fail
      refine (vnum_any a ha64 HB0.out.sit.vars).mono ?_
      rintro e w1 ⟨rfl, rfl⟩
      go_wp2_with fail
      have HQ := Lib.hid q
      refine (frame_any q hf).mono ?_
      rintro e w1 ⟨g, D, rfl, rfl, hs1⟩
      obtain ⟨k1, -, k3⟩ := env_cell HQ.out hf g D rfl 2 (by decide)
      have k1' : w1.cell? ⟨g, (th.fr.length - 1) * 4 + 2, none⟩ = some (.int .u64 en) := (hs1.cell k3 (by simp)).trans (by rw [HEN.out]; exact k1)
      have HB1 := Lib.hid (HB0.out.same hs1)
      clear q HQ hs1 k1 k3
      go_wp2_with fail
      refine (HA.out _ _ _ HB1.out.sit).mono ?_
      rintro e w2 ⟨A9, C9, rfl, hlf⟩
      obtain ⟨FT1, G1, hb1⟩ := HB1.out.call hlf
      have HB2 := Lib.hid hb1
      clear hlf hb1 HA HB1 k1'
      go_wp2_with fail
      obtain ⟨w3, hwn⟩ : ∃ wb, wb = w2.alloc (.cells #[.int .i64 0, .int .u8 5, .int .i64 cn, .int .i64 0, .int .u64 (mkW 5 a), .int .u64 en, .slice A9 (shadL (mkW 5 a) en).length C9, .int .i64 0, .bool false, .int .i64 0] 44) := ⟨_, rfl⟩
      rw [← hwn]
      have HB3 := Lib.hid (HB2.out.box (evC { what := 5, cell := cn, old := mkW 5 a, new := en } (.slice A9 (shadL (mkW 5 a) en).length C9)) hwn)
      clear hwn
      obtain ⟨fv, sv, rv, q⟩ := HB3.out.sit.vt.th
      refine (value_any q 0 (Nat.zero_le _) hl x hf hat).mono ?_
      rintro e w4 ⟨rfl, hg⟩
      obtain ⟨FT_w4, G_w4, hb_⟩ := HB3.out.callT hg
      have HB4 := Lib.hid hb_
      clear hg hb_ q
      obtain ⟨e0, e1, e2, e3, e4, e5, e6, e7, e8, e9, ez, ef⟩ := HB4.out.get (List.Mem.head _)
      obtain ⟨r0, r1, r2, r3, r4, r5, r6, r7, r8, r9, rz, rf⟩ := HB4.out.get (List.mem_cons_of_mem _ (List.Mem.head _))
      go_wp2_with fail
      refine bodyPost_ret (v := .tuple #[.agg (evC { what := 5, cell := cn, old := mkW 5 a, new := en } (.slice A9 (shadL (mkW 5 a) en).length C9)).toArray, .bool true]) (by simp [results, Tryz.results48, go_sem, evC, r0, r1, r2, r3, r4, r5, r6, r7, r8, r9]) rfl ?_
      exact ⟨_, rfl, HB4.out.fin (List.mem_cons_of_mem _ (List.Mem.head _)) (same10 (Same.refl _ _) (.inl (by simp)) _ _ _ _ _ _ _ _ _ _)⟩
    · simp only [if_neg hroom] at HA ⊢
      simp only [evC] at HA
      unfold InsP DidP
      clear hroom
      go_enter Tryz.func48, Tryz.ntmps48
      go_wp2_with fail
      obtain ⟨w0, hw0⟩ : ∃ w0, w0 = w.alloc (.cells #[.int .i64 0, .int .u8 0, .int .i64 0, .int .i64 0, .int .u64 0, .int .u64 0, .slice none 0 0, .int .i64 0, .bool false, .int .i64 0] 44) := ⟨_, rfl⟩
      rw [← hw0]
      have HB0 := Lib.hid (HB.out.box zeros hw0)
      clear hw0
      obtain ⟨fv, sv, rv, q⟩ := HB0.out.sit.vt.th
      refine (room_yes q hl2).mono ?_
      rintro e w1 ⟨rfl, rfl⟩
      go_wp2_with fail
      refine (vnum_any a ha64 HB0.out.sit.vars).mono ?_
      rintro e w1 ⟨rfl, rfl⟩
      go_wp2_with fail
      have HQ := Lib.hid q
      refine (frame_any q hf).mono ?_
      rintro e w1 ⟨g, D, rfl, rfl, hs1⟩
      obtain ⟨k1, -, k3⟩ := env_cell HQ.out hf g D rfl 2 (by decide)
      have k1' : w1.cell? ⟨g, (th.fr.length - 1) * 4 + 2, none⟩ = some (.int .u64 en) := (hs1.cell k3 (by simp)).trans (by rw [HEN.out]; exact k1)
      have HB1 := Lib.hid (HB0.out.same hs1)
      clear q HQ hs1 k1 k3
      go_wp2_with fail
      refine (HA.out _ _ _ HB1.out.sit).mono ?_
      rintro e w2 ⟨rfl, hlf⟩
      obtain ⟨FT1, G1, hb1⟩ := HB1.out.call hlf
      have HB2 := Lib.hid hb1
      obtain ⟨r0, r1, r2, r3, r4, r5, r6, r7, r8, r9, rz, rf⟩ := HB2.out.get (List.Mem.head _)
      clear hlf hb1 HA HB1 k1'
      go_wp2_with fail
      refine bodyPost_ret (v := .tuple #[.agg (evC { what := 6 } (.slice none 0 0)).toArray, .bool true]) (by simp [results, Tryz.results48, go_sem, evC, r0, r1, r2, r3, r4, r5, r6, r7, r8, r9, World.cell?_alloc_lt, rz]) rfl ?_
      exact ⟨_, rfl, HB2.out.fin (List.Mem.head _) ((same10 (Same.refl _ _) (.inl (by simp)) _ _ _ _ _ _ _ _ _ _).alloc _)⟩
  · rw [if_neg hl2]
    unfold InsP FailP
    go_enter Tryz.func48, Tryz.ntmps48
    go_wp2_with fail
    obtain ⟨w0, hw0⟩ : ∃ w0, w0 = w.alloc (.cells #[.int .i64 0, .int .u8 0, .int .i64 0, .int .i64 0, .int .u64 0, .int .u64 0, .slice none 0 0, .int .i64 0, .bool false, .int .i64 0] 44) := ⟨_, rfl⟩
    rw [← hw0]
    have HB0 := Lib.hid (HB.out.box zeros hw0)
    clear hw0
    obtain ⟨fv, sv, rv, q⟩ := HB0.out.sit.vt.th
    refine (room_no q (by omega)).mono ?_
    rintro e w1 ⟨rfl, rfl⟩
    exact ⟨rfl, rfl, HB0.out.lf⟩
end Vm
end Go.Proofs.YtkepcdbogeineaaGreatDoor
