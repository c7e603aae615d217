/- What an instruction leaves: told, quiet, or given up. -/
import Derived.Test.YtkepcdbogeineaaGreatDoorVmJ
namespace Go.Proofs.YtkepcdbogeineaaGreatDoor
open Go.RowKit Hp Ck
namespace Vm
variable {w w' w1 W W' : World} {k : Kx} {th th' : Th} {FT G : List Nat} {t t' : Toy}

inductive Out
  | quiet (th : Th) (t : Toy)
  | did (ev : Ev) (l : List Int) (th : Th) (t : Toy)
  | fail (er : Int) (th : Th) (t : Toy)

def gone (er : Int) : Ending := .panicked [{ v := .iface 88 (.agg #[.int .i64 er]), recovered := false }]
def QuietP (k : Kx) (w : World) (FT G : List Nat) (th' : Th) (t' : Toy) (e : Ending) (w' : World) : Prop :=
  e = .returned (.tuple #[.agg (evC {} (.slice none 0 0)).toArray, .bool false]) ∧ Lf k w FT G th' t' [] (.slice none 0 0) w'
def DidP (k : Kx) (w : World) (FT G : List Nat) (ev : Ev) (l : List Int) (th' : Th) (t' : Toy) (e : Ending) (w' : World) : Prop :=
  ∃ v, e = .returned (.tuple #[.agg (evC ev v).toArray, .bool true]) ∧ Lf k w FT G th' t' l v w'
def FailP (k : Kx) (w : World) (FT G : List Nat) (er : Int) (th' : Th) (t' : Toy) (e : Ending) (w' : World) : Prop :=
  e = .panicked [{ v := .iface 88 (.agg #[.int .i64 er]), recovered := false }] ∧ Lf k w FT G th' t' [] (.slice none 0 0) w'
/-- What an instruction leaves. -/
def InsP (k : Kx) (w : World) (FT G : List Nat) : Out → Ending → World → Prop
  | .quiet th t => QuietP k w FT G th t
  | .did ev l th t => DidP k w FT G ev l th t
  | .fail er th t => FailP k w FT G er th t

/-- alloc, once more. -/
theorem alloc2_any (h : Sit k w th t FT G) (hf : t.Fine) (kd a b : Int) (ha : 0 ≤ a ∧ a < 18446744073709551616) (hb : 0 ≤ b ∧ b < 18446744073709551616) :
    Calls Tryz.prog 77 #[.pointer (some ⟨k.T, 0, none⟩), toyV k.H, .int .u8 kd, .int .u64 a, .int .u64 b] w fun e w' =>
      if (t.cells.length : Int) < t.most then ∃ A C, e = .returned (.tuple #[.int .u64 (mkW 8 (t.off + t.cells.length)), .bool true, .agg (evC { what := 5, cell := t.off + t.cells.length, old := a, new := b } (.slice A (shadL a b).length C)).toArray]) ∧ Lf k w FT G { th with req := none } ((t.ask [a, b]).more ⟨kd, 0, a, b⟩) (shadL a b) (.slice A (shadL a b).length C) w'
      else e = .returned (.tuple #[.int .u64 0, .bool false, .agg (evC { what := 6 } (.slice none 0 0)).toArray]) ∧ Lf k w FT G { th with req := some (a, b) } (t.ask [a, b]) [] (.slice none 0 0) w' := by
  refine (valloc_any h.vt hf h.vars h.low kd a b ha hb).mono ?_
  rintro e w1 hp
  unfold VaP at hp
  split at hp
  · rename_i hr
    rw [if_pos hr]
    obtain ⟨v, rfl, ⟨A, C, rfl⟩, ho, FT1, G1, h1, h2, h3, h4⟩ := hp
    exact ⟨A, C, rfl, FT1, G1, h.step h1 h2 h3, h2, h3, ⟨A, C, rfl⟩, ho, h4⟩
  · rename_i hr
    rw [if_neg hr]
    exact ⟨hp.1, h.vg hp.2⟩

set_option maxHeartbeats 2000000 in
set_option maxRecDepth 100000 in
theorem push_no {T M : Nat} {cv pv gv fv sv rv : Value} {kvs : List Value} {FC : List Nat} (h : ThAt w T M cv pv gv fv sv rv kvs th FC FT) (hl : 256 ≤ th.st.length) (x : Int) : Calls Tryz.prog 68 #[.pointer (some ⟨T, 0, none⟩), .int .u64 x] w fun e w' => e = .panicked [{ v := .iface 88 (.agg #[.int .i64 180]), recovered := false }] ∧ w = w' := by
  have HR := Lib.hid (room_no h hl)
  clear h hl
  go_enter Tryz.func68, Tryz.ntmps68
  go_wp2_with fail
  refine HR.out.mono ?_
  rintro e w2 ⟨rfl, rfl⟩
  exact ⟨rfl, rfl, rfl⟩

def constM (a : Nat) (th : Th) (t : Toy) : Out := if th.st.length < 256 then .quiet ({ th with st := th.st ++ [th.c.consts.getD a 0] } : Th).next t else .fail 180 th t

/-- A constant's cell. -/
theorem const_cell (h : Sit k w th t FT G) (a : Nat) (ha : a < th.c.consts.length) : ∃ g C, k.cv = .slice (some ⟨g, 0, none⟩) th.c.consts.length C ∧ g < w.heap.size ∧ w.cell? ⟨g, a, none⟩ = some (.int .u64 (th.c.consts.getD a 0)) ∧ w.cell? ⟨k.T, 0, none⟩ = some (.slice (some ⟨g, 0, none⟩) th.c.consts.length C) ∧ k.T < w.heap.size := by
  obtain ⟨fv, sv, rv, h1⟩ := h.vt.th
  have ho := h1.oc.cr
  obtain ⟨A1, C1, e1⟩ := ho.lit
  rw [e1] at ho
  obtain ⟨g, hA⟩ : ∃ g, A1 = some ⟨g, 0, none⟩ := by
    rcases ho.2 with ⟨_, h0⟩ | ⟨g, cap, cur, e, _⟩
    · omega
    · injection e with e; exact ⟨g, e⟩
  subst hA
  obtain ⟨k1, -⟩ := own_cell ho a (by omega)
  refine ⟨g, C1, e1, ho.lt rfl, ?_, ?_, h1.b.lt⟩
  · rw [k1, List.getElem?_map, List.getElem?_eq_getElem ha, List.getD_eq_getElem?_getD, List.getElem?_eq_getElem ha]
    rfl
  · rw [← e1]; exact h1.b.cell 0

set_option maxHeartbeats 4000000 in
set_option maxRecDepth 100000 in
theorem constant_any (h : Sit k w th t FT G) (a : Nat) (ha : a < th.c.consts.length) (hf : th.fr ≠ []) (hat : th.top.at_ ≤ 1000000) (hv : Value) :
    Calls Tryz.prog 43 #[.pointer (some ⟨k.T, 0, none⟩), hv, .int .i64 a] w (InsP k w FT G (constM a th t)) := by
  obtain ⟨g, C1, -, gz, kx, c0, tz⟩ := const_cell h a ha
  unfold constM
  obtain ⟨x, hx⟩ : ∃ x, x = th.c.consts.getD a 0 := ⟨_, rfl⟩
  rw [← hx] at kx ⊢
  obtain ⟨l, hln⟩ : ∃ l, l = th.c.consts.length := ⟨_, rfl⟩
  rw [← hln] at c0
  have hal : (a : Int) < (l : Int) := by omega
  have hal0 : (0 : Int) ≤ (a : Int) := by omega
  have HB := Lib.hid (VB.open_ h)
  clear h hx ha hln
  by_cases hl : th.st.length < 256
  · rw [if_pos hl]
    unfold InsP QuietP
    go_enter Tryz.func43, Tryz.ntmps43
    go_wp2_with fail
    obtain ⟨w0, hw0⟩ : ∃ w0, w0 = w.alloc (.cells #[.int .i64 0, .int .u8 0, .int .i64 0, .int .i64 0, .int .u64 0, .int .u64 0, .slice none 0 0, .int .i64 0, .bool false, .int .i64 0] 44) := ⟨_, rfl⟩
    rw [← hw0]
    have HB0 := Lib.hid (HB.out.box zeros hw0)
    clear hw0 c0 kx
    obtain ⟨fv, sv, rv, q⟩ := HB0.out.sit.vt.th
    refine (push_any q hl x).mono ?_
    rintro e w1 ⟨rfl, hg⟩
    obtain ⟨FT1, G1, hb1⟩ := HB0.out.callT hg
    have HB1 := Lib.hid hb1
    clear hg hb1 q
    go_wp2_with fail
    obtain ⟨fv, sv, rv, q⟩ := HB1.out.sit.vt.th
    refine (next_any q hf hat).mono ?_
    rintro e w2 ⟨rfl, hg⟩
    obtain ⟨FT2, G2, hb2⟩ := HB1.out.callT hg
    have HB2 := Lib.hid hb2
    obtain ⟨r0, r1, r2, r3, r4, r5, r6, r7, r8, r9, rz, rf⟩ := hb2.get (List.Mem.head _)
    clear hg hb2 q
    go_wp2_with fail
    refine bodyPost_ret (v := .tuple #[.agg (evC {} (.slice none 0 0)).toArray, .bool false]) (by simp [results, Tryz.results43, go_sem, evC, r0, r1, r2, r3, r4, r5, r6, r7, r8, r9]) rfl ?_
    exact ⟨rfl, HB2.out.fin (List.Mem.head _) (same10 (Same.refl _ _) (.inl (by simp)) _ _ _ _ _ _ _ _ _ _)⟩
  · rw [if_neg hl]
    unfold InsP FailP
    go_enter Tryz.func43, Tryz.ntmps43
    go_wp2_with fail
    obtain ⟨w0, hw0⟩ : ∃ w0, w0 = w.alloc (.cells #[.int .i64 0, .int .u8 0, .int .i64 0, .int .i64 0, .int .u64 0, .int .u64 0, .slice none 0 0, .int .i64 0, .bool false, .int .i64 0] 44) := ⟨_, rfl⟩
    rw [← hw0]
    have HB0 := Lib.hid (HB.out.box zeros hw0)
    clear hw0 c0 kx
    obtain ⟨fv, sv, rv, q⟩ := HB0.out.sit.vt.th
    refine (push_no q (by omega) x).mono ?_
    rintro e w1 ⟨rfl, rfl⟩
    exact ⟨rfl, rfl, HB0.out.lf⟩
end Vm
end Go.Proofs.YtkepcdbogeineaaGreatDoor
