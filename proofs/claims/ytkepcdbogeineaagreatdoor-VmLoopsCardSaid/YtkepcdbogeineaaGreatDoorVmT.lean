/- The document's Toy in memory: asked, Kind, cell, Load. -/
import Derived.Test.YtkepcdbogeineaaGreatDoorVmE
namespace Go.Proofs.YtkepcdbogeineaaGreatDoor
open Go.RowKit Hp Ck
namespace Vm
variable {w w' w1 W W' : World} {H : Nat} {cv gv sv hv : Value} {G G1 : List Nat}

structure Cel where
  kind : Int
  colour : Int
  a : Int
  b : Int
structure Toy where
  off : Int
  most : Int
  cells : List Cel
  globals : List Int
  spawned : List Int
  joins : Int
  calls : Int
  kinds : Int
  handed : List Int
  wrong : Bool
def celC (c : Cel) : List Value := [.int .u8 c.kind, .int .u8 c.colour, .int .u64 c.a, .int .u64 c.b]
def flatC (l : List Cel) : List Value := l.flatMap celC
def toyC (cv gv sv hv : Value) (t : Toy) : List Value := [.int .i64 t.off, .int .i64 t.most, cv, gv, sv, .int .i64 t.joins, .int .i64 t.calls, .int .i64 t.kinds, hv, .bool t.wrong]

variable {t t' : Toy}
/-- The toy in memory. -/
structure ToyAt (W : World) (H : Nat) (cv gv sv hv : Value) (t : Toy) (G : List Nat) : Prop where
  b : Blk W H 62 (toyC cv gv sv hv t)
  cs : Ow W 209 4 cv t.cells.length (flatC t.cells)
  gs : Ow W 30 1 gv t.globals.length (t.globals.map (Value.int .u64))
  ss : Ow W 3 1 sv t.spawned.length (t.spawned.map (Value.int .i64))
  hs : Ow W 30 1 hv t.handed.length (t.handed.map (Value.int .u64))
  inH : H ∈ G
  inC : ∀ b, cv.ownBlock = some b → b ∈ G
  inG : ∀ b, gv.ownBlock = some b → b ∈ G
  inS : ∀ b, sv.ownBlock = some b → b ∈ G
  inA : ∀ b, hv.ownBlock = some b → b ∈ G
  ghd : ∀ b, gv.ownBlock = some b → hv.ownBlock ≠ some b
  gl : ∀ b ∈ G, b < W.heap.size

theorem ToyAt.frame {F : List Nat} (h : ToyAt W H cv gv sv hv t G) (hs : Same F W W') (hG : ∀ b ∈ G, b ∉ F) : ToyAt W' H cv gv sv hv t G :=
  ⟨h.b.frame hs (hG _ h.inH), h.cs.frame hs (fun b hb => hG b (h.inC b hb)), h.gs.frame hs (fun b hb => hG b (h.inG b hb)), h.ss.frame hs (fun b hb => hG b (h.inS b hb)), h.hs.frame hs (fun b hb => hG b (h.inA b hb)),
    h.inH, h.inC, h.inG, h.inS, h.inA, h.ghd, fun b hb => Nat.lt_of_lt_of_le (h.gl b hb) hs.size⟩
theorem ToyAt.frame0 (h : ToyAt W H cv gv sv hv t G) (hs : Same [] W W') : ToyAt W' H cv gv sv hv t G := h.frame hs (by simp)

theorem ToyAt.ne {e s n : Nat} {v : Value} {xs : List Value} (h : ToyAt W H cv gv sv hv t G) (ho : Ow W e s v n xs) (hne : e ≠ 62) : ∀ b, v.ownBlock = some b → b ∉ [H] := fun b hb hm => ho.ne_blk h.b hne (by rw [← List.mem_singleton.1 hm]; exact hb)

/-- A number of the toy's own has turned. -/
theorem ToyAt.scal (h : ToyAt W H cv gv sv hv t G) (i : Nat) (v : Value) (hv' : (toyC cv gv sv hv t).set i v = toyC cv gv sv hv t') (e1 : t'.cells = t.cells) (e2 : t'.globals = t.globals) (e3 : t'.spawned = t.spawned) (e4 : t'.handed = t.handed) :
    ToyAt (W.setCell ⟨H, i, none⟩ v) H cv gv sv hv t' G := by
  have hs : Same [H] W (W.setCell ⟨H, i, none⟩ v) := (Same.refl _ _).setCell (by simp) v
  refine ⟨?_, ?_, ?_, ?_, ?_, h.inH, h.inC, h.inG, h.inS, h.inA, h.ghd, fun b hb => Nat.lt_of_lt_of_le (h.gl b hb) hs.size⟩
  · rw [← hv']; exact Blk.set h.b i v
  · rw [e1]; exact h.cs.frame hs (h.ne h.cs (by decide))
  · rw [e2]; exact h.gs.frame hs (h.ne h.gs (by decide))
  · rw [e3]; exact h.ss.frame hs (h.ne h.ss (by decide))
  · rw [e4]; exact h.hs.frame hs (h.ne h.hs (by decide))

/-- Other words are handed. -/
theorem ToyAt.hand (h : ToyAt W H cv gv sv hv t G) (v : Value) (xs : List Int) (hx : Ow W 30 1 v xs.length (xs.map (Value.int .u64))) (hd : ∀ b, gv.ownBlock = some b → v.ownBlock ≠ some b) :
    ToyAt (W.setCell ⟨H, 8, none⟩ v) H cv gv sv v { t with handed := xs } (v.ownBlock.toList ++ G) := by
  have hs : Same [H] W (W.setCell ⟨H, 8, none⟩ v) := (Same.refl _ _).setCell (by simp) v
  refine ⟨Blk.set h.b 8 v, h.cs.frame hs (h.ne h.cs (by decide)), h.gs.frame hs (h.ne h.gs (by decide)), h.ss.frame hs (h.ne h.ss (by decide)), hx.frame hs (h.ne hx (by decide)), List.mem_append_right _ h.inH, fun b hb => List.mem_append_right _ (h.inC b hb), fun b hb => List.mem_append_right _ (h.inG b hb), fun b hb => List.mem_append_right _ (h.inS b hb), fun b hb => List.mem_append_left _ (by simp [hb]), hd, fun b hb => ?_⟩
  rcases List.mem_append.1 hb with h1 | h1
  · exact Nat.lt_of_lt_of_le (hx.lt (by simpa using h1)) hs.size
  · exact Nat.lt_of_lt_of_le (h.gl b h1) hs.size

def Toy.ask (t : Toy) (xs : List Int) : Toy := { t with calls := t.calls + 1, handed := xs }

set_option maxHeartbeats 2000000 in
set_option maxRecDepth 100000 in
theorem asked_any (h : ToyAt w H cv gv sv hv t G) (v : Value) (xs : List Int) (hx : Ow w 30 1 v xs.length (xs.map (Value.int .u64))) (hd : ∀ b, gv.ownBlock = some b → v.ownBlock ≠ some b) (hc : 0 ≤ t.calls ∧ t.calls ≤ 1000000) :
    Calls Tryz.prog 145 #[.pointer (some ⟨H, 0, none⟩), v] w fun e w' => e = .returned (.tuple #[]) ∧ ToyAt w' H cv gv sv v (t.ask xs) (v.ownBlock.toList ++ G) ∧ Same G w w' := by
  obtain ⟨A, C, rfl⟩ := own_lit hx
  have c6 : w.cell? ⟨H, 6, none⟩ = some (.int .i64 t.calls) := h.b.cell 6
  have c8 : w.cell? ⟨H, 8, none⟩ = some hv := h.b.cell 8
  have tf := h.b.frozen
  have e1 : IntKind.i64.wrap (t.calls + 1) = t.calls + 1 := by rw [IntKind.wrap_i64]; omega
  have h1 := h.scal (t' := { t with calls := t.calls + 1 }) 6 (.int .i64 (t.calls + 1)) rfl rfl rfl rfl rfl
  have h2 := h1.hand (.slice A xs.length C) xs (hx.frame (F := [H]) ((Same.refl _ _).setCell (by simp) _) (h.ne hx (by decide))) hd
  have H2 := Lib.hid (And.intro h2 (((Same.refl G w).setCell (.inl h.inH) (p := ⟨H, 6, none⟩) (.int .i64 (t.calls + 1))).setCell (.inl h.inH) (p := ⟨H, 8, none⟩) (.slice A xs.length C)))
  clear h h1 h2 hx hd
  go_enter Tryz.func145, Tryz.ntmps145
  go_wp2_with fail
  go_end0
  exact ⟨rfl, H2.out.1, H2.out.2⟩

/-- The kind of a cell. -/
def Toy.has (t : Toy) (n : Int) : Bool := decide (t.off ≤ n ∧ n - t.off < t.cells.length)
def Toy.cel (t : Toy) (n : Int) : Cel := t.cells.getD (n - t.off).toNat ⟨0, 0, 0, 0⟩
def Toy.kindOf (t : Toy) (n : Int) : Int := if t.has n then (t.cel n).kind else 0

theorem cel_cell (h : ToyAt W H cv gv sv hv t G) (n : Int) (hn : t.has n = true) (r : Nat) (hr : r < 4) : ∃ g C, cv = .slice (some ⟨g, 0, none⟩) t.cells.length C ∧ g ∈ G ∧ g < W.heap.size ∧ W.cell? ⟨g, (n - t.off).toNat * 4 + r, none⟩ = (celC (t.cel n))[r]? ∧ W.frozen? ⟨g, (n - t.off).toNat * 4 + r, none⟩ = false := by
  unfold Toy.has at hn
  have hn := of_decide_eq_true hn
  have hk : (n - t.off).toNat < t.cells.length := by omega
  obtain ⟨g, C, rfl⟩ : ∃ g C, cv = .slice (some ⟨g, 0, none⟩) t.cells.length C := by
    rcases h.cs.2 with ⟨_, h0⟩ | ⟨g, cap, cur, e, _⟩
    · omega
    · exact ⟨g, cap, e⟩
  have hj : (n - t.off).toNat * 4 + r < t.cells.length * 4 := by omega
  obtain ⟨h1, h2⟩ := own_cell h.cs _ hj
  refine ⟨g, C, rfl, h.inC g rfl, h.cs.lt rfl, h1.trans ?_, h2⟩
  unfold flatC
  rw [flat_get celC 4 (fun _ => rfl) t.cells _ r hk hr]
  have e : t.cel n = t.cells[(n - t.off).toNat] := by
    unfold Toy.cel
    rw [List.getD_eq_getElem?_getD, List.getElem?_eq_getElem hk]
    rfl
  rw [e]
/-- In bounds. -/
structure Toy.Fine (t : Toy) : Prop where
  off : 0 ≤ t.off ∧ t.off ≤ 1000000
  calls : 0 ≤ t.calls ∧ t.calls ≤ 1000000
  kinds : 0 ≤ t.kinds ∧ t.kinds ≤ 1000000
  len : t.cells.length ≤ 1000000

set_option maxHeartbeats 2000000 in
set_option maxRecDepth 100000 in
theorem kind_any (h : ToyAt w H cv gv sv hv t G) (hf : t.Fine) (n : Int) (hn : -9000000000 ≤ n ∧ n ≤ 9000000000) :
    Calls Tryz.prog 138 #[.pointer (some ⟨H, 0, none⟩), .int .i64 n] w fun e w' => e = .returned (.int .u8 (t.kindOf n)) ∧ ToyAt w' H cv gv sv hv { t with kinds := t.kinds + 1 } G ∧ Same G w w' := by
  have hof := hf.off
  have hki := hf.kinds
  have hle := hf.len
  have c7 : w.cell? ⟨H, 7, none⟩ = some (.int .i64 t.kinds) := h.b.cell 7
  have c0 : w.cell? ⟨H, 0, none⟩ = some (.int .i64 t.off) := h.b.cell 0
  have tf := h.b.frozen
  have e1 : IntKind.i64.wrap (t.kinds + 1) = t.kinds + 1 := by rw [IntKind.wrap_i64]; omega
  have e2 : IntKind.i64.wrap (n - t.off) = n - t.off := by rw [IntKind.wrap_i64]; omega
  have h1 := h.scal (t' := { t with kinds := t.kinds + 1 }) 7 (.int .i64 (t.kinds + 1)) rfl rfl rfl rfl rfl
  have H1 := Lib.hid (And.intro h1 ((Same.refl G w).setCell (.inl h.inH) (p := ⟨H, 7, none⟩) (.int .i64 (t.kinds + 1))))
  cases hh : t.has n with
  | false =>
    have hko : t.kindOf n = 0 := by unfold Toy.kindOf; rw [hh]; rfl
    rw [hko]
    have hno : ¬ (t.off ≤ n ∧ n - t.off < t.cells.length) := of_decide_eq_false hh
    obtain ⟨A, C, rfl⟩ := own_lit h.cs
    obtain ⟨l, hl⟩ : ∃ l, l = t.cells.length := ⟨_, rfl⟩
    have c2 : w.cell? ⟨H, 2, none⟩ = some (.slice A l C) := by rw [hl]; exact h.b.cell 2
    rw [← hl] at hno hle
    clear h h1 hh hko hl hf
    by_cases hlo : n < t.off
    · have hd : decide (n < t.off) = true := decide_eq_true hlo
      go_enter Tryz.func138, Tryz.ntmps138
      go_wp2_with fail
      go_quiet (fail)
      go_wp2_with fail
      go_ret
      exact ⟨rfl, H1.out.1.frame0 ((Same.refl [] _).drewN _), H1.out.2.drewN _⟩
    · have hd : decide (n < t.off) = false := decide_eq_false hlo
      have hd2 : decide ((l : Int) ≤ n - t.off) = true := decide_eq_true (by omega)
      go_enter Tryz.func138, Tryz.ntmps138
      go_wp2_with fail
      go_quiet (fail)
      go_wp2_with fail
      go_ret
      exact ⟨rfl, H1.out.1.frame0 ((Same.refl [] _).drewN _), H1.out.2.drewN _⟩
  | true =>
    obtain ⟨g, C, rfl, hgG, hgz, k0, -⟩ := cel_cell h n hh 0 (by decide)
    have hin : t.off ≤ n ∧ n - t.off < t.cells.length := of_decide_eq_true hh
    have hko : t.kindOf n = (t.cel n).kind := by unfold Toy.kindOf; rw [hh]; rfl
    rw [hko]
    have hgH : g ≠ H := fun e => h.ne h.cs (by decide) g rfl (by rw [e]; simp)
    obtain ⟨l, hl⟩ : ∃ l, l = t.cells.length := ⟨_, rfl⟩
    have c2 : w.cell? ⟨H, 2, none⟩ = some (.slice (some ⟨g, 0, none⟩) l C) := by rw [hl]; exact h.b.cell 2
    rw [← hl] at hin hle
    obtain ⟨m, hm⟩ : ∃ m, m = (n - t.off).toNat := ⟨_, rfl⟩
    obtain ⟨kd, hkd⟩ : ∃ k, k = (t.cel n).kind := ⟨_, rfl⟩
    have k0' : w.cell? ⟨g, m * 4, none⟩ = some (.int .u8 kd) := by rw [hm, hkd]; exact k0
    have e3 : n - t.off = (m : Int) := by omega
    have hd : decide (n < t.off) = false := decide_eq_false (by omega)
    have hd2 : decide ((l : Int) ≤ (m : Int)) = false := decide_eq_false (by omega)
    have hml : (m : Int) < (l : Int) := by omega
    rw [e3] at e2
    have HE := Lib.hid hkd
    rw [← hkd]
    clear h h1 hh hko hl hf k0 hm hkd
    go_enter Tryz.func138, Tryz.ntmps138
    go_wp2_with fail
    go_quiet (fail)
    go_wp2_with fail
    go_quiet (fail)
    go_wp2_with fail
    go_ret
    exact ⟨rfl, H1.out.1.frame0 (((Same.refl [] _).drewN _).drewN _), (H1.out.2.drewN _).drewN _⟩

set_option maxHeartbeats 2000000 in
set_option maxRecDepth 100000 in
theorem toyCell_any (h : ToyAt w H cv gv sv hv t G) (_hof : 0 ≤ t.off ∧ t.off ≤ 1000000) (hle : t.cells.length ≤ 1000000) (n : Int) (hh : t.has n = true) :
    Calls Tryz.prog 146 #[.pointer (some ⟨H, 0, none⟩), .int .i64 n] w fun e w' => ∃ g C, cv = .slice (some ⟨g, 0, none⟩) t.cells.length C ∧ e = .returned (.pointer (some ⟨g, (n - t.off).toNat * 4, none⟩)) ∧ Same [] w w' := by
  have c0 : w.cell? ⟨H, 0, none⟩ = some (.int .i64 t.off) := h.b.cell 0
  obtain ⟨g, C, rfl, hgG, hgz, k0, -⟩ := cel_cell h n hh 0 (by decide)
  have hin : t.off ≤ n ∧ n - t.off < t.cells.length := of_decide_eq_true hh
  obtain ⟨l, hl⟩ : ∃ l, l = t.cells.length := ⟨_, rfl⟩
  have c2 : w.cell? ⟨H, 2, none⟩ = some (.slice (some ⟨g, 0, none⟩) l C) := by rw [hl]; exact h.b.cell 2
  rw [← hl] at hin hle ⊢
  obtain ⟨m, hm⟩ : ∃ m, m = (n - t.off).toNat := ⟨_, rfl⟩
  rw [← hm]
  have e2 : IntKind.i64.wrap (n - t.off) = n - t.off := by rw [IntKind.wrap_i64]; omega
  have e3 : n - t.off = (m : Int) := by omega
  have hd : decide (n < t.off) = false := decide_eq_false (by omega)
  have hd2 : decide ((l : Int) ≤ (m : Int)) = false := decide_eq_false (by omega)
  have hml : (m : Int) < (l : Int) := by omega
  rw [e3] at e2
  clear h hh hl k0 hm
  go_enter Tryz.func146, Tryz.ntmps146
  go_wp2_with fail
  go_quiet (fail)
  go_wp2_with fail
  go_quiet (fail)
  go_wp2_with fail
  go_ret
  exact ⟨g, C, rfl, rfl, ((Same.refl [] _).drewN _).drewN _⟩

theorem ToyAt.mono (h : ToyAt W H cv gv sv hv t G) (hG : ∀ b ∈ G, b ∈ G1) (hl : ∀ b ∈ G1, b < W.heap.size) : ToyAt W H cv gv sv hv t G1 :=
  ⟨h.b, h.cs, h.gs, h.ss, h.hs, hG _ h.inH, fun b hb => hG b (h.inC b hb), fun b hb => hG b (h.inG b hb), fun b hb => hG b (h.inS b hb), fun b hb => hG b (h.inA b hb), h.ghd, hl⟩

set_option maxHeartbeats 2000000 in
set_option maxRecDepth 100000 in
theorem load_any (h : ToyAt w H cv gv sv hv t G) (hf : t.Fine) (n : Int) (hh : t.has n = true) (f : Int) (hfi : f = 0 ∨ f = 1) :
    Calls Tryz.prog 139 #[.pointer (some ⟨H, 0, none⟩), .int .i64 n, .int .i64 f] w fun e w' => e = .returned (.int .u64 (if f = 1 then (t.cel n).b else (t.cel n).a)) ∧ ToyAt w' H cv gv sv (.slice none 0 0) (t.ask []) G ∧ Same G w w' := by
  have HA := Lib.hid (asked_any h (.slice none 0 0) [] (World.ownsRow_nil _ _ _ _) (fun b hb hm => by cases hm) hf.calls)
  have HF := Lib.hid hf
  obtain ⟨va, hva⟩ : ∃ v, v = (t.cel n).a := ⟨_, rfl⟩
  obtain ⟨vb, hvb⟩ : ∃ v, v = (t.cel n).b := ⟨_, rfl⟩
  rw [← hva, ← hvb]
  have HVA := Lib.hid (And.intro hva hvb)
  clear h hf hva hvb
  go_enter Tryz.func139, Tryz.ntmps139
  go_wp2_with fail
  refine HA.out.mono ?_
  rintro e w1 ⟨rfl, h1, hs1⟩
  have h1 : ToyAt w1 H cv gv sv (.slice none 0 0) (t.ask []) G := h1
  have H1 := Lib.hid h1
  have HS1 := Lib.hid hs1
  have HC := Lib.hid (toyCell_any (t := t.ask []) h1 HF.out.off HF.out.len n hh)
  clear h1 hs1 HA
  go_wp2_with fail
  refine HC.out.mono ?_
  rintro e w2 ⟨g, C, rfl, rfl, hs2⟩
  have h2 := H1.out.frame0 hs2
  have H2 := Lib.hid h2
  have HS2 := Lib.hid (HS1.out.trans' hs2 (by simp))
  obtain ⟨g2, C2, e1, -, hgz, ka, -⟩ := cel_cell (t := t.ask []) h2 n hh 2 (by decide)
  injection e1 with e1 _ e3
  injection e1 with e1
  injection e1 with e1 _ _
  subst e1 e3
  obtain ⟨g3, C3, e1, -, -, kb, -⟩ := cel_cell (t := t.ask []) h2 n hh 3 (by decide)
  injection e1 with e1 _ e3
  injection e1 with e1
  injection e1 with e1 _ _
  subst e1 e3
  have c9 : w2.cell? ⟨H, 9, none⟩ = some (.bool t.wrong) := h2.b.cell 9
  have tf := h2.b.frozen
  have hgH : g ≠ H := fun e => h2.ne h2.cs (by decide) g rfl (by rw [e]; simp)
  obtain ⟨m, hm⟩ : ∃ m, m = (n - t.off).toNat := ⟨_, rfl⟩
  have ka' : w2.cell? ⟨g, m * 4 + 2, none⟩ = some (.int .u64 va) := by rw [hm, HVA.out.1]; exact ka
  have kb' : w2.cell? ⟨g, m * 4 + 3, none⟩ = some (.int .u64 vb) := by rw [hm, HVA.out.2]; exact kb
  have h9 := h2.scal (t' := t.ask []) 9 (.bool t.wrong) rfl rfl rfl rfl rfl
  have H9 := Lib.hid h9
  have hme : ((t.ask []).off) = t.off := rfl
  rw [hme, ← hm]
  clear h2 h9 ka kb hs2 hm HC hme
  rcases hfi with rfl | rfl
  · cases hw : t.wrong
    · rw [hw] at c9 H9
      clear hw
      go_wp2_with fail
      go_ret
      exact ⟨rfl, H9.out, HS2.out.setCell (.inl (by have := H1.out.inH; simpa using this)) _⟩
    · rw [hw] at c9 H9
      clear hw
      go_wp2_with fail
      go_ret
      exact ⟨rfl, H9.out, HS2.out.setCell (.inl (by have := H1.out.inH; simpa using this)) _⟩
  · go_wp2_with fail
    go_ret
    exact ⟨rfl, H2.out, HS2.out⟩
end Vm
end Go.Proofs.YtkepcdbogeineaaGreatDoor
