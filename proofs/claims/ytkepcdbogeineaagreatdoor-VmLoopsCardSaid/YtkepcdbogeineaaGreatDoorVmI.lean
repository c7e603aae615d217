/- A thread and the toy side by side; what a call leaves of them; a walk's boxes. -/
import Derived.Test.YtkepcdbogeineaaGreatDoorVmH
namespace Go.Proofs.YtkepcdbogeineaaGreatDoor
open Go.RowKit Hp Ck
namespace Vm
variable {w w' w1 W W' : World} {T M H : Nat} {cv pv gv fv sv rv cc gc sc hc : Value} {kvs : List Value} {th th' : Th} {FC FT G FT1 G1 : List Nat} {t t' : Toy}

/-- Both in memory, apart. -/
structure VT (W : World) (T M : Nat) (cv pv gv : Value) (kvs : List Value) (H : Nat) (th : Th) (t : Toy) (FC FT G : List Nat) : Prop where
  th : ∃ fv sv rv, ThAt W T M cv pv gv fv sv rv kvs th FC FT
  toy : ∃ cc gc sc hc, ToyAt W H cc gc sc hc t G
  dT : ∀ b ∈ G, b ∉ FT
  dC : ∀ b ∈ FC, b ∉ G

/-- What a call leaves of both. -/
def VG (w : World) (T M : Nat) (cv pv gv : Value) (kvs : List Value) (H : Nat) (th' : Th) (t' : Toy) (FC FT G : List Nat) (w' : World) : Prop :=
  ∃ FT' G', VT w' T M cv pv gv kvs H th' t' FC FT' G' ∧ Same (FT ++ G) w w' ∧ ∀ b, b ∈ FT' ∨ b ∈ G' → b ∈ FT ∨ b ∈ G ∨ w.heap.size ≤ b

theorem VT.frame0 (h : VT W T M cv pv gv kvs H th t FC FT G) (hs : Same [] W W') : VT W' T M cv pv gv kvs H th t FC FT G := by
  obtain ⟨fv, sv, rv, h1⟩ := h.th
  obtain ⟨cc, gc, sc, hc, h2⟩ := h.toy
  exact ⟨⟨fv, sv, rv, h1.frame0 hs⟩, ⟨cc, gc, sc, hc, h2.frame0 hs⟩, h.dT, h.dC⟩
theorem VG.refl (h : VT w T M cv pv gv kvs H th t FC FT G) (hs : Same [] w w') : VG w T M cv pv gv kvs H th t FC FT G w' :=
  ⟨FT, G, h.frame0 hs, hs.mono (by simp), fun b hb => by rcases hb with h | h; exact .inl h; exact .inr (.inl h)⟩
theorem VG.trans {w1 w2 : World} (h1 : Same (FT ++ G) w w1) (h2 : ∀ b, b ∈ FT1 ∨ b ∈ G1 → b ∈ FT ∨ b ∈ G ∨ w.heap.size ≤ b) (h : VG w1 T M cv pv gv kvs H th' t' FC FT1 G1 w2) : VG w T M cv pv gv kvs H th' t' FC FT G w2 := by
  obtain ⟨F2, G2, h3, h4, h5⟩ := h
  refine ⟨F2, G2, h3, h1.trans' h4 (fun x hx => ?_), fun b hb => ?_⟩
  · have := h2 x (by simpa using hx)
    rcases this with h | h | h
    · exact .inl (by simp [h])
    · exact .inl (by simp [h])
    · exact .inr h
  · rcases h5 b hb with h | h | h
    · exact h2 b (.inl h)
    · exact h2 b (.inr h)
    · exact .inr (.inr (Nat.le_trans h1.size h))

/-- The thread alone has turned. -/
theorem VG.ofT (h : VT w T M cv pv gv kvs H th t FC FT G) (hg : Gs w T M cv pv gv kvs th' FC FT w') : VG w T M cv pv gv kvs H th' t FC FT G w' := by
  obtain ⟨cc, gc, sc, hc, h2⟩ := h.toy
  obtain ⟨fv, sv, rv, F2, h3, h4, h5⟩ := hg
  refine ⟨F2, G, ⟨⟨fv, sv, rv, h3⟩, ⟨cc, gc, sc, hc, h2.frame h4 h.dT⟩, fun b hb hm => ?_, h.dC⟩, h4.mono (fun x hx => .inl (by simp [hx])), fun b hb => ?_⟩
  · rcases h5 b hm with h6 | h6
    · exact h.dT b hb h6
    · have := h2.gl b hb; omega
  · rcases hb with h6 | h6
    · rcases h5 b h6 with h7 | h7
      · exact .inl h7
      · exact .inr (.inr h7)
    · exact .inr (.inl h6)
/-- The toy alone has turned. -/
theorem VG.ofH (h : VT w T M cv pv gv kvs H th t FC FT G) (h1 : ToyAt w' H cc gc sc hc t' G1) (hs : Same G w w') (hG : ∀ b ∈ G1, b ∈ G ∨ w.heap.size ≤ b) : VG w T M cv pv gv kvs H th t' FC FT G w' := by
  obtain ⟨fv, sv, rv, h2⟩ := h.th
  refine ⟨FT, G1, ⟨⟨fv, sv, rv, h2.frame hs h.dC (fun b hb hm => h.dT b hm hb)⟩, ⟨cc, gc, sc, hc, h1⟩, fun b hb hm => ?_, fun b hb hm => ?_⟩, hs.mono (fun x hx => .inl (by simp [hx])), fun b hb => ?_⟩
  · rcases hG b hb with h6 | h6
    · exact h.dT b h6 hm
    · have := h2.tl b hm; omega
  · rcases hG b hm with h6 | h6
    · exact h.dC b hb h6
    · have := h2.cl b hb; omega
  · rcases hb with h6 | h6
    · exact .inl h6
    · rcases hG b h6 with h7 | h7
      · exact .inr (.inl h7)
      · exact .inr (.inr h7)

theorem VT.frameF {F : List Nat} (h : VT W T M cv pv gv kvs H th t FC FT G) (hs : Same F W W') (h1 : ∀ b ∈ FC, b ∉ F) (h2 : ∀ b ∈ FT, b ∉ F) (h3 : ∀ b ∈ G, b ∉ F) : VT W' T M cv pv gv kvs H th t FC FT G := by
  obtain ⟨fv, sv, rv, q1⟩ := h.th
  obtain ⟨cc, gc, sc, hc, q2⟩ := h.toy
  exact ⟨⟨fv, sv, rv, q1.frame hs h1 h2⟩, ⟨cc, gc, sc, hc, q2.frame hs h3⟩, h.dT, h.dC⟩

/-- What stays the same all along. -/
structure Kx where
  T : Nat
  M : Nat
  cv : Value
  pv : Value
  gv : Value
  kvs : List Value
  H : Nat
  FC : List Nat

/-- Both in memory, behind the tables. -/
structure Sit (k : Kx) (W : World) (th : Th) (t : Toy) (FT G : List Nat) : Prop where
  vt : VT W k.T k.M k.cv k.pv k.gv k.kvs k.H th t k.FC FT G
  vars : Vars W
  low : ∀ b, b ∈ FT ∨ b ∈ G → 2 ≤ b

/-- A list of numbers that a call has made. -/
def Sh (w w' : World) (l : List Int) (v : Value) (FT G : List Nat) : Prop :=
  (∃ A C, v = .slice A l.length C) ∧ Ow w' 3 1 v l.length (l.map (Value.int .i64)) ∧ ∀ b, v.ownBlock = some b → w.heap.size ≤ b ∧ b ∉ FT ∧ b ∉ G

/-- What a call leaves of both, and a list. -/
def Lf (k : Kx) (w : World) (FT G : List Nat) (th' : Th) (t' : Toy) (l : List Int) (v : Value) (w' : World) : Prop :=
  ∃ FT' G', Sit k w' th' t' FT' G' ∧ Same (FT ++ G) w w' ∧ (∀ b, b ∈ FT' ∨ b ∈ G' → b ∈ FT ∨ b ∈ G ∨ w.heap.size ≤ b) ∧ Sh w w' l v FT' G'

theorem Sh.none (w w' : World) : Sh w w' [] (.slice none 0 0) FT G := ⟨⟨_, _, rfl⟩, World.ownsRow_nil _ _ _ _, fun b hb => by cases hb⟩

variable {k : Kx} {v : Value} {l : List Int}

theorem Sit.step (h : Sit k w th t FT G) {FT' G' : List Nat} (h1 : VT w' k.T k.M k.cv k.pv k.gv k.kvs k.H th' t' k.FC FT' G') (hs : Same (FT ++ G) w w') (hn : ∀ b, b ∈ FT' ∨ b ∈ G' → b ∈ FT ∨ b ∈ G ∨ w.heap.size ≤ b) : Sit k w' th' t' FT' G' :=
  ⟨h1, h.vars.frame hs (fun b hb => h.low b (by simpa using hb)), fun b hb => by
    rcases hn b hb with h2 | h2 | h2
    · exact h.low b (.inl h2)
    · exact h.low b (.inr h2)
    · exact Nat.le_trans h.vars.size h2⟩
theorem Sit.vg (h : Sit k w th t FT G) (hg : VG w k.T k.M k.cv k.pv k.gv k.kvs k.H th' t' k.FC FT G w') : Lf k w FT G th' t' [] (.slice none 0 0) w' := by
  obtain ⟨FT', G', h1, h2, h3⟩ := hg
  exact ⟨FT', G', h.step h1 h2 h3, h2, h3, Sh.none _ _⟩
theorem Lf.vg (h : Lf k w FT G th' t' l v w') : VG w k.T k.M k.cv k.pv k.gv k.kvs k.H th' t' k.FC FT G w' := by
  obtain ⟨FT', G', h1, h2, h3, -⟩ := h
  exact ⟨FT', G', h1.vt, h2, h3⟩
theorem Sit.frame0 (h : Sit k w th t FT G) (hs : Same [] w w') : Sit k w' th t FT G := ⟨h.vt.frame0 hs, h.vars.frame hs (by simp), h.low⟩
theorem Sit.lt (h : Sit k w th t FT G) : (∀ b ∈ k.FC, b < w.heap.size) ∧ ∀ b, b ∈ FT ∨ b ∈ G → b < w.heap.size := by
  obtain ⟨fv, sv, rv, h1⟩ := h.vt.th
  obtain ⟨cc, gc, sc, hc, h2⟩ := h.vt.toy
  refine ⟨h1.cl, fun b hb => ?_⟩
  rcases hb with hb | hb
  · exact h1.tl b hb
  · exact h2.gl b hb

def zeros : List Value := [.int .i64 0, .int .u8 0, .int .i64 0, .int .i64 0, .int .u64 0, .int .u64 0, .slice none 0 0, .int .i64 0, .bool false, .int .i64 0]

/-- In the midst of a walk: the boxes of events that it has made. -/
structure VB (k : Kx) (w0 W : World) (th : Th) (t : Toy) (FT0 G0 FT G : List Nat) (l : List Int) (v : Value) (bs : List (Nat × Nat × List Value)) : Prop where
  sit : Sit k W th t FT G
  sm : Same (FT0 ++ G0) w0 W
  sub : ∀ b, b ∈ FT ∨ b ∈ G → b ∈ FT0 ∨ b ∈ G0 ∨ w0.heap.size ≤ b
  sh : Sh w0 W l v FT G
  bx : ∀ p ∈ bs, Blk W p.1 p.2.1 p.2.2 ∧ w0.heap.size ≤ p.1 ∧ p.1 ∉ FT ∧ p.1 ∉ G ∧ p.2.1 ≠ 3
  c0 : ∀ b ∈ k.FC, b < w0.heap.size
  f0 : ∀ b, b ∈ FT0 ∨ b ∈ G0 → b < w0.heap.size
  v0 : 2 ≤ w0.heap.size

variable {w0 : World} {FT0 G0 : List Nat} {bs : List (Nat × Nat × List Value)}

theorem VB.open_ (h : Sit k w th t FT G) : VB k w w th t FT G FT G [] (.slice none 0 0) [] :=
  ⟨h, Same.refl _ _, fun b hb => by rcases hb with h | h; exact .inl h; exact .inr (.inl h), Sh.none _ _, by simp, h.lt.1, h.lt.2, h.vars.size⟩
theorem VB.same (h : VB k w0 W th t FT0 G0 FT G l v bs) (hs : Same [] W W') : VB k w0 W' th t FT0 G0 FT G l v bs :=
  ⟨h.sit.frame0 hs, h.sm.trans (hs.mono (by simp)), h.sub, ⟨h.sh.1, h.sh.2.1.frame hs (by simp), h.sh.2.2⟩, fun p hp => ⟨(h.bx p hp).1.frame hs (by simp), (h.bx p hp).2⟩, h.c0, h.f0, h.v0⟩
theorem VB.boxT (h : VB k w0 W th t FT0 G0 FT G l v bs) (ty : Nat) (cs : List Value) (hty : ty ≠ 3) (e : W' = W.alloc (.cells cs.toArray ty)) : VB k w0 W' th t FT0 G0 FT G l v ((W.heap.size, ty, cs) :: bs) := by
  have hs : Same [] W W' := by rw [e]; exact (Same.refl _ _).alloc _
  have h2 := h.same hs
  refine ⟨h2.sit, h2.sm, h2.sub, h2.sh, fun p hp => ?_, h2.c0, h2.f0, h2.v0⟩
  rcases List.mem_cons.1 hp with h3 | h3
  · subst h3
    refine ⟨by rw [e]; exact Blk.new W _ _, h.sm.size, fun hm => ?_, fun hm => ?_, hty⟩
    · have := h.sit.lt.2 _ (.inl hm); simp at this
    · have := h.sit.lt.2 _ (.inr hm); simp at this
  · exact h2.bx p h3
theorem VB.box (h : VB k w0 W th t FT0 G0 FT G l v bs) (cs : List Value) (e : W' = W.alloc (.cells cs.toArray 44)) : VB k w0 W' th t FT0 G0 FT G l v ((W.heap.size, 44, cs) :: bs) := h.boxT _ cs (by decide) e
theorem VB.callv (h : VB k w0 W th t FT0 G0 FT G l v bs) (hg : VG W k.T k.M k.cv k.pv k.gv k.kvs k.H th' t' k.FC FT G W') : ∃ FT' G', VB k w0 W' th' t' FT0 G0 FT' G' l v bs := by
  obtain ⟨FT', G', h1, h2, h3⟩ := hg
  refine ⟨FT', G', h.sit.step h1 h2 h3, h.sm.trans' h2 (fun x hx => ?_), fun b hb => ?_, ⟨h.sh.1, h.sh.2.1.frame h2 (fun b hb hm => ?_), fun b hb => ⟨(h.sh.2.2 b hb).1, fun hm => ?_, fun hm => ?_⟩⟩, fun p hp => ⟨(h.bx p hp).1.frame h2 (fun hm => ?_), (h.bx p hp).2.1, fun hm => ?_, fun hm => ?_, (h.bx p hp).2.2.2.2⟩, h.c0, h.f0, h.v0⟩
  · rcases h.sub x (by simpa using hx) with h4 | h4 | h4
    · exact .inl (by simp [h4])
    · exact .inl (by simp [h4])
    · exact .inr h4
  · rcases h3 b hb with h4 | h4 | h4
    · exact h.sub b (.inl h4)
    · exact h.sub b (.inr h4)
    · exact .inr (.inr (Nat.le_trans h.sm.size h4))
  · rcases List.mem_append.1 hm with h4 | h4
    · exact (h.sh.2.2 b hb).2.1 h4
    · exact (h.sh.2.2 b hb).2.2 h4
  · rcases h3 b (.inl hm) with h4 | h4 | h4
    · exact (h.sh.2.2 b hb).2.1 h4
    · exact (h.sh.2.2 b hb).2.2 h4
    · have := h.sh.2.1.lt hb; omega
  · rcases h3 b (.inr hm) with h4 | h4 | h4
    · exact (h.sh.2.2 b hb).2.1 h4
    · exact (h.sh.2.2 b hb).2.2 h4
    · have := h.sh.2.1.lt hb; omega
  · rcases List.mem_append.1 hm with h4 | h4
    · exact (h.bx p hp).2.2.1 h4
    · exact (h.bx p hp).2.2.2.1 h4
  · rcases h3 _ (.inl hm) with h4 | h4 | h4
    · exact (h.bx p hp).2.2.1 h4
    · exact (h.bx p hp).2.2.2.1 h4
    · have := (h.bx p hp).1.lt; omega
  · rcases h3 _ (.inr hm) with h4 | h4 | h4
    · exact (h.bx p hp).2.2.1 h4
    · exact (h.bx p hp).2.2.2.1 h4
    · have := (h.bx p hp).1.lt; omega
/-- Behind a call. -/
theorem VB.call {l0 : List Int} {v0 : Value} (h : VB k w0 W th t FT0 G0 FT G l0 v0 bs) (hg : Lf k W FT G th' t' l v W') : ∃ FT' G', VB k w0 W' th' t' FT0 G0 FT' G' l v bs := by
  obtain ⟨FT', G', h1, h2, h3, h4⟩ := hg
  have hb : ∀ p ∈ bs, p.1 ∉ FT' ∧ p.1 ∉ G' ∧ p.1 ∉ FT ++ G := fun p hp => by
    have h9 := (h.bx p hp).1.lt
    refine ⟨fun hm => ?_, fun hm => ?_, fun hm => ?_⟩
    · rcases h3 _ (.inl hm) with h4 | h4 | h4
      · exact (h.bx p hp).2.2.1 h4
      · exact (h.bx p hp).2.2.2.1 h4
      · omega
    · rcases h3 _ (.inr hm) with h4 | h4 | h4
      · exact (h.bx p hp).2.2.1 h4
      · exact (h.bx p hp).2.2.2.1 h4
      · omega
    · rcases List.mem_append.1 hm with h4 | h4
      · exact (h.bx p hp).2.2.1 h4
      · exact (h.bx p hp).2.2.2.1 h4
  refine ⟨FT', G', h1, h.sm.trans' h2 (fun x hx => ?_), fun b hb => ?_, ⟨h4.1, h4.2.1, fun b hb => ⟨Nat.le_trans h.sm.size (h4.2.2 b hb).1, (h4.2.2 b hb).2⟩⟩, fun p hp => ⟨(h.bx p hp).1.frame h2 (hb p hp).2.2, (h.bx p hp).2.1, (hb p hp).1, (hb p hp).2.1, (h.bx p hp).2.2.2.2⟩, h.c0, h.f0, h.v0⟩
  · rcases h.sub x (by simpa using hx) with h4 | h4 | h4
    · exact .inl (by simp [h4])
    · exact .inl (by simp [h4])
    · exact .inr h4
  · rcases h3 b hb with h4 | h4 | h4
    · exact h.sub b (.inl h4)
    · exact h.sub b (.inr h4)
    · exact .inr (.inr (Nat.le_trans h.sm.size h4))
theorem VB.callT (h : VB k w0 W th t FT0 G0 FT G l v bs) (hg : Gs W k.T k.M k.cv k.pv k.gv k.kvs th' k.FC FT W') : ∃ FT' G', VB k w0 W' th' t FT0 G0 FT' G' l v bs := h.callv (VG.ofT h.sit.vt hg)
/-- Boxes are written. -/
theorem VB.write {F : List Nat} (h : VB k w0 W th t FT0 G0 FT G l v bs) (hs : Same F W W') (hF : ∀ b ∈ F, b ∈ bs.map Prod.fst) : VB k w0 W' th t FT0 G0 FT G l v [] := by
  have hk : ∀ b ∈ F, w0.heap.size ≤ b ∧ b ∉ FT ∧ b ∉ G ∧ v.ownBlock ≠ some b := fun b hb => by
    obtain ⟨p, hp, e⟩ := List.mem_map.1 (hF b hb)
    subst e
    exact ⟨(h.bx p hp).2.1, (h.bx p hp).2.2.1, (h.bx p hp).2.2.2.1, h.sh.2.1.ne_blk (h.bx p hp).1 (fun e => (h.bx p hp).2.2.2.2 e.symm)⟩
  refine ⟨⟨h.sit.vt.frameF hs (fun b hb hm => ?_) (fun b hb hm => (hk b hm).2.1 hb) (fun b hb hm => (hk b hm).2.2.1 hb), h.sit.vars.frame hs (fun b hb => ?_), h.sit.low⟩, h.sm.trans' hs (fun x hx => .inr (hk x hx).1), h.sub, ⟨h.sh.1, h.sh.2.1.frame hs (fun b hb hm => (hk b hm).2.2.2 hb), h.sh.2.2⟩, by simp, h.c0, h.f0, h.v0⟩
  · have := h.c0 b hb; have := (hk b hm).1; omega
  · obtain ⟨p, hp, e⟩ := List.mem_map.1 (hF b hb)
    subst e
    exact Nat.le_trans h.v0 (h.bx p hp).2.1
theorem VB.lf (h : VB k w0 W th t FT0 G0 FT G l v bs) : Lf k w0 FT0 G0 th t l v W := ⟨FT, G, h.sit, h.sm, h.sub, h.sh⟩
/-- The end of a walk: the first box holds what is handed back. -/
theorem VB.fin {R : Nat} {cs : Nat × List Value} (h : VB k w0 W th t FT0 G0 FT G l v bs) (hR : (R, cs) ∈ bs) (hs : Same [R] W W') : Lf k w0 FT0 G0 th t l v W' := (h.write hs (fun b hb => by rw [List.mem_singleton.1 hb]; exact List.mem_map_of_mem (f := Prod.fst) hR)).lf
/-- What a box holds. -/
theorem VB.get {R : Nat} {a0 a1 a2 a3 a4 a5 a6 a7 a8 a9 : Value} (h : VB k w0 W th t FT0 G0 FT G l v bs) {ty : Nat} (hR : (R, ty, [a0, a1, a2, a3, a4, a5, a6, a7, a8, a9]) ∈ bs) :
    W.cell? ⟨R, 0, none⟩ = some a0 ∧ W.cell? ⟨R, 1, none⟩ = some a1 ∧ W.cell? ⟨R, 2, none⟩ = some a2 ∧ W.cell? ⟨R, 3, none⟩ = some a3 ∧ W.cell? ⟨R, 4, none⟩ = some a4 ∧ W.cell? ⟨R, 5, none⟩ = some a5 ∧ W.cell? ⟨R, 6, none⟩ = some a6 ∧ W.cell? ⟨R, 7, none⟩ = some a7 ∧ W.cell? ⟨R, 8, none⟩ = some a8 ∧ W.cell? ⟨R, 9, none⟩ = some a9 ∧ R < W.heap.size ∧ ∀ j, W.frozen? ⟨R, j, none⟩ = false := by
  have hb := (h.bx _ hR).1
  exact ⟨hb.cell 0, hb.cell 1, hb.cell 2, hb.cell 3, hb.cell 4, hb.cell 5, hb.cell 6, hb.cell 7, hb.cell 8, hb.cell 9, hb.lt, hb.frozen⟩
theorem Lf.form (h : Lf k w FT G th' t' l v w') : ∃ A C, v = .slice A l.length C := by
  obtain ⟨F2, G2, -, -, -, h1, -⟩ := h
  exact h1
theorem VB.less {bs' : List (Nat × Nat × List Value)} (h : VB k w0 W th t FT0 G0 FT G l v bs) (hs : ∀ p ∈ bs', p ∈ bs) : VB k w0 W th t FT0 G0 FT G l v bs' :=
  ⟨h.sit, h.sm, h.sub, h.sh, fun p hp => h.bx p (hs p hp), h.c0, h.f0, h.v0⟩
/-- A box is written whole. -/
theorem VB.laid {R ty : Nat} {cs cs' : List Value} (h : VB k w0 W th t FT0 G0 FT G l v ((R, ty, cs) :: bs)) (hs : Same [R] W W') (hb : Blk W' R ty cs') (hn : ∀ p ∈ bs, p.1 ≠ R) : VB k w0 W' th t FT0 G0 FT G l v ((R, ty, cs') :: bs) := by
  have h0 := h.write hs (fun b hb => by rw [List.mem_singleton.1 hb]; simp)
  refine ⟨h0.sit, h0.sm, h0.sub, h0.sh, fun p hp => ?_, h.c0, h.f0, h.v0⟩
  rcases List.mem_cons.1 hp with e | hp
  · subst e
    exact ⟨hb, (h.bx _ (List.Mem.head _)).2⟩
  · have h1 := h.bx p (List.mem_cons_of_mem _ hp)
    exact ⟨h1.1.frame hs (by simpa using hn p hp), h1.2⟩
end Vm
end Go.Proofs.YtkepcdbogeineaaGreatDoor
