/- A thread's small calls: frame, next, room, push, top, drop, value. -/
import Derived.Test.YtkepcdbogeineaaGreatDoorVmD
import Derived.Deep.RegionHeld3
import Derived.BigQuiet
import Derived.Deep.QuietTactic
namespace Go.Proofs.YtkepcdbogeineaaGreatDoor
open Go.RowKit Hp Ck
namespace Vm
variable {w w' W W' : World} {T M : Nat} {cv pv gv fv sv rv : Value} {kvs : List Value} {th th' : Th} {FC FT : List Nat}

theorem ReqR.frame {o : Option (Int × Int)} {G : List Nat} (h : ReqR W rv o) (hs : Same G W W') (hn : ∀ b, rv.ownBlock = some b → b ∉ G) : ReqR W' rv o := by
  cases o with
  | none => exact h
  | some p =>
    obtain ⟨g, C, e, ho⟩ := h
    exact ⟨g, C, e, ho.frame hs hn⟩
theorem ReqR.type {o : Option (Int × Int)} (h : ReqR W rv o) : ∃ n xs, Ow W 30 1 rv n xs := by
  cases o with
  | none => rw [show rv = .slice none 0 0 from h]; exact ⟨0, [], World.ownsRow_nil _ _ _ _⟩
  | some p =>
    obtain ⟨g, C, e, ho⟩ := h
    exact ⟨_, _, ho⟩

/-- The thread's cells. -/
def thC (M : Nat) (cv pv gv fv sv rv : Value) (th : Th) : List Value := [cv, pv, gv, .map (some M), fv, sv, .int .i64 th.phase, .int .u64 th.number, rv, .bool th.refused, .bool th.ended, .int .u64 th.word, .int .i64 th.err]

theorem ThAt.frame {G : List Nat} (h : ThAt W T M cv pv gv fv sv rv kvs th FC FT) (hs : Same G W W') (hC : ∀ b ∈ FC, b ∉ G) (hT : ∀ b ∈ FT, b ∉ G) : ThAt W' T M cv pv gv fv sv rv kvs th FC FT :=
  ⟨h.b.frame hs (hT _ h.inT), h.oc.frame hs hC, (hs.block M (h.cl _ h.inM) (hC _ h.inM)).trans h.tb, h.fr.frame hs (fun b hb => hT b (h.inF b hb)), h.st.frame hs (fun b hb => hT b (h.inS b hb)), h.rq.frame hs (fun b hb => hT b (h.inR b hb)),
    h.inM, h.inT, h.inF, h.inS, h.inR, h.srd, h.cfd, fun b hb => Nat.lt_of_lt_of_le (h.cl b hb) hs.size, fun b hb => Nat.lt_of_lt_of_le (h.tl b hb) hs.size⟩
theorem ThAt.frame0 (h : ThAt W T M cv pv gv fv sv rv kvs th FC FT) (hs : Same [] W W') : ThAt W' T M cv pv gv fv sv rv kvs th FC FT := h.frame hs (by simp) (by simp)

/-- The thread has turned. -/
theorem ThAt.upd {fv' sv' rv' : Value} {FT' : List Nat} (h : ThAt W T M cv pv gv fv sv rv kvs th FC FT) (hs : Same FT W W') (hb : Blk W' T 84 (thC M cv pv gv fv' sv' rv' th')) (hc : th'.c = th.c)
    (fr : Ow W' 81 4 fv' th'.fr.length (flatF th'.fr)) (st : Ow W' 30 1 sv' th'.st.length (th'.st.map (Value.int .u64))) (rq : ReqR W' rv' th'.req)
    (inT : T ∈ FT') (inF : ∀ b, fv'.ownBlock = some b → b ∈ FT') (inS : ∀ b, sv'.ownBlock = some b → b ∈ FT') (inR : ∀ b, rv'.ownBlock = some b → b ∈ FT') (srd : ∀ b, sv'.ownBlock = some b → rv'.ownBlock ≠ some b)
    (hT : ∀ b ∈ FT', b ∈ FT ∨ W.heap.size ≤ b) (tl : ∀ b ∈ FT', b < W'.heap.size) : ThAt W' T M cv pv gv fv' sv' rv' kvs th' FC FT' :=
  ⟨hb, hc ▸ h.oc.frame hs h.cfd, (hs.block M (h.cl _ h.inM) (h.cfd _ h.inM)).trans h.tb, fr, st, rq, h.inM, inT, inF, inS, inR, srd, fun b hb hm => by
    rcases hT b hm with h1 | h1
    · exact h.cfd b hb h1
    · have := h.cl b hb; omega, fun b hb => Nat.lt_of_lt_of_le (h.cl b hb) hs.size, tl⟩

theorem ThAt.fne (h : ThAt W T M cv pv gv fv sv rv kvs th FC FT) : ∀ b, fv.ownBlock = some b → b ∉ [T] := fun b hb hm => h.fr.ne_blk h.b (by decide) (by rw [← List.mem_singleton.1 hm]; exact hb)
theorem ThAt.sne (h : ThAt W T M cv pv gv fv sv rv kvs th FC FT) : ∀ b, sv.ownBlock = some b → b ∉ [T] := fun b hb hm => h.st.ne_blk h.b (by decide) (by rw [← List.mem_singleton.1 hm]; exact hb)
theorem ThAt.rne (h : ThAt W T M cv pv gv fv sv rv kvs th FC FT) : ∀ b, rv.ownBlock = some b → b ∉ [T] := fun b hb hm => by
  obtain ⟨n, xs, ho⟩ := h.rq.type
  exact ho.ne_blk h.b (by decide) (by rw [← List.mem_singleton.1 hm]; exact hb)

/-- A number of the thread's own has turned. -/
theorem ThAt.scal (h : ThAt W T M cv pv gv fv sv rv kvs th FC FT) (i : Nat) (v : Value) (hv : (thC M cv pv gv fv sv rv th).set i v = thC M cv pv gv fv sv rv th') (hc : th'.c = th.c) (hf : th'.fr = th.fr) (hst : th'.st = th.st) (hr : th'.req = th.req) :
    ThAt (W.setCell ⟨T, i, none⟩ v) T M cv pv gv fv sv rv kvs th' FC FT := by
  have hs : Same [T] W (W.setCell ⟨T, i, none⟩ v) := (Same.refl _ _).setCell (by simp) v
  have hs2 : Same FT W (W.setCell ⟨T, i, none⟩ v) := (Same.refl _ _).setCell (.inl h.inT) v
  refine h.upd hs2 ?_ hc ?_ ?_ ?_ h.inT h.inF h.inS h.inR h.srd (fun b hb => .inl hb) (fun b hb => Nat.lt_of_lt_of_le (h.tl b hb) hs.size)
  · rw [← hv]; exact Blk.set h.b i v
  · rw [hf]; exact h.fr.frame hs h.fne
  · rw [hst]; exact h.st.frame hs h.sne
  · rw [hr]; exact h.rq.frame hs h.rne

/-- What a call leaves of the thread. -/
def Gs (w : World) (T M : Nat) (cv pv gv : Value) (kvs : List Value) (th' : Th) (FC FT : List Nat) (w' : World) : Prop :=
  ∃ fv sv rv FT', ThAt w' T M cv pv gv fv sv rv kvs th' FC FT' ∧ Same FT w w' ∧ ∀ b ∈ FT', b ∈ FT ∨ w.heap.size ≤ b

set_option maxHeartbeats 2000000 in
set_option maxRecDepth 100000 in
theorem frame_any (h : ThAt w T M cv pv gv fv sv rv kvs th FC FT) (hn : th.fr ≠ []) : Calls Tryz.prog 79 #[.pointer (some ⟨T, 0, none⟩)] w fun e w' => ∃ g C, fv = .slice (some ⟨g, 0, none⟩) th.fr.length C ∧ e = .returned (.pointer (some ⟨g, (th.fr.length - 1) * 4, none⟩)) ∧ Same [] w w' := by
  have hl : 0 < th.fr.length := List.length_pos_iff.2 hn
  obtain ⟨g, C, rfl⟩ : ∃ g C, fv = .slice (some ⟨g, 0, none⟩) th.fr.length C := by
    rcases h.fr.2 with ⟨_, h0⟩ | ⟨g, cap, cur, e, _⟩
    · omega
    · exact ⟨g, cap, e⟩
  obtain ⟨n, hnn⟩ : ∃ n, n = th.fr.length := ⟨_, rfl⟩
  have c4 : w.cell? ⟨T, 4, none⟩ = some (.slice (some ⟨g, 0, none⟩) n C) := by rw [hnn]; exact h.b.cell 4
  rw [← hnn] at hl ⊢
  have e1 : IntKind.i64.wrap ((n : Int) - 1) = (n : Int) - 1 := by
    have : n ≤ C := by
      rcases h.fr.2 with ⟨_, h0⟩ | ⟨g', cap, cur, e, _, _, h1, _⟩
      · omega
      · injection e with _ _ e; omega
    have : C ≤ maxLen := by
      rcases h.fr.2 with ⟨e, h0⟩ | ⟨g', cap, cur, e, _, _, _, h2, _⟩
      · cases e
      · injection e with _ _ e; omega
    unfold maxLen at this
    rw [IntKind.wrap_i64]; omega
  have e2 : (0 : Int) ≤ (n : Int) - 1 := by omega
  have e3 : ((n : Int) - 1) < (n : Int) := by omega
  have e4 : ((n : Int) - 1).toNat = n - 1 := by omega
  clear h hnn hn
  go_enter Tryz.func79, Tryz.ntmps79
  go_wp2_with fail
  go_quiet (fail)
  go_wp2_with fail
  go_ret
  exact ⟨g, C, rfl, by simp, (Same.refl _ _).drewN _⟩
def Th.top (th : Th) : Fr := th.fr.getD (th.fr.length - 1) ⟨0, 0, 0, 0⟩
def Th.goto (th : Th) (a : Nat) : Th := { th with fr := th.fr.set (th.fr.length - 1) { th.top with at_ := a } }
def Th.next (th : Th) : Th := { th.goto (th.top.at_ + 1) with phase := 0 }

theorem own_cell {e size n g C : Nat} {xs : List Value} (h : Ow W e size (.slice (some ⟨g, 0, none⟩) n C) n xs) (j : Nat) (hj : j < n * size) : W.cell? ⟨g, j, none⟩ = xs[j]? ∧ W.frozen? ⟨g, j, none⟩ = false := by
  have hn : 0 < n := by
    rcases Nat.eq_zero_or_pos n with h | h
    · subst h; omega
    · exact h
  obtain ⟨g', off, cap, e, -, -, hc, hf⟩ := (Row.of_own h).at_ hn
  injection e with e _ _
  injection e with e
  injection e with e1 e2 _
  subst e1 e2
  have := hc j hj
  rw [Nat.zero_add] at this
  exact ⟨this, hf j⟩

variable {g C : Nat}
theorem hs_mono {G : List Nat} (h : Same [] W W') : Same G W W' := h.mono (by simp)
theorem frame_cell (h : Ow W 81 4 (.slice (some ⟨g, 0, none⟩) th.fr.length C) th.fr.length (flatF th.fr)) (hn : th.fr ≠ []) (r : Nat) (hr : r < 4) : W.cell? ⟨g, (th.fr.length - 1) * 4 + r, none⟩ = (frC th.top)[r]? ∧ W.frozen? ⟨g, (th.fr.length - 1) * 4 + r, none⟩ = false := by
  have hl : 0 < th.fr.length := List.length_pos_iff.2 hn
  have hj : (th.fr.length - 1) * 4 + r < th.fr.length * 4 := by omega
  obtain ⟨h1, h2⟩ := own_cell h ((th.fr.length - 1) * 4 + r) hj
  refine ⟨h1.trans ?_, h2⟩
  unfold flatF
  rw [flat_get frC 4 (fun _ => rfl) th.fr (th.fr.length - 1) r (by omega) hr]
  have e : th.top = th.fr[th.fr.length - 1] := by
    unfold Th.top
    rw [List.getD_eq_getElem?_getD, List.getElem?_eq_getElem (by omega)]
    rfl
  rw [e]
theorem goto_flat (th : Th) (hn : th.fr ≠ []) (a : Nat) : (flatF th.fr).set ((th.fr.length - 1) * 4 + 1) (.int .i64 a) = flatF (th.goto a).fr := by
  have hl : 0 < th.fr.length := List.length_pos_iff.2 hn
  unfold flatF Th.goto
  refine flat_set frC 4 (fun _ => rfl) _ 1 _ (by decide) th.fr (th.fr.length - 1) (by omega) ?_
  have e : th.top = th.fr[th.fr.length - 1] := by
    unfold Th.top
    rw [List.getD_eq_getElem?_getD, List.getElem?_eq_getElem (by omega)]
    rfl
  rw [e]
  rfl

set_option maxHeartbeats 2000000 in
set_option maxRecDepth 100000 in
theorem next_any (h : ThAt w T M cv pv gv fv sv rv kvs th FC FT) (hn : th.fr ≠ []) (ha : th.top.at_ ≤ 1000000) : Calls Tryz.prog 69 #[.pointer (some ⟨T, 0, none⟩)] w fun e w' => e = .returned (.tuple #[]) ∧ Gs w T M cv pv gv kvs th.next FC FT w' := by
  have c6 : w.cell? ⟨T, 6, none⟩ = some (.int .i64 th.phase) := h.b.cell 6
  have cf := h.b.frozen
  have h1 := h.scal (th' := { th with phase := 0 }) 6 (.int .i64 0) rfl rfl rfl rfl rfl
  have H := Lib.hid h
  have H1 := Lib.hid h1
  have HF := Lib.hid (frame_any h1 hn)
  clear h h1
  go_enter Tryz.func69, Tryz.ntmps69
  go_wp2_with fail
  refine HF.out.mono ?_
  rintro e w1 ⟨g, C, hfv, rfl, hs1⟩
  subst hfv
  have H2 := Lib.hid (H1.out.frame0 hs1)
  obtain ⟨k1, k2⟩ := frame_cell (th := th) H2.out.fr hn 1 (by decide)
  obtain ⟨n, hnn⟩ : ∃ n, n = (th.fr.length - 1) * 4 + 1 := ⟨_, rfl⟩
  simp only [frC, List.getElem?_cons_succ, List.getElem?_cons_zero] at k1
  have e1 : IntKind.i64.wrap ((th.top.at_ : Int) + 1) = (th.top.at_ : Int) + 1 := by rw [IntKind.wrap_i64]; omega
  have HS1 := Lib.hid hs1
  have HN := Lib.hid hnn
  clear hs1 hnn
  go_wp2_with fail
  go_end0
  have hg : g ∈ FT := H.out.inF g rfl
  have hst : Same FT w ((w.setCell ⟨T, 6, none⟩ (.int .i64 0))) := (Same.refl _ _).setCell (.inl H.out.inT) _
  have hS : Same [g] w1 (w1.setCell ⟨g, (th.fr.length - 1) * 4 + 1, none⟩ (.int .i64 ((th.top.at_ : Int) + 1))) := (Same.refl _ _).setCell (by simp) _
  have hS2 : Same FT w1 (w1.setCell ⟨g, (th.fr.length - 1) * 4 + 1, none⟩ (.int .i64 ((th.top.at_ : Int) + 1))) := (Same.refl _ _).setCell (.inl hg) _
  have hgt : g ≠ T := fun e => H.out.fne g rfl (by rw [e]; simp)
  refine ⟨rfl, .slice (some ⟨g, 0, none⟩) th.fr.length C, sv, rv, FT, H2.out.upd (th' := th.next) hS2 ?_ rfl ?_ ?_ ?_ H.out.inT ?_ H.out.inS H.out.inR H.out.srd (fun b hb => .inl hb) (fun b hb => Nat.lt_of_lt_of_le (H2.out.tl b hb) hS.size), hst.trans ((hs_mono HS1.out).trans hS2), fun b hb => .inl hb⟩
  · exact H2.out.b.setOther (fun e => hgt e.symm) _
  · have h3 := own_set H2.out.fr ((th.fr.length - 1) * 4 + 1) (by have := List.length_pos_iff.2 hn; show (th.fr.length - 1) * 4 + 1 < th.fr.length * 4; omega) (.int .i64 ((th.top.at_ : Int) + 1))
    have h4 := goto_flat th hn (th.top.at_ + 1)
    have h5 : (th.next).fr.length = th.fr.length := by simp [Th.next, Th.goto]
    rw [h5]
    have h6 : flatF th.next.fr = (flatF th.fr).set ((th.fr.length - 1) * 4 + 1) (.int .i64 ((th.top.at_ : Int) + 1)) := by rw [show th.next.fr = (th.goto (th.top.at_ + 1)).fr from rfl, ← h4]; rfl
    rw [h6]
    exact h3
  · exact H2.out.st.frame hS (fun b hb hm => H2.out.st.ne H2.out.fr (by decide) hb (by rw [List.mem_singleton.1 hm]; rfl))
  · refine H2.out.rq.frame hS (fun b hb hm => ?_)
    obtain ⟨m, xs, ho⟩ := H2.out.rq.type
    exact ho.ne H2.out.fr (by decide) hb (by rw [List.mem_singleton.1 hm]; rfl)
  · intro b hb; exact H.out.inF b hb
end Vm
end Go.Proofs.YtkepcdbogeineaaGreatDoor
