/- Layer 8: an instruction more in the last procedure; code in its box. -/
import Derived.Test.YticaipedpcmhfaaGreatDoorCkQ1
import Derived.Test.YticaipedpcmhfaaGreatDoorCd
namespace Go.Proofs.YticaipedpcmhfaaGreatDoor
open Go.RowKit Hp
namespace Ck
variable {w w' : World}

theorem addI_modify : ∀ (l : List Cd.Pr) (x : Cd.In), Cd.addI l x = l.modify (l.length - 1) (fun p => ⟨p.params, p.code ++ [x]⟩)
  | [], x => rfl
  | [p], x => rfl
  | p :: q :: l, x => by
    have := addI_modify (q :: l) x
    rw [Cd.addI, this]
    simp

theorem addI_get (l : List Cd.Pr) (x : Cd.In) (q : Nat) (hq : l.length = q + 1) (i : Nat) (hi : i < l.length) : (Cd.addI l x).getD i ⟨0, []⟩ = if i = q then ⟨(l.getD q ⟨0, []⟩).params, (l.getD q ⟨0, []⟩).code ++ [x]⟩ else l.getD i ⟨0, []⟩ := by
  rw [addI_modify, hq, Nat.add_sub_cancel, List.getD, List.getElem?_modify]
  by_cases h : i = q
  · subst h
    rw [if_pos rfl, List.getElem?_eq_getElem hi, List.getD, List.getElem?_eq_getElem hi]
    simp
  · rw [if_neg h, List.getD]
    have h' : ¬ q = i := fun e => h e.symm
    simp only [if_neg h']
    simp
theorem addI_len (l : List Cd.Pr) (x : Cd.In) : (Cd.addI l x).length = l.length := by rw [addI_modify]; simp

section
variable {cv gv v2 : Value} {kvs : List Value} {c : Cd.Co} {F : List Nat} {g C q : Nat}

theorem getD_put {α : Type} (l : List α) (i j : Nat) (x d : α) (h : i < l.length) : (l.set i x).getD j d = if j = i then x else l.getD j d := Cd.getD_set l i j x d h

theorem OCo.addInstr (h : OCo w cv (.slice (some ⟨g, 0, none⟩) (q + 1) C) gv kvs c F) (hq : c.procs.length = q + 1) (x : Cd.In) (ha : App w w' (kvs.getD q undef) v2)
    (hr : Ow w' 82 2 v2 ((c.procs.getD q ⟨0, []⟩).code.length + 1) (flatI (c.procs.getD q ⟨0, []⟩).code ++ [.int .u8 x.op, .int .i64 x.a])) :
    OCo (w'.setCell ⟨g, q * 2 + 1, none⟩ v2) cv (.slice (some ⟨g, 0, none⟩) (q + 1) C) gv (kvs.set q v2) { c with procs := Cd.addI c.procs x } (v2.ownBlock.toList ++ F) := by
  have hkl := h.kl
  have hkq := h.kr q (by omega)
  have hpg : (Value.slice (some ⟨g, 0, none⟩) (q + 1) C).ownBlock = some g := rfl
  have hcr' := h.cr.frame ha.same (fun b hb hm => h.cr.ne hkq (by decide) hb (by simpa using hm))
  have hgr' := h.gr.frame ha.same (fun b hb hm => h.gr.ne hkq (by decide) hb (by simpa using hm))
  have hpr' := h.pr.frame ha.same (fun b hb hm => h.pr.ne hkq (by decide) hb (by simpa using hm))
  have hst : ∀ {e s n v xs}, Ow w' e s v n xs → e ≠ 68 → Ow (w'.setCell ⟨g, q * 2 + 1, none⟩ v2) e s v n xs := fun ho hne => ho.frame (F := [g]) ((Same.refl _ _).setCell (by simp) _) (fun b hb hm => by
    simp at hm; subst hm; exact ho.ne hpr' hne hb hpg)
  refine ⟨hst hcr' (by decide), hst hgr' (by decide), ?_, by simp [addI_len, hkl], fun i hi => ?_, fun i j b hi hj hb hb' => ?_, fun b hb => ?_, fun b hb => ?_, fun b hb => ?_, fun i b hi hb => ?_⟩
  · have h1 := World.ownsRow.stored (hq ▸ hpr') (q * 2 + 1) v2
    dsimp only
    rw [addI_len, hq]
    have e : flatP (Cd.addI c.procs x) (kvs.set q v2) = (flatP c.procs kvs).set (q * 2 + 1) v2 := by
      rw [flatP_set c.procs kvs q v2 hkl (by omega), addI_modify, flatP_code (fun p => ⟨p.params, p.code ++ [x]⟩) (fun p => rfl)]
    rw [e]
    exact h1.1
  · dsimp only at hi ⊢
    rw [addI_len] at hi
    rw [getD_put _ _ _ _ _ (by rw [hkl]; omega), addI_get c.procs x q hq i hi]
    by_cases hiq : i = q
    · rw [if_pos hiq, if_pos hiq]
      refine hst ?_ (by decide)
      have e : flatI ((c.procs.getD q ⟨0, []⟩).code ++ [x]) = flatI (c.procs.getD q ⟨0, []⟩).code ++ [.int .u8 x.op, .int .i64 x.a] := by simp [flatI]
      dsimp only
      rw [e, List.length_append, List.length_singleton]
      exact hr
    · rw [if_neg hiq, if_neg hiq]
      exact hst ((h.kr i hi).frame ha.same (fun b hb hm => hiq (h.kd i q b hi (by omega) hb (by simpa using hm)))) (by decide)
  · dsimp only at hi hj
    rw [addI_len] at hi hj
    have hl : q < kvs.length := by rw [hkl]; omega
    rw [getD_put _ _ _ _ _ hl] at hb hb'
    by_cases hiq : i = q
    · by_cases hjq : j = q
      · omega
      · rw [if_pos hiq] at hb
        rw [if_neg hjq] at hb'
        rcases ha.blk b hb with h1 | h1
        · exact absurd (h.kd j q b hj (by omega) hb' h1) hjq
        · have := (h.kr j hj).lt hb'; omega
    · by_cases hjq : j = q
      · rw [if_neg hiq] at hb
        rw [if_pos hjq] at hb'
        rcases ha.blk b hb' with h1 | h1
        · exact absurd (h.kd i q b hi (by omega) hb h1) hiq
        · have := (h.kr i hi).lt hb; omega
      · rw [if_neg hiq] at hb
        rw [if_neg hjq] at hb'
        exact h.kd i j b hi hj hb hb'
  · exact List.mem_append_right _ (h.cf b hb)
  · exact List.mem_append_right _ (h.gf b hb)
  · exact List.mem_append_right _ (h.pf b hb)
  · dsimp only at hi
    rw [addI_len] at hi
    rw [getD_put _ _ _ _ _ (by rw [hkl]; omega)] at hb
    by_cases hiq : i = q
    · rw [if_pos hiq] at hb; simp [hb]
    · rw [if_neg hiq] at hb; exact List.mem_append_right _ (h.kf i b hi hb)
end

/-- Code in its box. -/
structure OC (w : World) (cb : Nat) (cv pv gv : Value) (kvs : List Value) (c : Cd.Co) (F : List Nat) : Prop where
  box : Blk w cb 26 [cv, pv, gv]
  own : OCo w cv pv gv kvs c F
  mem : cb ∈ F
  lt : ∀ b ∈ F, b < w.heap.size

theorem OCo.box_ne {cv pv gv : Value} {kvs : List Value} {c : Cd.Co} {F : List Nat} {cb : Nat} (h : OCo w cv pv gv kvs c F) (hb : Blk w cb 26 [cv, pv, gv]) :
    cv.ownBlock ≠ some cb ∧ gv.ownBlock ≠ some cb ∧ pv.ownBlock ≠ some cb ∧ ∀ i, i < c.procs.length → (kvs.getD i undef).ownBlock ≠ some cb :=
  ⟨h.cr.ne_blk hb (by decide), h.gr.ne_blk hb (by decide), h.pr.ne_blk hb (by decide), fun i hi => (h.kr i hi).ne_blk hb (by decide)⟩

/-- A store into the box leaves the lists alone. -/
theorem OCo.setBox {cv pv gv : Value} {kvs : List Value} {c : Cd.Co} {F : List Nat} {cb i : Nat} {cs : List Value} (h : OCo w cv pv gv kvs c F) (hb : Blk w cb 26 cs) (v : Value) : OCo (w.setCell ⟨cb, i, none⟩ v) cv pv gv kvs c F := by
  have hs : Same [cb] w (w.setCell ⟨cb, i, none⟩ v) := (Same.refl _ _).setCell (by simp) _
  have key : ∀ {e s n v xs}, Ow w e s v n xs → e ≠ 26 → ∀ b, v.ownBlock = some b → b ∉ [cb] := fun ho hne b hb' hm => by
    simp at hm; subst hm; exact ho.ne_blk hb hne hb'
  exact ⟨h.cr.frame hs (key h.cr (by decide)), h.gr.frame hs (key h.gr (by decide)), h.pr.frame hs (key h.pr (by decide)), h.kl, fun i hi => (h.kr i hi).frame hs (key (h.kr i hi) (by decide)), h.kd, h.cf, h.gf, h.pf, h.kf⟩
end Ck
end Go.Proofs.YticaipedpcmhfaaGreatDoor
