/- Layer 8: code that the call itself makes: its lists are its own, apart from one another. -/
import Derived.Test.YticaipedpcmhfaaGreatDoorCkV
import Derived.Test.YticaipedpcmhfaaGreatDoorCkT1
import Derived.Test.YticaipedpcmhfaaGreatDoorCd
namespace Go.Proofs.YticaipedpcmhfaaGreatDoor
open Go.RowKit Hp
namespace Ck
variable {w w' : World}

/-- An own row, wherever it lies. -/
abbrev Ow (w : World) (e : TypeId) (size : Nat) (v : Value) (n : Nat) (xs : List Value) : Prop := w.ownsRow 0 e size v n xs

theorem Ow.kind {e size n : Nat} {v : Value} {xs : List Value} (h : Ow w e size v n xs) {b : Nat} (hb : v.ownBlock = some b) : ∃ cur, w.heap[b]? = some (.cells cur e (0, 0)) := by
  rcases h.2 with ⟨rfl, _⟩ | ⟨g, cap, cur, rfl, _, hc, _⟩
  · cases hb
  · cases hb; exact ⟨cur, hc⟩
theorem Ow.lt {e size n : Nat} {v : Value} {xs : List Value} (h : Ow w e size v n xs) {b : Nat} (hb : v.ownBlock = some b) : b < w.heap.size := by
  obtain ⟨cur, hc⟩ := h.kind hb
  exact (Array.getElem?_eq_some_iff.1 hc).1
theorem Ow.frame {e size n : Nat} {v : Value} {xs : List Value} {F : List Nat} (h : Ow w e size v n xs) (hs : Same F w w') (hn : ∀ b, v.ownBlock = some b → b ∉ F) : Ow w' e size v n xs := by
  refine ⟨h.1, ?_⟩
  rcases h.2 with h0 | ⟨g, cap, cur, rfl, hg, hc, r⟩
  · exact .inl h0
  · exact .inr ⟨g, cap, cur, rfl, hg, (hs.block g (Array.getElem?_eq_some_iff.1 hc).1 (hn g rfl)).trans hc, r⟩
theorem Ow.ne {e e' s s' n n' : Nat} {v v' : Value} {xs xs' : List Value} (h : Ow w e s v n xs) (h' : Ow w e' s' v' n' xs') (hne : e ≠ e') {b : Nat} (hb : v.ownBlock = some b) : v'.ownBlock ≠ some b := fun hb' => by
  obtain ⟨c1, h1⟩ := h.kind hb
  obtain ⟨c2, h2⟩ := h'.kind hb'
  rw [h1] at h2
  injection h2 with h2
  injection h2 with _ h2 _
  exact hne h2
theorem Ow.ne_blk {e t s n k : Nat} {v : Value} {xs cs : List Value} (h : Ow w e s v n xs) (h' : Blk w k t cs) (hne : e ≠ t) : v.ownBlock ≠ some k := fun hb => by
  obtain ⟨c1, h1⟩ := h.kind hb
  unfold Blk at h'
  rw [h1] at h'
  injection h' with h'
  injection h' with _ h' _
  exact hne h'
theorem Ow.lit {e s n : Nat} {v : Value} {xs : List Value} (h : Ow w e s v n xs) : ∃ A C, v = .slice A n C := by
  rcases h.2 with ⟨rfl, rfl⟩ | ⟨g, cap, cur, rfl, _⟩
  · exact ⟨none, 0, rfl⟩
  · exact ⟨_, cap, rfl⟩
theorem Ow.sq {e s n : Nat} {v : Value} {xs : List Value} {f : Nat → Nat → Value} (h : Ow w e s v n xs) (hf : ∀ i j, i < n → j < s → xs[i * s + j]? = some (f i j)) : Sq w v n s f := by
  have hl := h.1
  rcases h.2 with ⟨rfl, rfl⟩ | ⟨g, cap, cur, rfl, _, hc, hn, hm, hz, ht⟩
  · exact ⟨none, 0, rfl, Nat.le_refl _, Nat.zero_le _, fun h => by omega⟩
  · refine ⟨_, cap, rfl, hn, hm, fun _ => ⟨g, 0, rfl, (Array.getElem?_eq_some_iff.1 hc).1, fun i j hi hj => ?_⟩⟩
    have hlt : i * s + j < n * s := by
      have : (i + 1) * s ≤ n * s := Nat.mul_le_mul_right _ hi
      rw [Nat.add_mul] at this; omega
    rw [cell_of_row w g _ cur e (0, 0) hc, ← hf i j hi hj, ← ht, List.getElem?_take_of_lt hlt]
    simp

def flatI (l : List Cd.In) : List Value := l.flatMap (fun i => [.int .u8 i.op, .int .i64 i.a])
def flatP : List Cd.Pr → List Value → List Value
  | p :: l, k :: ks => .int .i64 p.params :: k :: flatP l ks
  | _, _ => []
theorem flatI_len (l : List Cd.In) : (flatI l).length = l.length * 2 := flat_length _ 2 (fun _ => rfl) l
theorem flatI_at (l : List Cd.In) (i j : Nat) (hi : i < l.length) (hj : j < 2) : (flatI l)[i * 2 + j]? = some (fI l i j) := by
  rw [flatI, flat_get _ 2 (fun _ => rfl) l i j hi hj, fI, List.getD, List.getElem?_eq_getElem hi]
  match j, hj with
  | 0, _ => rfl
  | 1, _ => rfl
theorem flatP_len : ∀ (l : List Cd.Pr) (ks : List Value), ks.length = l.length → (flatP l ks).length = l.length * 2
  | [], [], _ => rfl
  | p :: l, k :: ks, h => by
    have := flatP_len l ks (by simpa using h)
    simp only [flatP, List.length_cons, this]; omega
theorem flatP_at : ∀ (l : List Cd.Pr) (ks : List Value) (i j : Nat), ks.length = l.length → i < l.length → j < 2 → (flatP l ks)[i * 2 + j]? = some (fP l (fun i => ks.getD i undef) i j)
  | p :: l, k :: ks, 0, j, _, _, hj => by
    match j, hj with
    | 0, _ => rfl
    | 1, _ => rfl
  | p :: l, k :: ks, i + 1, j, h, hi, hj => by
    have := flatP_at l ks i j (by simpa using h) (by simpa using hi) hj
    simp only [flatP]
    rw [show (i + 1) * 2 + j = (i * 2 + j) + 1 + 1 by omega, List.getElem?_cons_succ, List.getElem?_cons_succ, this]
    simp [fP]
theorem flatP_snoc : ∀ (l : List Cd.Pr) (ks : List Value) (p : Cd.Pr) (k : Value), ks.length = l.length → flatP l ks ++ [.int .i64 p.params, k] = flatP (l ++ [p]) (ks ++ [k])
  | [], [], _, _, _ => rfl
  | q :: l, c :: ks, p, k, h => by
    have := flatP_snoc l ks p k (by simpa using h)
    simp only [flatP, List.cons_append, this]
theorem flatP_code (f : Cd.Pr → Cd.Pr) (hf : ∀ p, (f p).params = p.params) : ∀ (l : List Cd.Pr) (ks : List Value) (i : Nat), flatP (l.modify i f) ks = flatP l ks
  | [], ks, i => by simp [flatP]
  | p :: l, [], i => by cases i <;> simp [flatP, List.modify_cons]
  | p :: l, k :: ks, 0 => by simp [flatP, hf]
  | p :: l, k :: ks, i + 1 => by
    have := flatP_code f hf l ks i
    simp [flatP, this]
theorem flatP_set : ∀ (l : List Cd.Pr) (ks : List Value) (i : Nat) (v : Value), ks.length = l.length → i < l.length → (flatP l ks).set (i * 2 + 1) v = flatP l (ks.set i v)
  | p :: l, k :: ks, 0, v, _, _ => rfl
  | p :: l, k :: ks, i + 1, v, h, hi => by
    have := flatP_set l ks i v (by simpa using h) (by simpa using hi)
    simp only [flatP]
    rw [show (i + 1) * 2 + 1 = (i * 2 + 1) + 1 + 1 by omega, List.set_cons_succ, List.set_cons_succ, this]
    rfl

/-- Code of the call's own: its lists' values, their blocks among F. -/
structure OCo (w : World) (cv pv gv : Value) (kvs : List Value) (c : Cd.Co) (F : List Nat) : Prop where
  cr : Ow w 74 1 cv c.consts.length (c.consts.map (Value.int .u64))
  gr : Ow w 9 1 gv c.globals.length (c.globals.map Value.string)
  pr : Ow w 68 2 pv c.procs.length (flatP c.procs kvs)
  kl : kvs.length = c.procs.length
  kr : ∀ i, i < c.procs.length → Ow w 82 2 (kvs.getD i undef) (c.procs.getD i ⟨0, []⟩).code.length (flatI (c.procs.getD i ⟨0, []⟩).code)
  kd : ∀ i j b, i < c.procs.length → j < c.procs.length → (kvs.getD i undef).ownBlock = some b → (kvs.getD j undef).ownBlock = some b → i = j
  cf : ∀ b, cv.ownBlock = some b → b ∈ F
  gf : ∀ b, gv.ownBlock = some b → b ∈ F
  pf : ∀ b, pv.ownBlock = some b → b ∈ F
  kf : ∀ i b, i < c.procs.length → (kvs.getD i undef).ownBlock = some b → b ∈ F

theorem OCo.frame {cv pv gv : Value} {kvs : List Value} {c : Cd.Co} {F G : List Nat} (h : OCo w cv pv gv kvs c F) (hs : Same G w w') (hd : ∀ b ∈ F, b ∉ G) : OCo w' cv pv gv kvs c F :=
  ⟨h.cr.frame hs (fun b hb => hd b (h.cf b hb)), h.gr.frame hs (fun b hb => hd b (h.gf b hb)), h.pr.frame hs (fun b hb => hd b (h.pf b hb)), h.kl,
    fun i hi => (h.kr i hi).frame hs (fun b hb => hd b (h.kf i b hi hb)), h.kd, h.cf, h.gf, h.pf, h.kf⟩
theorem OCo.mono {cv pv gv : Value} {kvs : List Value} {c : Cd.Co} {F G : List Nat} (h : OCo w cv pv gv kvs c F) (hd : ∀ b ∈ F, b ∈ G) : OCo w cv pv gv kvs c G :=
  ⟨h.cr, h.gr, h.pr, h.kl, h.kr, h.kd, fun b hb => hd b (h.cf b hb), fun b hb => hd b (h.gf b hb), fun b hb => hd b (h.pf b hb), fun i b hi hb => hd b (h.kf i b hi hb)⟩

/-- It may be read. -/
theorem OCo.read {cv pv gv : Value} {kvs : List Value} {c : Cd.Co} {F : List Nat} (h : OCo w cv pv gv kvs c F) : RCoAt w cv pv gv c := by
  refine ⟨h.cr.sq (fun i j hi hj => ?_), ⟨fun i => kvs.getD i undef, h.pr.sq (fun i j hi hj => flatP_at _ _ i j h.kl hi hj), fun i hi => (h.kr i hi).sq (fun a b ha hb => flatI_at _ a b ha hb)⟩, h.gr.sq (fun i j hi hj => ?_)⟩
  · obtain rfl : j = 0 := by omega
    rw [Nat.mul_one, Nat.add_zero, List.getElem?_map, List.getElem?_eq_getElem hi, fW, List.getD, List.getElem?_eq_getElem hi]; rfl
  · obtain rfl : j = 0 := by omega
    rw [Nat.mul_one, Nat.add_zero, List.getElem?_map, List.getElem?_eq_getElem hi, fS, List.getD, List.getElem?_eq_getElem hi]; rfl

theorem OCo.empty (w : World) : OCo w (.slice none 0 0) (.slice none 0 0) (.slice none 0 0) [] Cd.none_ [] :=
  ⟨World.ownsRow_nil _ _ _ _, World.ownsRow_nil _ _ _ _, World.ownsRow_nil _ _ _ _, rfl, fun i hi => (nomatch hi), fun i j b hi => (nomatch hi), fun b hb => (by cases hb), fun b hb => (by cases hb), fun b hb => (by cases hb), fun i b hi => (nomatch hi)⟩

/-- Where appended to: what an append leaves. -/
structure App (w w2 : World) (v v2 : Value) : Prop where
  same : Same v.ownBlock.toList w w2
  blk : ∀ b, v2.ownBlock = some b → v.ownBlock = some b ∨ w.heap.size ≤ b

section
variable {cv pv gv v2 : Value} {kvs : List Value} {c : Cd.Co} {F : List Nat}

theorem OCo.blt (h : OCo w cv pv gv kvs c F) : ∀ b, cv.ownBlock = some b ∨ gv.ownBlock = some b ∨ pv.ownBlock = some b → b < w.heap.size := fun b hb => by
  rcases hb with hb | hb | hb
  · exact h.cr.lt hb
  · exact h.gr.lt hb
  · exact h.pr.lt hb

/-- A constant more. -/
theorem OCo.addConst (h : OCo w cv pv gv kvs c F) (x : Int) (ha : App w w' cv v2) (hr : Ow w' 74 1 v2 (c.consts.length + 1) (c.consts.map (Value.int .u64) ++ [.int .u64 x])) :
    OCo w' v2 pv gv kvs { c with consts := c.consts ++ [x] } (v2.ownBlock.toList ++ F) := by
  refine ⟨by simpa using hr, h.gr.frame ha.same (fun b hb hm => ?_), h.pr.frame ha.same (fun b hb hm => ?_), h.kl, fun i hi => (h.kr i hi).frame ha.same (fun b hb hm => ?_), h.kd, fun b hb => ?_, fun b hb => ?_, fun b hb => ?_, fun i b hi hb => ?_⟩
  · exact h.gr.ne h.cr (by decide) hb (by simpa using hm)
  · exact h.pr.ne h.cr (by decide) hb (by simpa using hm)
  · exact (h.kr i hi).ne h.cr (by decide) hb (by simpa using hm)
  · simp [hb]
  · exact List.mem_append_right _ (h.gf b hb)
  · exact List.mem_append_right _ (h.pf b hb)
  · exact List.mem_append_right _ (h.kf i b hi hb)

/-- A global more. -/
theorem OCo.addGlobal (h : OCo w cv pv gv kvs c F) (x : ByteArray) (ha : App w w' gv v2) (hr : Ow w' 9 1 v2 (c.globals.length + 1) (c.globals.map Value.string ++ [.string x])) :
    OCo w' cv pv v2 kvs { c with globals := c.globals ++ [x] } (v2.ownBlock.toList ++ F) := by
  refine ⟨h.cr.frame ha.same (fun b hb hm => ?_), by simpa using hr, h.pr.frame ha.same (fun b hb hm => ?_), h.kl, fun i hi => (h.kr i hi).frame ha.same (fun b hb hm => ?_), h.kd, fun b hb => ?_, fun b hb => ?_, fun b hb => ?_, fun i b hi hb => ?_⟩
  · exact h.cr.ne h.gr (by decide) hb (by simpa using hm)
  · exact h.pr.ne h.gr (by decide) hb (by simpa using hm)
  · exact (h.kr i hi).ne h.gr (by decide) hb (by simpa using hm)
  · exact List.mem_append_right _ (h.cf b hb)
  · simp [hb]
  · exact List.mem_append_right _ (h.pf b hb)
  · exact List.mem_append_right _ (h.kf i b hi hb)

theorem getD_snoc {α : Type} (l : List α) (x d : α) (i : Nat) : (l ++ [x]).getD i d = if i < l.length then l.getD i d else if i = l.length then x else d := by
  rcases Nat.lt_trichotomy i l.length with h | h | h
  · rw [if_pos h, List.getD, List.getElem?_append_left h]; rfl
  · rw [if_neg (by omega), if_pos h, h, List.getD, List.getElem?_append_right (Nat.le_refl _)]; simp
  · rw [if_neg (by omega), if_neg (by omega), List.getD, List.getElem?_eq_none (by simp; omega)]; rfl

/-- A procedure more, with its list of instructions kv. -/
theorem OCo.addProc (h : OCo w cv pv gv kvs c F) (p : Cd.Pr) (kv : Value) (ha : App w w' pv v2) (hr : Ow w' 68 2 v2 (c.procs.length + 1) (flatP c.procs kvs ++ [.int .i64 p.params, kv]))
    (hk : Ow w' 82 2 kv p.code.length (flatI p.code)) (hkn : ∀ b, kv.ownBlock = some b → b ∉ F) :
    OCo w' cv v2 gv (kvs ++ [kv]) { c with procs := c.procs ++ [p] } (kv.ownBlock.toList ++ (v2.ownBlock.toList ++ F)) := by
  have hkl := h.kl
  refine ⟨h.cr.frame ha.same (fun b hb hm => ?_), h.gr.frame ha.same (fun b hb hm => ?_), ?_, by simp [hkl], fun i hi => ?_, fun i j b hi hj hb hb' => ?_, fun b hb => ?_, fun b hb => ?_, fun b hb => ?_, fun i b hi hb => ?_⟩
  · exact h.cr.ne h.pr (by decide) hb (by simpa using hm)
  · exact h.gr.ne h.pr (by decide) hb (by simpa using hm)
  · rw [flatP_snoc _ _ _ _ hkl] at hr
    simpa using hr
  · simp only [List.length_append, List.length_singleton] at hi
    dsimp only
    rw [getD_snoc, getD_snoc, hkl]
    by_cases hil : i < c.procs.length
    · rw [if_pos hil, if_pos hil]
      exact (h.kr i hil).frame ha.same (fun b hb hm => (h.kr i hil).ne h.pr (by decide) hb (by simpa using hm))
    · rw [if_neg hil, if_neg hil, if_pos (by omega), if_pos (by omega)]
      exact hk
  · simp only [List.length_append, List.length_singleton] at hi hj
    rw [getD_snoc, hkl] at hb hb'
    by_cases hil : i < c.procs.length
    · rw [if_pos hil] at hb
      by_cases hjl : j < c.procs.length
      · rw [if_pos hjl] at hb'
        exact h.kd i j b hil hjl hb hb'
      · rw [if_neg hjl, if_pos (by omega)] at hb'
        exact absurd (h.kf i b hil hb) (hkn b hb')
    · rw [if_neg hil, if_pos (by omega)] at hb
      by_cases hjl : j < c.procs.length
      · rw [if_pos hjl] at hb'
        exact absurd (h.kf j b hjl hb') (hkn b hb)
      · omega
  · exact List.mem_append_right _ (List.mem_append_right _ (h.cf b hb))
  · exact List.mem_append_right _ (List.mem_append_right _ (h.gf b hb))
  · simp [hb]
  · simp only [List.length_append, List.length_singleton] at hi
    rw [getD_snoc, hkl] at hb
    by_cases hil : i < c.procs.length
    · rw [if_pos hil] at hb
      exact List.mem_append_right _ (List.mem_append_right _ (h.kf i b hil hb))
    · rw [if_neg hil, if_pos (by omega)] at hb
      simp [hb]
end
end Ck
end Go.Proofs.YticaipedpcmhfaaGreatDoor
/- Layer 8: an instruction more in the last procedure; code in its box. -/
namespace Go.Proofs.YticaipedpcmhfaaGreatDoor
open Go.RowKit Hp
namespace Ck
variable {w w' : World}

theorem addI_modify : ∀ (l : List Cd.Pr) (x : Cd.In), Cd.addI l x = l.modify (l.length - 1) (fun p => ⟨p.params, p.code ++ [x]⟩)
  | [], x => rfl
  | [p], x => rfl
  | p :: q :: l, x => by
    have := addI_modify (q :: l) x
    rw [Cd.addI, this]
    simp

theorem addI_get (l : List Cd.Pr) (x : Cd.In) (q : Nat) (hq : l.length = q + 1) (i : Nat) (hi : i < l.length) : (Cd.addI l x).getD i ⟨0, []⟩ = if i = q then ⟨(l.getD q ⟨0, []⟩).params, (l.getD q ⟨0, []⟩).code ++ [x]⟩ else l.getD i ⟨0, []⟩ := by
  rw [addI_modify, hq, Nat.add_sub_cancel, List.getD, List.getElem?_modify]
  by_cases h : i = q
  · subst h
    rw [if_pos rfl, List.getElem?_eq_getElem hi, List.getD, List.getElem?_eq_getElem hi]
    simp
  · rw [if_neg h, List.getD]
    have h' : ¬ q = i := fun e => h e.symm
    simp only [if_neg h']
    simp
theorem addI_len (l : List Cd.Pr) (x : Cd.In) : (Cd.addI l x).length = l.length := by rw [addI_modify]; simp

section
variable {cv gv v2 : Value} {kvs : List Value} {c : Cd.Co} {F : List Nat} {g C q : Nat}

theorem getD_put {α : Type} (l : List α) (i j : Nat) (x d : α) (h : i < l.length) : (l.set i x).getD j d = if j = i then x else l.getD j d := Cd.getD_set l i j x d h

theorem OCo.addInstr (h : OCo w cv (.slice (some ⟨g, 0, none⟩) (q + 1) C) gv kvs c F) (hq : c.procs.length = q + 1) (x : Cd.In) (ha : App w w' (kvs.getD q undef) v2)
    (hr : Ow w' 82 2 v2 ((c.procs.getD q ⟨0, []⟩).code.length + 1) (flatI (c.procs.getD q ⟨0, []⟩).code ++ [.int .u8 x.op, .int .i64 x.a])) :
    OCo (w'.setCell ⟨g, q * 2 + 1, none⟩ v2) cv (.slice (some ⟨g, 0, none⟩) (q + 1) C) gv (kvs.set q v2) { c with procs := Cd.addI c.procs x } (v2.ownBlock.toList ++ F) := by
  have hkl := h.kl
  have hkq := h.kr q (by omega)
  have hpg : (Value.slice (some ⟨g, 0, none⟩) (q + 1) C).ownBlock = some g := rfl
  have hcr' := h.cr.frame ha.same (fun b hb hm => h.cr.ne hkq (by decide) hb (by simpa using hm))
  have hgr' := h.gr.frame ha.same (fun b hb hm => h.gr.ne hkq (by decide) hb (by simpa using hm))
  have hpr' := h.pr.frame ha.same (fun b hb hm => h.pr.ne hkq (by decide) hb (by simpa using hm))
  have hst : ∀ {e s n v xs}, Ow w' e s v n xs → e ≠ 68 → Ow (w'.setCell ⟨g, q * 2 + 1, none⟩ v2) e s v n xs := fun ho hne => ho.frame (F := [g]) ((Same.refl _ _).setCell (by simp) _) (fun b hb hm => by
    simp at hm; subst hm; exact ho.ne hpr' hne hb hpg)
  refine ⟨hst hcr' (by decide), hst hgr' (by decide), ?_, by simp [addI_len, hkl], fun i hi => ?_, fun i j b hi hj hb hb' => ?_, fun b hb => ?_, fun b hb => ?_, fun b hb => ?_, fun i b hi hb => ?_⟩
  · have h1 := World.ownsRow.stored (hq ▸ hpr') (q * 2 + 1) v2
    dsimp only
    rw [addI_len, hq]
    have e : flatP (Cd.addI c.procs x) (kvs.set q v2) = (flatP c.procs kvs).set (q * 2 + 1) v2 := by
      rw [flatP_set c.procs kvs q v2 hkl (by omega), addI_modify, flatP_code (fun p => ⟨p.params, p.code ++ [x]⟩) (fun p => rfl)]
    rw [e]
    exact h1.1
  · dsimp only at hi ⊢
    rw [addI_len] at hi
    rw [getD_put _ _ _ _ _ (by rw [hkl]; omega), addI_get c.procs x q hq i hi]
    by_cases hiq : i = q
    · rw [if_pos hiq, if_pos hiq]
      refine hst ?_ (by decide)
      have e : flatI ((c.procs.getD q ⟨0, []⟩).code ++ [x]) = flatI (c.procs.getD q ⟨0, []⟩).code ++ [.int .u8 x.op, .int .i64 x.a] := by simp [flatI]
      dsimp only
      rw [e, List.length_append, List.length_singleton]
      exact hr
    · rw [if_neg hiq, if_neg hiq]
      exact hst ((h.kr i hi).frame ha.same (fun b hb hm => hiq (h.kd i q b hi (by omega) hb (by simpa using hm)))) (by decide)
  · dsimp only at hi hj
    rw [addI_len] at hi hj
    have hl : q < kvs.length := by rw [hkl]; omega
    rw [getD_put _ _ _ _ _ hl] at hb hb'
    by_cases hiq : i = q
    · by_cases hjq : j = q
      · omega
      · rw [if_pos hiq] at hb
        rw [if_neg hjq] at hb'
        rcases ha.blk b hb with h1 | h1
        · exact absurd (h.kd j q b hj (by omega) hb' h1) hjq
        · have := (h.kr j hj).lt hb'; omega
    · by_cases hjq : j = q
      · rw [if_neg hiq] at hb
        rw [if_pos hjq] at hb'
        rcases ha.blk b hb' with h1 | h1
        · exact absurd (h.kd i q b hi (by omega) hb h1) hiq
        · have := (h.kr i hi).lt hb; omega
      · rw [if_neg hiq] at hb
        rw [if_neg hjq] at hb'
        exact h.kd i j b hi hj hb hb'
  · exact List.mem_append_right _ (h.cf b hb)
  · exact List.mem_append_right _ (h.gf b hb)
  · exact List.mem_append_right _ (h.pf b hb)
  · dsimp only at hi
    rw [addI_len] at hi
    rw [getD_put _ _ _ _ _ (by rw [hkl]; omega)] at hb
    by_cases hiq : i = q
    · rw [if_pos hiq] at hb; simp [hb]
    · rw [if_neg hiq] at hb; exact List.mem_append_right _ (h.kf i b hi hb)
end

/-- Code in its box. -/
structure OC (w : World) (cb : Nat) (cv pv gv : Value) (kvs : List Value) (c : Cd.Co) (F : List Nat) : Prop where
  box : Blk w cb 26 [cv, pv, gv]
  own : OCo w cv pv gv kvs c F
  mem : cb ∈ F
  lt : ∀ b ∈ F, b < w.heap.size

theorem OCo.box_ne {cv pv gv : Value} {kvs : List Value} {c : Cd.Co} {F : List Nat} {cb : Nat} (h : OCo w cv pv gv kvs c F) (hb : Blk w cb 26 [cv, pv, gv]) :
    cv.ownBlock ≠ some cb ∧ gv.ownBlock ≠ some cb ∧ pv.ownBlock ≠ some cb ∧ ∀ i, i < c.procs.length → (kvs.getD i undef).ownBlock ≠ some cb :=
  ⟨h.cr.ne_blk hb (by decide), h.gr.ne_blk hb (by decide), h.pr.ne_blk hb (by decide), fun i hi => (h.kr i hi).ne_blk hb (by decide)⟩

/-- A store into the box leaves the lists alone. -/
theorem OCo.setBox {cv pv gv : Value} {kvs : List Value} {c : Cd.Co} {F : List Nat} {cb i : Nat} {cs : List Value} (h : OCo w cv pv gv kvs c F) (hb : Blk w cb 26 cs) (v : Value) : OCo (w.setCell ⟨cb, i, none⟩ v) cv pv gv kvs c F := by
  have hs : Same [cb] w (w.setCell ⟨cb, i, none⟩ v) := (Same.refl _ _).setCell (by simp) _
  have key : ∀ {e s n v xs}, Ow w e s v n xs → e ≠ 26 → ∀ b, v.ownBlock = some b → b ∉ [cb] := fun ho hne b hb' hm => by
    simp at hm; subst hm; exact ho.ne_blk hb hne hb'
  exact ⟨h.cr.frame hs (key h.cr (by decide)), h.gr.frame hs (key h.gr (by decide)), h.pr.frame hs (key h.pr (by decide)), h.kl, fun i hi => (h.kr i hi).frame hs (key (h.kr i hi) (by decide)), h.kd, h.cf, h.gf, h.pf, h.kf⟩
end Ck
end Go.Proofs.YticaipedpcmhfaaGreatDoor
