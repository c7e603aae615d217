/- Own lists; code of the call's own (out of l08/CkQ2). -/
import Derived.Test.YtkepcdbogeineaaGreatDoorCkV
import Derived.Test.YtkepcdbogeineaaGreatDoorCd
namespace Go.Proofs.YtkepcdbogeineaaGreatDoor
open Go.RowKit Hp
namespace Ck
variable {w w' : World}

abbrev Ow (w : World) (e : TypeId) (size : Nat) (v : Value) (n : Nat) (xs : List Value) : Prop := w.ownsRow 0 e size v n xs

theorem Ow.kind {e size n : Nat} {v : Value} {xs : List Value} (h : Ow w e size v n xs) {b : Nat} (hb : v.ownBlock = some b) : ∃ cur, w.heap[b]? = some (.cells cur e (0, 0)) := by
  rcases h.2 with ⟨rfl, _⟩ | ⟨g, cap, cur, rfl, _, hc, _⟩
  · cases hb
  · cases hb; exact ⟨cur, hc⟩
theorem Ow.lt {e size n : Nat} {v : Value} {xs : List Value} (h : Ow w e size v n xs) {b : Nat} (hb : v.ownBlock = some b) : b < w.heap.size := by
  obtain ⟨cur, hc⟩ := h.kind hb
  exact (Array.getElem?_eq_some_iff.1 hc).1
theorem Ow.frame {e size n : Nat} {v : Value} {xs : List Value} {F : List Nat} (h : Ow w e size v n xs) (hs : Same F w w') (hn : ∀ b, v.ownBlock = some b → b ∉ F) : Ow w' e size v n xs := by
  refine ⟨h.1, ?_⟩
  rcases h.2 with h0 | ⟨g, cap, cur, rfl, hg, hc, r⟩
  · exact .inl h0
  · exact .inr ⟨g, cap, cur, rfl, hg, (hs.block g (Array.getElem?_eq_some_iff.1 hc).1 (hn g rfl)).trans hc, r⟩
theorem Ow.ne {e e' s s' n n' : Nat} {v v' : Value} {xs xs' : List Value} (h : Ow w e s v n xs) (h' : Ow w e' s' v' n' xs') (hne : e ≠ e') {b : Nat} (hb : v.ownBlock = some b) : v'.ownBlock ≠ some b := fun hb' => by
  obtain ⟨c1, h1⟩ := h.kind hb
  obtain ⟨c2, h2⟩ := h'.kind hb'
  rw [h1] at h2
  injection h2 with h2
  injection h2 with _ h2 _
  exact hne h2
theorem Ow.ne_blk {e t s n k : Nat} {v : Value} {xs cs : List Value} (h : Ow w e s v n xs) (h' : Blk w k t cs) (hne : e ≠ t) : v.ownBlock ≠ some k := fun hb => by
  obtain ⟨c1, h1⟩ := h.kind hb
  unfold Blk at h'
  rw [h1] at h'
  injection h' with h'
  injection h' with _ h' _
  exact hne h'
theorem Ow.lit {e s n : Nat} {v : Value} {xs : List Value} (h : Ow w e s v n xs) : ∃ A C, v = .slice A n C := by
  rcases h.2 with ⟨rfl, rfl⟩ | ⟨g, cap, cur, rfl, _⟩
  · exact ⟨none, 0, rfl⟩
  · exact ⟨_, cap, rfl⟩
theorem Ow.sq {e s n : Nat} {v : Value} {xs : List Value} {f : Nat → Nat → Value} (h : Ow w e s v n xs) (hf : ∀ i j, i < n → j < s → xs[i * s + j]? = some (f i j)) : Sq w v n s f := by
  have hl := h.1
  rcases h.2 with ⟨rfl, rfl⟩ | ⟨g, cap, cur, rfl, _, hc, hn, hm, hz, ht⟩
  · exact ⟨none, 0, rfl, Nat.le_refl _, Nat.zero_le _, fun h => by omega⟩
  · refine ⟨_, cap, rfl, hn, hm, fun _ => ⟨g, 0, rfl, (Array.getElem?_eq_some_iff.1 hc).1, fun i j hi hj => ?_⟩⟩
    have hlt : i * s + j < n * s := by
      have : (i + 1) * s ≤ n * s := Nat.mul_le_mul_right _ hi
      rw [Nat.add_mul] at this; omega
    rw [cell_of_row w g _ cur e (0, 0) hc, ← hf i j hi hj, ← ht, List.getElem?_take_of_lt hlt]
    simp

def flatI (l : List Cd.In) : List Value := l.flatMap (fun i => [.int .u8 i.op, .int .i64 i.a])
def flatP : List Cd.Pr → List Value → List Value
  | p :: l, k :: ks => .int .i64 p.params :: k :: flatP l ks
  | _, _ => []
theorem flatI_len (l : List Cd.In) : (flatI l).length = l.length * 2 := flat_length _ 2 (fun _ => rfl) l
theorem flatI_at (l : List Cd.In) (i j : Nat) (hi : i < l.length) (hj : j < 2) : (flatI l)[i * 2 + j]? = some (fI l i j) := by
  rw [flatI, flat_get _ 2 (fun _ => rfl) l i j hi hj, fI, List.getD, List.getElem?_eq_getElem hi]
  match j, hj with
  | 0, _ => rfl
  | 1, _ => rfl
theorem flatP_len : ∀ (l : List Cd.Pr) (ks : List Value), ks.length = l.length → (flatP l ks).length = l.length * 2
  | [], [], _ => rfl
  | p :: l, k :: ks, h => by
    have := flatP_len l ks (by simpa using h)
    simp only [flatP, List.length_cons, this]; omega
theorem flatP_at : ∀ (l : List Cd.Pr) (ks : List Value) (i j : Nat), ks.length = l.length → i < l.length → j < 2 → (flatP l ks)[i * 2 + j]? = some (fP l (fun i => ks.getD i undef) i j)
  | p :: l, k :: ks, 0, j, _, _, hj => by
    match j, hj with
    | 0, _ => rfl
    | 1, _ => rfl
  | p :: l, k :: ks, i + 1, j, h, hi, hj => by
    have := flatP_at l ks i j (by simpa using h) (by simpa using hi) hj
    simp only [flatP]
    rw [show (i + 1) * 2 + j = (i * 2 + j) + 1 + 1 by omega, List.getElem?_cons_succ, List.getElem?_cons_succ, this]
    simp [fP]
theorem flatP_snoc : ∀ (l : List Cd.Pr) (ks : List Value) (p : Cd.Pr) (k : Value), ks.length = l.length → flatP l ks ++ [.int .i64 p.params, k] = flatP (l ++ [p]) (ks ++ [k])
  | [], [], _, _, _ => rfl
  | q :: l, c :: ks, p, k, h => by
    have := flatP_snoc l ks p k (by simpa using h)
    simp only [flatP, List.cons_append, this]
theorem flatP_code (f : Cd.Pr → Cd.Pr) (hf : ∀ p, (f p).params = p.params) : ∀ (l : List Cd.Pr) (ks : List Value) (i : Nat), flatP (l.modify i f) ks = flatP l ks
  | [], ks, i => by simp [flatP]
  | p :: l, [], i => by cases i <;> simp [flatP, List.modify_cons]
  | p :: l, k :: ks, 0 => by simp [flatP, hf]
  | p :: l, k :: ks, i + 1 => by
    have := flatP_code f hf l ks i
    simp [flatP, this]
theorem flatP_set : ∀ (l : List Cd.Pr) (ks : List Value) (i : Nat) (v : Value), ks.length = l.length → i < l.length → (flatP l ks).set (i * 2 + 1) v = flatP l (ks.set i v)
  | p :: l, k :: ks, 0, v, _, _ => rfl
  | p :: l, k :: ks, i + 1, v, h, hi => by
    have := flatP_set l ks i v (by simpa using h) (by simpa using hi)
    simp only [flatP]
    rw [show (i + 1) * 2 + 1 = (i * 2 + 1) + 1 + 1 by omega, List.set_cons_succ, List.set_cons_succ, this]
    rfl

/-- Code of the call's own: its lists' values, their blocks among F. -/
structure OCo (w : World) (cv pv gv : Value) (kvs : List Value) (c : Cd.Co) (F : List Nat) : Prop where
  cr : Ow w 30 1 cv c.consts.length (c.consts.map (Value.int .u64))
  gr : Ow w 9 1 gv c.globals.length (c.globals.map Value.string)
  pr : Ow w 56 2 pv c.procs.length (flatP c.procs kvs)
  kl : kvs.length = c.procs.length
  kr : ∀ i, i < c.procs.length → Ow w 53 2 (kvs.getD i undef) (c.procs.getD i ⟨0, []⟩).code.length (flatI (c.procs.getD i ⟨0, []⟩).code)
  kd : ∀ i j b, i < c.procs.length → j < c.procs.length → (kvs.getD i undef).ownBlock = some b → (kvs.getD j undef).ownBlock = some b → i = j
  cf : ∀ b, cv.ownBlock = some b → b ∈ F
  gf : ∀ b, gv.ownBlock = some b → b ∈ F
  pf : ∀ b, pv.ownBlock = some b → b ∈ F
  kf : ∀ i b, i < c.procs.length → (kvs.getD i undef).ownBlock = some b → b ∈ F

theorem OCo.frame {cv pv gv : Value} {kvs : List Value} {c : Cd.Co} {F G : List Nat} (h : OCo w cv pv gv kvs c F) (hs : Same G w w') (hd : ∀ b ∈ F, b ∉ G) : OCo w' cv pv gv kvs c F :=
  ⟨h.cr.frame hs (fun b hb => hd b (h.cf b hb)), h.gr.frame hs (fun b hb => hd b (h.gf b hb)), h.pr.frame hs (fun b hb => hd b (h.pf b hb)), h.kl,
    fun i hi => (h.kr i hi).frame hs (fun b hb => hd b (h.kf i b hi hb)), h.kd, h.cf, h.gf, h.pf, h.kf⟩
theorem OCo.mono {cv pv gv : Value} {kvs : List Value} {c : Cd.Co} {F G : List Nat} (h : OCo w cv pv gv kvs c F) (hd : ∀ b ∈ F, b ∈ G) : OCo w cv pv gv kvs c G :=
  ⟨h.cr, h.gr, h.pr, h.kl, h.kr, h.kd, fun b hb => hd b (h.cf b hb), fun b hb => hd b (h.gf b hb), fun b hb => hd b (h.pf b hb), fun i b hi hb => hd b (h.kf i b hi hb)⟩

/-- It may be read. -/
theorem OCo.read {cv pv gv : Value} {kvs : List Value} {c : Cd.Co} {F : List Nat} (h : OCo w cv pv gv kvs c F) : RCoAt w cv pv gv c := by
  refine ⟨h.cr.sq (fun i j hi hj => ?_), ⟨fun i => kvs.getD i undef, h.pr.sq (fun i j hi hj => flatP_at _ _ i j h.kl hi hj), fun i hi => (h.kr i hi).sq (fun a b ha hb => flatI_at _ a b ha hb)⟩, h.gr.sq (fun i j hi hj => ?_)⟩
  · obtain rfl : j = 0 := by omega
    rw [Nat.mul_one, Nat.add_zero, List.getElem?_map, List.getElem?_eq_getElem hi, fW, List.getD, List.getElem?_eq_getElem hi]; rfl
  · obtain rfl : j = 0 := by omega
    rw [Nat.mul_one, Nat.add_zero, List.getElem?_map, List.getElem?_eq_getElem hi, fS, List.getD, List.getElem?_eq_getElem hi]; rfl

theorem OCo.empty (w : World) : OCo w (.slice none 0 0) (.slice none 0 0) (.slice none 0 0) [] Cd.none_ [] :=
  ⟨World.ownsRow_nil _ _ _ _, World.ownsRow_nil _ _ _ _, World.ownsRow_nil _ _ _ _, rfl, fun i hi => (nomatch hi), fun i j b hi => (nomatch hi), fun b hb => (by cases hb), fun b hb => (by cases hb), fun b hb => (by cases hb), fun i b hi => (nomatch hi)⟩

end Ck
end Go.Proofs.YtkepcdbogeineaaGreatDoor
