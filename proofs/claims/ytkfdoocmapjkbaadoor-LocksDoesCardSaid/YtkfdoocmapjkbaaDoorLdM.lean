/- Layer 19, LocksDoes: several books, and the book of what came out. -/
import Derived.Test.YtkfdoocmapjkbaaDoorLdT
import Derived.Test.YtkfdoocmapjkbaaDoorLdB
namespace Go.Proofs.YtkfdoocmapjkbaaDoor
open Go.RowKit Hp
namespace Lk
variable {w w' W : World} {N D : Nat} {B R : Nat → Nat} {m : Nat → Bk} {F G : Nat → List Nat} {V : List Nat} {ls : List (List Int)} {bv rv : Value}

def ptrs (N : Nat) (B : Nat → Nat) : List Value := (List.range N).map (fun j => Value.pointer (some ⟨B j, 0, none⟩))
theorem ptrs_get (N : Nat) (B : Nat → Nat) (j : Nat) (h : j < N) : (ptrs N B)[j]? = some (.pointer (some ⟨B j, 0, none⟩)) := by
  unfold ptrs; rw [List.getElem?_map, List.getElem?_range h]; rfl
def upd {α : Type} (f : Nat → α) (i : Nat) (x : α) : Nat → α := fun j => if j = i then x else f j
theorem upd_same {α : Type} (f : Nat → α) (i : Nat) (x : α) : upd f i x i = x := by simp [upd]
theorem upd_ne {α : Type} (f : Nat → α) {i j : Nat} (x : α) (h : j ≠ i) : upd f i x j = f j := by simp [upd, h]
theorem ptrs_snoc (N : Nat) (B : Nat → Nat) (b : Nat) : ptrs N B ++ [.pointer (some ⟨b, 0, none⟩)] = ptrs (N + 1) (upd B N b) := by
  unfold ptrs
  rw [List.range_succ, List.map_append, List.map_singleton, upd_same]
  congr 1
  exact List.map_congr_left (fun j hj => by rw [upd_ne _ _ (by have := List.mem_range.1 hj; omega)])

/-- N books, each beside the document's; the slices that hold them; the book of what came out. -/
structure Many (w W : World) (N : Nat) (B R : Nat → Nat) (D : Nat) (m : Nat → Bk) (ls : List (List Int)) (F G : Nat → List Nat) (V : List Nat) (bv rv : Value) : Prop where
  i : Ib W D ls V
  dV : D ∉ V
  dn : w.heap.size ≤ D
  vn : ∀ k ∈ V, w.heap.size ≤ k
  p : ∀ j, j < N → Pair w W (B j) (R j) (m j) (m j) (F j) (G j)
  dF : ∀ j, j < N → D ∉ F j ∧ D ∉ G j
  vF : ∀ j, j < N → ∀ k ∈ V, k ∉ F j ∧ k ∉ G j
  off : ∀ a b, a < N → b < N → a ≠ b → ∀ k, k ∈ F a ∨ k ∈ G a → k ∉ F b ∧ k ∉ G b
  bs : Row W 24 1 bv N (ptrs N B)
  rs : Row W 51 1 rv N (ptrs N R)
  xn : ∀ x, x ∈ blk bv ∨ x ∈ blk rv → w.heap.size ≤ x ∧ x ≠ D ∧ x ∉ V ∧ ∀ j, j < N → x ∉ F j ∧ x ∉ G j

theorem Many.trio (h : Many w W N B R D m ls F G V bv rv) (j : Nat) (hj : j < N) : Trio w W (B j) (R j) D (m j) (m j) ls (F j) (G j) V :=
  ⟨h.p j hj, h.i, (h.dF j hj).1, (h.dF j hj).2, h.dV, fun k hk => (h.vF j hj k hk).1, fun k hk => (h.vF j hj k hk).2, h.dn, h.vn⟩

theorem Many.quiet {W' : World} (h : Many w W N B R D m ls F G V bv rv) (hs : Same [] W W') : Many w W' N B R D m ls F G V bv rv :=
  ⟨h.i.frame hs (by simp) (by simp), h.dV, h.dn, h.vn, fun j hj => (h.p j hj).frame hs (by simp) (by simp), h.dF, h.vF, h.off, h.bs.frame hs (by simp), h.rs.frame hs (by simp), h.xn⟩

theorem Many.step {W' : World} {m' : Bk} (h : Many w W N B R D m ls F G V bv rv) (j : Nat) (hj : j < N) (st : Stepped w W W' (B j) (R j) D m' m' ls (F j) (G j) V) :
    ∃ F' G' V' ls', Many w W' N B R D (upd m j m') ls' (upd F j F') (upd G j G') V' bv rv ∧ (ls'.length ≤ ls.length + 1 ∧ ∀ l ∈ ls', l ∈ ls ∨ l.length ≤ 8) ∧ (∀ x, x < w.heap.size → x ∉ F j ++ G j ++ D :: V) ∧ Same (F j ++ G j ++ D :: V) W W' := by
  obtain ⟨F', G', V', ls', t, u, hl⟩ := st
  have hD := (h.trio j hj).dlt
  have hV := (h.trio j hj).vlt
  -- what is neither of the j-th books nor of the book stays so
  have old : ∀ k, k < W.heap.size → k ∉ F j → k ∉ G j → k ≠ D → k ∉ V → k ∉ F' ∧ k ∉ G' ∧ k ∉ V' := fun k h1 h2 h3 h4 h5 => by
    have key : k ∉ F' ++ G' ++ D :: V' := fun hm => by
      rcases u.new k hm with h | h
      · simp only [List.mem_append, List.mem_cons] at h
        rcases h with (h | h) | h | h
        · exact h2 h
        · exact h3 h
        · exact h4 h
        · exact h5 h
      · omega
    simp only [List.mem_append, List.mem_cons, not_or] at key
    exact ⟨key.1.1, key.1.2, key.2.2⟩
  have hin : ∀ {k}, k ∈ F j ++ G j ++ D :: V → k ∈ F j ∨ k ∈ G j ∨ k = D ∨ k ∈ V := fun hk => by
    simp only [List.mem_append, List.mem_cons] at hk
    rcases hk with (h | h) | h | h
    · exact .inl h
    · exact .inr (.inl h)
    · exact .inr (.inr (.inl h))
    · exact .inr (.inr (.inr h))
  have oth : ∀ b, b < N → b ≠ j → ∀ k, k ∈ F b ∨ k ∈ G b → k < W.heap.size ∧ k ∉ F j ∧ k ∉ G j ∧ k ≠ D ∧ k ∉ V := fun b hb hne k hk => by
    have h1 := h.off b j hb hj hne k hk
    refine ⟨?_, h1.1, h1.2, fun e => ?_, fun e => ?_⟩
    · rcases hk with hk | hk
      · exact (h.p b hb).b.rep.lt k hk
      · exact (h.p b hb).r.lt k hk
    · subst e
      rcases hk with hk | hk
      · exact (h.dF b hb).1 hk
      · exact (h.dF b hb).2 hk
    · rcases hk with hk | hk
      · exact (h.vF b hb k e).1 hk
      · exact (h.vF b hb k e).2 hk
  have notin : ∀ {k}, k ∉ F j → k ∉ G j → k ≠ D → k ∉ V → k ∉ F j ++ G j ++ D :: V := fun h1 h2 h3 h4 hm => by
    rcases hin hm with h | h | h | h
    · exact h1 h
    · exact h2 h
    · exact h3 h
    · exact h4 h
  have hxl : ∀ x, x ∈ blk bv ∨ x ∈ blk rv → x < W.heap.size := fun x hx => by
    rcases hx with hx | hx
    · exact h.bs.lt x hx
    · exact h.rs.lt x hx
  refine ⟨F', G', V', ls', ⟨t.i, t.dV, t.dn, t.vn, fun b hb => ?_, fun b hb => ?_, fun b hb k hk => ?_, fun a b ha hb hab k hk => ?_, h.bs.frame u.same (fun k hk => ?_), h.rs.frame u.same (fun k hk => ?_), fun x hx => ?_⟩, hl, fun x hx hm => ?_, u.same⟩
  · by_cases e : b = j
    · subst e; rw [upd_same, upd_same, upd_same]; exact t.p
    · rw [upd_ne _ _ e, upd_ne _ _ e, upd_ne _ _ e]
      exact (h.p b hb).frame u.same (fun k hk => by obtain ⟨_, h1, h2, h3, h4⟩ := oth b hb e k (.inl hk); exact notin h1 h2 h3 h4) (fun k hk => by obtain ⟨_, h1, h2, h3, h4⟩ := oth b hb e k (.inr hk); exact notin h1 h2 h3 h4)
  · by_cases e : b = j
    · subst e; rw [upd_same, upd_same]; exact ⟨t.dF, t.dG⟩
    · rw [upd_ne _ _ e, upd_ne _ _ e]; exact h.dF b hb
  · by_cases e : b = j
    · subst e; rw [upd_same, upd_same]; exact ⟨t.vF k hk, t.vG k hk⟩
    · rw [upd_ne _ _ e, upd_ne _ _ e]
      refine ⟨fun hm => ?_, fun hm => ?_⟩
      · obtain ⟨h0, h1, h2, h3, h4⟩ := oth b hb e k (.inl hm)
        exact (old k h0 h1 h2 h3 h4).2.2 hk
      · obtain ⟨h0, h1, h2, h3, h4⟩ := oth b hb e k (.inr hm)
        exact (old k h0 h1 h2 h3 h4).2.2 hk
  · by_cases ea : a = j
    · subst ea
      have eb : b ≠ a := fun e => hab e.symm
      rw [upd_same, upd_same] at hk
      rw [upd_ne _ _ eb, upd_ne _ _ eb]
      refine ⟨fun hm => ?_, fun hm => ?_⟩
      · obtain ⟨h0, h1, h2, h3, h4⟩ := oth b hb eb k (.inl hm)
        have := old k h0 h1 h2 h3 h4
        rcases hk with hk | hk
        · exact this.1 hk
        · exact this.2.1 hk
      · obtain ⟨h0, h1, h2, h3, h4⟩ := oth b hb eb k (.inr hm)
        have := old k h0 h1 h2 h3 h4
        rcases hk with hk | hk
        · exact this.1 hk
        · exact this.2.1 hk
    · rw [upd_ne _ _ ea, upd_ne _ _ ea] at hk
      by_cases eb : b = j
      · subst eb
        rw [upd_same, upd_same]
        obtain ⟨h0, h1, h2, h3, h4⟩ := oth a ha ea k hk
        exact ⟨(old k h0 h1 h2 h3 h4).1, (old k h0 h1 h2 h3 h4).2.1⟩
      · rw [upd_ne _ _ eb, upd_ne _ _ eb]; exact h.off a b ha hb hab k hk
  · obtain ⟨_, h1, h2, h3⟩ := h.xn k (.inl hk)
    exact notin (h3 j hj).1 (h3 j hj).2 h1 h2
  · obtain ⟨_, h1, h2, h3⟩ := h.xn k (.inr hk)
    exact notin (h3 j hj).1 (h3 j hj).2 h1 h2
  · obtain ⟨h0, h1, h2, h3⟩ := h.xn x hx
    have ho := old x (hxl x hx) (h3 j hj).1 (h3 j hj).2 h1 h2
    refine ⟨h0, h1, ho.2.2, fun b hb => ?_⟩
    by_cases e : b = j
    · subst e; rw [upd_same, upd_same]; exact ⟨ho.1, ho.2.1⟩
    · rw [upd_ne _ _ e, upd_ne _ _ e]; exact h3 b hb
  · rcases hin hm with h1 | h1 | h1 | h1
    · have := (h.p j hj).b.new x h1; omega
    · have := (h.p j hj).rn x h1; omega
    · subst h1; have := h.dn; omega
    · have := h.vn x h1; omega

/-- One book more. -/
theorem Many.add {W' : World} {b r : Nat} {mb : Bk} {Fb Gr : List Nat} {bv' rv' : Value} (h : Many w W N B R D m ls F G V bv rv) (hw : w.heap.size ≤ W.heap.size)
    (p : Pair w W' b r mb mb Fb Gr) (hF : ∀ k ∈ Fb, W.heap.size ≤ k) (hG : ∀ k ∈ Gr, W.heap.size ≤ k) (hs : Same (blk bv ++ blk rv) W W')
    (hb : Row W' 24 1 bv' (N + 1) (ptrs N B ++ [.pointer (some ⟨b, 0, none⟩)])) (hr : Row W' 51 1 rv' (N + 1) (ptrs N R ++ [.pointer (some ⟨r, 0, none⟩)]))
    (hx : ∀ x, x ∈ blk bv' ∨ x ∈ blk rv' → (x ∈ blk bv ∨ x ∈ blk rv) ∨ W.heap.size ≤ x) (hxF : ∀ x, x ∈ blk bv' ∨ x ∈ blk rv' → x ∉ Fb ∧ x ∉ Gr) :
    Many w W' (N + 1) (upd B N b) (upd R N r) D (upd m N mb) ls (upd F N Fb) (upd G N Gr) V bv' rv' := by
  obtain ⟨ro, rvs, hb1, hb2⟩ := h.i
  have hDl := hb1.lt
  have hVl := hb2.lt
  have hD : D ∉ blk bv ++ blk rv := fun hm => by
    rcases List.mem_append.1 hm with h1 | h1
    · exact (h.xn D (.inl h1)).2.1 rfl
    · exact (h.xn D (.inr h1)).2.1 rfl
  have hV : ∀ k ∈ V, k ∉ blk bv ++ blk rv := fun k hk hm => by
    rcases List.mem_append.1 hm with h1 | h1
    · exact (h.xn k (.inl h1)).2.2.1 hk
    · exact (h.xn k (.inr h1)).2.2.1 hk
  have hP : ∀ j, j < N → ∀ k, k ∈ F j ∨ k ∈ G j → k ∉ blk bv ++ blk rv ∧ k < W.heap.size := fun j hj k hk => by
    refine ⟨fun hm => ?_, ?_⟩
    · have h1 := (h.xn k (List.mem_append.1 hm)).2.2.2 j hj
      rcases hk with hk | hk
      · exact h1.1 hk
      · exact h1.2 hk
    · rcases hk with hk | hk
      · exact (h.p j hj).b.rep.lt k hk
      · exact (h.p j hj).r.lt k hk
  refine ⟨h.i.frame hs hD hV, h.dV, h.dn, h.vn, fun j hj => ?_, fun j hj => ?_, fun j hj k hk => ?_, fun a c ha hc hac k hk => ?_, by rw [← ptrs_snoc]; exact hb, by rw [← ptrs_snoc]; exact hr, fun x hxm => ?_⟩
  · by_cases e : j = N
    · subst e; simp only [upd_same]; exact p
    · simp only [upd_ne _ _ e]
      exact (h.p j (by omega)).frame hs (fun k hk => (hP j (by omega) k (.inl hk)).1) (fun k hk => (hP j (by omega) k (.inr hk)).1)
  · by_cases e : j = N
    · subst e; simp only [upd_same]
      exact ⟨fun hm => by have := hF D hm; omega, fun hm => by have := hG D hm; omega⟩
    · simp only [upd_ne _ _ e]; exact h.dF j (by omega)
  · by_cases e : j = N
    · subst e; simp only [upd_same]
      have := hVl k hk
      exact ⟨fun hm => by have := hF k hm; omega, fun hm => by have := hG k hm; omega⟩
    · simp only [upd_ne _ _ e]; exact h.vF j (by omega) k hk
  · by_cases ea : a = N
    · subst ea
      have ec : c ≠ a := fun e => hac e.symm
      simp only [upd_same] at hk
      simp only [upd_ne _ _ ec]
      have hge : W.heap.size ≤ k := by
        rcases hk with hk | hk
        · exact hF k hk
        · exact hG k hk
      exact ⟨fun hm => by have := (hP c (by omega) k (.inl hm)).2; omega, fun hm => by have := (hP c (by omega) k (.inr hm)).2; omega⟩
    · simp only [upd_ne _ _ ea] at hk
      have hlt := (hP a (by omega) k hk).2
      by_cases ec : c = N
      · subst ec; simp only [upd_same]
        exact ⟨fun hm => by have := hF k hm; omega, fun hm => by have := hG k hm; omega⟩
      · simp only [upd_ne _ _ ec]; exact h.off a c (by omega) (by omega) hac k hk
  · rcases hx x hxm with h1 | h1
    · obtain ⟨q0, q1, q2, q3⟩ := h.xn x h1
      refine ⟨q0, q1, q2, fun j hj => ?_⟩
      by_cases e : j = N
      · subst e; simp only [upd_same]; exact hxF x hxm
      · simp only [upd_ne _ _ e]; exact q3 j (by omega)
    · refine ⟨by omega, by omega, fun hm => by have := hVl x hm; omega, fun j hj => ?_⟩
      by_cases e : j = N
      · subst e; simp only [upd_same]; exact hxF x hxm
      · simp only [upd_ne _ _ e]
        exact ⟨fun hm => by have := (hP j (by omega) x (.inl hm)).2; omega, fun hm => by have := (hP j (by omega) x (.inr hm)).2; omega⟩
end Lk
end Go.Proofs.YtkfdoocmapjkbaaDoor
