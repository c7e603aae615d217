/- Layer 8, the plain side: the rounds over the places of a procedure come to an end. -/
import Derived.Test.YticaipedpcmhfaaDoorCdM
namespace Go.Proofs.YticaipedpcmhfaaDoor
namespace Cd

theorem getD_set {α : Type} (l : List α) (i j : Nat) (x d : α) (h : i < l.length) : (l.set i x).getD j d = if j = i then x else l.getD j d := by
  by_cases e : j = i
  · subst e; simp [List.getD, h]
  · rw [if_neg e]; simp [List.getD, List.getElem?_set_ne (fun h => e h.symm)]

/-- Each place stays within the procedure: what a jump, a branch names; and the last place is none behind which one goes on. -/
structure Ways (code : List In) : Prop where
  jump : ∀ i, i < code.length → (code.getD i ⟨0, 0⟩).op = 8 ∨ (code.getD i ⟨0, 0⟩).op = 9 → (code.getD i ⟨0, 0⟩).a.toNat < code.length
  last : ∀ i, i < code.length → (code.getD i ⟨0, 0⟩).op ≠ 8 → (code.getD i ⟨0, 0⟩).op ≠ 11 → (code.getD i ⟨0, 0⟩).op ≠ 12 → i + 1 < code.length

structure Good (n : Nat) (s : List De × List Nat) : Prop where
  len : s.1.length = n
  todo : ∀ i ∈ s.2, i < n ∧ 1 ≤ (s.1.getD i ⟨2, 0⟩).ways
  le : ∀ i, (s.1.getD i ⟨2, 0⟩).ways ≤ 2

theorem comes_good {n : Nat} {s : List De × List Nat} (g : Good n s) (at_ : Nat) (d : De) (h : at_ < n) (hd : 1 ≤ d.ways ∧ d.ways ≤ 2) : Good n (comes s at_ d) := by
  have hl : at_ < s.1.length := by rw [g.len]; exact h
  unfold comes
  dsimp only
  split
  · refine ⟨by simpa using g.len, fun i hi => ?_, fun i => ?_⟩
    · dsimp only at hi ⊢
      rw [getD_set _ _ _ _ _ hl]
      rcases List.mem_append.1 hi with hi | hi
      · refine ⟨(g.todo i hi).1, ?_⟩
        split
        · exact hd.1
        · exact (g.todo i hi).2
      · rw [List.mem_singleton.1 hi, if_pos rfl]; exact ⟨h, hd.1⟩
    · dsimp only
      rw [getD_set _ _ _ _ _ hl]
      split
      · exact hd.2
      · exact g.le i
  · split
    · exact g
    · refine ⟨by simpa using g.len, fun i hi => ?_, fun i => ?_⟩
      · dsimp only at hi ⊢
        rw [getD_set _ _ _ _ _ hl]
        rcases List.mem_append.1 hi with hi | hi
        · refine ⟨(g.todo i hi).1, ?_⟩
          split
          · exact Nat.le_succ 1
          · exact (g.todo i hi).2
        · rw [List.mem_singleton.1 hi, if_pos rfl]; exact ⟨h, Nat.le_succ 1⟩
      · dsimp only
        rw [getD_set _ _ _ _ _ hl]
        split
        · exact Nat.le_refl 2
        · exact g.le i

theorem comes_both {n : Nat} {s : List De × List Nat} (g : Good n s) (at_ : Nat) (d : De) (h : at_ < n) (hd : 1 ≤ d.ways ∧ d.ways ≤ 2) : Good n (comes s at_ d) ∧ weight (comes s at_ d) ≤ weight s :=
  ⟨comes_good g at_ d h hd, comes_weight s at_ d (by rw [g.len]; exact h) hd g.le⟩

theorem round_good {code : List In} (w : Ways code) {s : List De × List Nat} (g : Good code.length s) (hne : s.2 ≠ []) : Good code.length (round code s) ∧ weight (round code s) + 1 ≤ weight s := by
  obtain ⟨at_, hat⟩ : ∃ a, a = s.2.getLastD 0 := ⟨_, rfl⟩
  have hmem : at_ ∈ s.2 := by
    rw [hat, List.getLastD_eq_getLast?, List.getLast?_eq_some_getLast hne]; exact List.getLast_mem hne
  obtain ⟨h1, h2⟩ := g.todo at_ hmem
  have h3 := g.le at_
  have g' : Good code.length (s.1, s.2.dropLast) := ⟨g.len, fun i hi => g.todo i ((List.dropLast_sublist s.2).subset hi), g.le⟩
  have hw : weight (s.1, s.2.dropLast) + 1 = weight s := by
    have : 1 ≤ s.2.length := by
      cases hs : s.2 with
      | nil => exact absurd hs hne
      | cons a b => simp
    simp only [weight, List.length_dropLast]; omega
  have hj := w.jump at_ h1
  have hla := w.last at_ h1
  unfold round
  rw [← hat]
  dsimp only
  split
  · rename_i c
    have := comes_both g' (code.getD at_ ⟨0, 0⟩).a.toNat ⟨(s.1.getD at_ ⟨2, 0⟩).ways, (s.1.getD at_ ⟨2, 0⟩).deep + (puts (code.getD at_ ⟨0, 0⟩) - took (code.getD at_ ⟨0, 0⟩))⟩ (hj (.inl c)) ⟨h2, h3⟩
    exact ⟨this.1, by have := this.2; omega⟩
  · rename_i c8
    split
    · exact ⟨g', by omega⟩
    · rename_i c
      split
      · rename_i c9
        have q1 := comes_both g' (code.getD at_ ⟨0, 0⟩).a.toNat ⟨(s.1.getD at_ ⟨2, 0⟩).ways, (s.1.getD at_ ⟨2, 0⟩).deep + (puts (code.getD at_ ⟨0, 0⟩) - took (code.getD at_ ⟨0, 0⟩))⟩ (hj (.inr c9)) ⟨h2, h3⟩
        have q2 := comes_both q1.1 (at_ + 1) ⟨(s.1.getD at_ ⟨2, 0⟩).ways, (s.1.getD at_ ⟨2, 0⟩).deep + (puts (code.getD at_ ⟨0, 0⟩) - took (code.getD at_ ⟨0, 0⟩))⟩ (hla c8 (fun e => c (.inr e)) (fun e => c (.inl e))) ⟨h2, h3⟩
        exact ⟨q2.1, by have := q1.2; have := q2.2; omega⟩
      · have q := comes_both g' (at_ + 1) ⟨(s.1.getD at_ ⟨2, 0⟩).ways, (s.1.getD at_ ⟨2, 0⟩).deep + (puts (code.getD at_ ⟨0, 0⟩) - took (code.getD at_ ⟨0, 0⟩))⟩ (hla c8 (fun e => c (.inr e)) (fun e => c (.inl e))) ⟨h2, h3⟩
        exact ⟨q.1, by have := q.2; omega⟩

theorem rounds_end {code : List In} (w : Ways code) : ∀ (k : Nat) (s : List De × List Nat), Good code.length s → weight s ≤ k → (rounds code k s).2 = [] ∧ Good code.length (rounds code k s)
  | 0, s, g, h => by
    have : s.2 = [] := List.eq_nil_of_length_eq_zero (by simp only [weight] at h; omega)
    exact ⟨this, g⟩
  | k + 1, s, g, h => by
    unfold rounds
    split
    · rename_i e; exact ⟨e, g⟩
    · rename_i e
      obtain ⟨g1, h1⟩ := round_good w g e
      exact rounds_end w k _ g1 (by omega)

theorem start_good {n : Nat} (hn : 1 ≤ n) : Good n (start n) := by
  refine ⟨by simp [start]; omega, fun i hi => ?_, fun i => ?_⟩
  · have : i = 0 := by simpa [start] using hi
    subst this
    exact ⟨by omega, by simp [start]⟩
  · simp only [start]
    cases i with
    | zero => simp
    | succ i =>
      simp only [List.getD_eq_getElem?_getD, List.getElem?_cons_succ, List.getElem?_replicate]
      split <;> simp

theorem open_rep (n : Nat) : open_ (List.replicate n ⟨0, 0⟩) = 2 * n := by
  induction n with
  | zero => rfl
  | succ n ih => simp only [open_, List.replicate_succ, List.map_cons, List.sum_cons] at ih ⊢; omega

/-- So the rounds are enough. -/
theorem depths_done {code : List In} (w : Ways code) (hn : 1 ≤ code.length) : (rounds code (4 * code.length + 2) (start code.length)).2 = [] := by
  refine (rounds_end w _ _ (start_good hn) ?_).1
  have h := open_rep (code.length - 1)
  simp only [open_] at h
  simp only [weight, start, open_, List.map_cons, List.sum_cons, List.length_singleton]
  omega

/-- More rounds change nothing. -/
theorem rounds_more (code : List In) : ∀ (k d : Nat) (s : List De × List Nat), (rounds code k s).2 = [] → rounds code (k + d) s = rounds code k s
  | 0, d, s, h => by
    cases d with
    | zero => rfl
    | succ d =>
      rw [show 0 + (d + 1) = d + 1 from by omega]
      unfold rounds
      have h' : s.2 = [] := h
      rw [if_pos h']
  | k + 1, d, s, h => by
    rw [show k + 1 + d = (k + d) + 1 from by omega]
    unfold rounds at h ⊢
    split
    · rfl
    · rename_i e
      rw [if_neg e] at h
      exact rounds_more code k d _ h
end Cd
end Go.Proofs.YticaipedpcmhfaaDoor
