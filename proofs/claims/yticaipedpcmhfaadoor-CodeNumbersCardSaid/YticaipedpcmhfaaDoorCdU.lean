/- Layer 8, the plain side: the rounds one by one, what is left of them, how deep it gets. -/
import Derived.Test.YticaipedpcmhfaaDoorCdR
namespace Go.Proofs.YticaipedpcmhfaaDoor
namespace Cd

/-- Instructions that may be, one by one, in a procedure of so many. -/
structure Fit (n : Nat) (i : In) : Prop where
  op : 1 ≤ i.op ∧ i.op ≤ 18
  a : 0 ≤ i.a ∧ i.a ≤ 4096
  prim : i.op = 13 → 1 ≤ i.a ∧ i.a ≤ 22
  jump : i.op = 8 ∨ i.op = 9 → i.a < n

theorem takes_le (a : Int) : 0 ≤ takes a ∧ takes a ≤ 3 := by
  unfold takes
  have : ∀ x ∈ takesL, 0 ≤ x ∧ x ≤ 3 := by decide
  rcases Nat.lt_or_ge a.toNat takesL.length with h | h
  · rw [List.getD, List.getElem?_eq_getElem h]; exact this _ (List.getElem_mem _)
  · rw [List.getD, List.getElem?_eq_none h]; decide

theorem took_le {n : Nat} {i : In} (h : Fit n i) : 0 ≤ took i ∧ took i ≤ 4097 := by
  have := takes_le i.a
  have := h.a
  unfold took
  repeat' split
  all_goals omega
theorem puts_le (i : In) : 0 ≤ puts i ∧ puts i ≤ 1 := by
  unfold puts
  repeat' split
  all_goals omega

def Deep (M : Int) (s : List De × List Nat) : Prop := ∀ i, -M ≤ (s.1.getD i ⟨2, 0⟩).deep ∧ (s.1.getD i ⟨2, 0⟩).deep ≤ M

theorem comes_deep {M : Int} {s : List De × List Nat} (h : Deep M s) (at_ : Nat) (d : De) (hl : at_ < s.1.length) (hd : -M ≤ d.deep ∧ d.deep ≤ M) : Deep M (comes s at_ d) := by
  intro i
  unfold comes
  dsimp only
  split
  · dsimp only; rw [getD_set _ _ _ _ _ hl]; split
    · exact hd
    · exact h i
  · split
    · exact h i
    · dsimp only; rw [getD_set _ _ _ _ _ hl]; split
      · exact h at_
      · exact h i

theorem Deep.mono {M N : Int} {s : List De × List Nat} (h : Deep M s) (hm : M ≤ N) : Deep N s := fun i => ⟨by have := (h i).1; omega, by have := (h i).2; omega⟩

/-- m rounds are done. -/
structure Run (code : List In) (m : Nat) (s : List De × List Nat) : Prop where
  good : Good code.length s
  left : m + weight s ≤ 4 * code.length
  fin : rounds code (4 * code.length + 2 - m) s = rounds code (4 * code.length + 2) (start code.length)
  deep : Deep (5000 * m) s

theorem Run.start {code : List In} (hn : 1 ≤ code.length) : Run code 0 (start code.length) := by
  refine ⟨start_good hn, ?_, rfl, fun i => ?_⟩
  · have h := open_rep (code.length - 1)
    simp only [open_] at h
    simp only [weight, Cd.start, open_, List.map_cons, List.sum_cons, List.length_singleton]
    omega
  · simp only [Cd.start]
    cases i with
    | zero => simp
    | succ i =>
      simp only [List.getD_eq_getElem?_getD, List.getElem?_cons_succ, List.getElem?_replicate]
      split <;> simp

theorem getD_mem (code : List In) (i : Nat) (h : i < code.length) : code.getD i ⟨0, 0⟩ ∈ code := by
  rw [List.getD, List.getElem?_eq_getElem h]; exact List.getElem_mem _

/-- Each place stays within. -/
theorem ways_of {code : List In} (hf : ∀ i ∈ code, Fit code.length i) (hl : (code.getLastD ⟨0, 0⟩).op = 8 ∨ (code.getLastD ⟨0, 0⟩).op = 11 ∨ (code.getLastD ⟨0, 0⟩).op = 12) : Ways code := by
  refine ⟨fun i hi h => ?_, fun i hi h8 h11 h12 => ?_⟩
  · have f := hf _ (getD_mem code i hi)
    have h1 := f.jump h
    have h2 := f.a
    omega
  · rcases Nat.lt_or_ge (i + 1) code.length with h | h
    · exact h
    · have e : code.getLastD ⟨0, 0⟩ = code.getD i ⟨0, 0⟩ := by
        rw [List.getLastD_eq_getLast?, List.getLast?_eq_getElem?, List.getD]
        rw [show code.length - 1 = i by omega]
      rw [e] at hl
      rcases hl with h | h | h
      · exact absurd h h8
      · exact absurd h h11
      · exact absurd h h12

theorem Run.last {code : List In} {m : Nat} {s : List De × List Nat} (r : Run code m s) (hne : s.2 ≠ []) : s.2.getLastD 0 < code.length ∧ 1 ≤ (s.1.getD (s.2.getLastD 0) ⟨2, 0⟩).ways ∧ (s.1.getD (s.2.getLastD 0) ⟨2, 0⟩).ways ≤ 2 := by
  have hmem : s.2.getLastD 0 ∈ s.2 := by
    rw [List.getLastD_eq_getLast?, List.getLast?_eq_some_getLast hne]; exact List.getLast_mem hne
  obtain ⟨h1, h2⟩ := r.good.todo _ hmem
  exact ⟨h1, h2, r.good.le _⟩

theorem Run.step {code : List In} (hf : ∀ i ∈ code, Fit code.length i) (w : Ways code) {m : Nat} {s : List De × List Nat} (r : Run code m s) (hne : s.2 ≠ []) : Run code (m + 1) (round code s) := by
  obtain ⟨g, hw⟩ := round_good w r.good hne
  have hleft := r.left
  refine ⟨g, by omega, ?_, ?_⟩
  · rw [← r.fin]
    obtain ⟨k, hk⟩ : ∃ k, 4 * code.length + 2 - m = k + 1 := ⟨4 * code.length + 1 - m, by omega⟩
    rw [show 4 * code.length + 2 - (m + 1) = k by omega, hk]
    conv => rhs; unfold rounds
    rw [if_neg hne]
  · obtain ⟨h1, h2, h3⟩ := r.last hne
    have hfit := hf _ (getD_mem code _ h1)
    have ht := took_le hfit
    have hp := puts_le (code.getD (s.2.getLastD 0) ⟨0, 0⟩)
    have hd := r.deep (s.2.getLastD 0)
    have hD : Deep (5000 * ((m + 1 : Nat) : Int)) (s.1, s.2.dropLast) := r.deep.mono (by omega)
    have hlen : s.1.length = code.length := r.good.len
    have hnext := w.last _ h1
    have hjump := w.jump _ h1
    have hdd : -(5000 * ((m + 1 : Nat) : Int)) ≤ (s.1.getD (s.2.getLastD 0) ⟨2, 0⟩).deep + (puts (code.getD (s.2.getLastD 0) ⟨0, 0⟩) - took (code.getD (s.2.getLastD 0) ⟨0, 0⟩)) ∧ (s.1.getD (s.2.getLastD 0) ⟨2, 0⟩).deep + (puts (code.getD (s.2.getLastD 0) ⟨0, 0⟩) - took (code.getD (s.2.getLastD 0) ⟨0, 0⟩)) ≤ 5000 * ((m + 1 : Nat) : Int) := by omega
    unfold round
    dsimp only
    split
    · rename_i h8
      exact comes_deep hD _ _ (by rw [hlen]; exact hjump (.inl h8)) hdd
    · split
      · exact hD
      · split
        · rename_i h8 h12 h9
          have hj : (code.getD (s.2.getLastD 0) ⟨0, 0⟩).a.toNat < (s.1, s.2.dropLast).1.length := by rw [hlen]; exact hjump (.inr h9)
          refine comes_deep (comes_deep hD _ _ hj hdd) _ _ ?_ hdd
          have hh : (comes (s.1, s.2.dropLast) (code.getD (s.2.getLastD 0) ⟨0, 0⟩).a.toNat ⟨(s.1.getD (s.2.getLastD 0) ⟨2, 0⟩).ways, (s.1.getD (s.2.getLastD 0) ⟨2, 0⟩).deep + (puts (code.getD (s.2.getLastD 0) ⟨0, 0⟩) - took (code.getD (s.2.getLastD 0) ⟨0, 0⟩))⟩).1.length = s.1.length := by
            unfold comes; dsimp only; repeat' split
            all_goals simp
          rw [hh, hlen]
          exact hnext h8 (fun e => h12 (.inr e)) (fun e => h12 (.inl e))
        · rename_i h8 h12 h9
          exact comes_deep hD _ _ (by rw [hlen]; exact hnext h8 (fun e => h12 (.inr e)) (fun e => h12 (.inl e))) hdd

theorem Run.done {code : List In} {m : Nat} {s : List De × List Nat} (r : Run code m s) (h : s.2 = []) : s.1 = depths code := by
  have e := r.fin
  have h' : ∀ k, rounds code k s = s := fun k => by
    cases k with
    | zero => rfl
    | succ k => unfold rounds; rw [if_pos h]
  rw [h'] at e
  unfold depths
  rw [← e]
/-- The table of the end. -/
theorem depths_good {code : List In} (w : Ways code) (hn : 1 ≤ code.length) : Good code.length (rounds code (4 * code.length + 2) (start code.length)) := by
  refine (rounds_end w _ _ (start_good hn) ?_).2
  have := (Run.start hn).left
  omega
end Cd
end Go.Proofs.YticaipedpcmhfaaDoor
