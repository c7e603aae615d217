/- Layer 8, the plain side: what is wrong with a procedure, step by step. -/
import Derived.Test.YticaipedpcmhfaaDoorCdU
namespace Go.Proofs.YticaipedpcmhfaaDoor
namespace Cd

theorem find_range (n : Nat) (p : Nat → Bool) (k : Nat) (hk : k < n) (h0 : ∀ j, j < k → p j = false) (h1 : p k = true) : (List.range n).find? p = some k := by
  rw [List.find?_eq_some_iff_getElem]
  refine ⟨h1, k, by simpa using hk, by simp, fun j hj => ?_⟩
  simp [h0 j hj]
theorem find_range_none (n : Nat) (p : Nat → Bool) (h0 : ∀ j, j < n → p j = false) : (List.range n).find? p = none := by
  rw [List.find?_eq_none]
  intro x hx
  simp [h0 x (List.mem_range.1 hx)]
theorem findIdx_some (l : List In) (p : In → Bool) (k : Nat) (hk : k < l.length) (h0 : ∀ j, j < k → p (l.getD j ⟨0, 0⟩) = false) (h1 : p (l.getD k ⟨0, 0⟩) = true) : l.findIdx? p = some k := by
  rw [List.findIdx?_eq_some_iff_getElem]
  have e : ∀ j (h : j < l.length), l.getD j ⟨0, 0⟩ = l[j] := fun j h => by rw [List.getD, List.getElem?_eq_getElem h]; rfl
  refine ⟨hk, by rw [← e k hk]; exact h1, fun j hj => ?_⟩
  rw [← e j (by omega), h0 j hj]; simp
theorem findIdx_none (l : List In) (p : In → Bool) (h0 : ∀ j, j < l.length → p (l.getD j ⟨0, 0⟩) = false) : l.findIdx? p = none := by
  rw [List.findIdx?_eq_none_iff]
  intro x hx
  obtain ⟨j, hj, rfl⟩ := List.getElem_of_mem hx
  have := h0 j hj
  rwa [List.getD, List.getElem?_eq_getElem hj] at this

/-- Is a place wrong by its depths? -/
def badD (code : List In) (k : Nat) : Bool :=
  let d := (depths code).getD k ⟨2, 0⟩
  d.ways != 1 || decide (d.deep < took (code.getD k ⟨0, 0⟩)) || decide (256 ≤ d.deep)

section
variable {c : Co} {p : Pr}
theorem bad_much (h : 4096 < p.code.length) : badAt c p = (2, 0) := by unfold badAt; rw [if_pos h]
theorem bad_form (h : p.code.length ≤ 4096) (h2 : p.params < 0 ∨ 256 < p.params ∨ p.code = []) : badAt c p = (80, 0) := by unfold badAt; rw [if_neg (by omega), if_pos h2]
theorem bad_fit (h : p.code.length ≤ 4096) (h2 : ¬ (p.params < 0 ∨ 256 < p.params ∨ p.code = [])) (k : Nat) (hk : k < p.code.length) (h0 : ∀ j, j < k → fits c p.code.length (p.code.getD j ⟨0, 0⟩) = true) (h1 : fits c p.code.length (p.code.getD k ⟨0, 0⟩) = false) : badAt c p = (80, k) := by
  unfold badAt
  rw [if_neg (by omega), if_neg h2, findIdx_some p.code _ k hk (fun j hj => by rw [h0 j hj]; rfl) (by rw [h1]; rfl)]
theorem bad_last (h : p.code.length ≤ 4096) (h2 : ¬ (p.params < 0 ∨ 256 < p.params ∨ p.code = [])) (h0 : ∀ j, j < p.code.length → fits c p.code.length (p.code.getD j ⟨0, 0⟩) = true) (hl : (p.code.getLastD ⟨0, 0⟩).op ≠ 12 ∧ (p.code.getLastD ⟨0, 0⟩).op ≠ 11 ∧ (p.code.getLastD ⟨0, 0⟩).op ≠ 8) : badAt c p = (80, p.code.length - 1) := by
  unfold badAt
  rw [if_neg (by omega), if_neg h2, findIdx_none p.code _ (fun j hj => by rw [h0 j hj]; rfl)]
  dsimp only
  rw [if_pos hl]
theorem bad_deep (h : p.code.length ≤ 4096) (h2 : ¬ (p.params < 0 ∨ 256 < p.params ∨ p.code = [])) (h0 : ∀ j, j < p.code.length → fits c p.code.length (p.code.getD j ⟨0, 0⟩) = true) (hl : ¬ ((p.code.getLastD ⟨0, 0⟩).op ≠ 12 ∧ (p.code.getLastD ⟨0, 0⟩).op ≠ 11 ∧ (p.code.getLastD ⟨0, 0⟩).op ≠ 8))
    (k : Nat) (hk : k < p.code.length) (hb : ∀ j, j < k → badD p.code j = false) (h1 : badD p.code k = true) : badAt c p = (80, k) := by
  unfold badAt
  rw [if_neg (by omega), if_neg h2, findIdx_none p.code _ (fun j hj => by rw [h0 j hj]; rfl)]
  dsimp only
  rw [if_neg hl]
  have := find_range p.code.length (badD p.code) k hk hb h1
  unfold badD at this
  rw [this]
theorem bad_not (h : p.code.length ≤ 4096) (h2 : ¬ (p.params < 0 ∨ 256 < p.params ∨ p.code = [])) (h0 : ∀ j, j < p.code.length → fits c p.code.length (p.code.getD j ⟨0, 0⟩) = true) (hl : ¬ ((p.code.getLastD ⟨0, 0⟩).op ≠ 12 ∧ (p.code.getLastD ⟨0, 0⟩).op ≠ 11 ∧ (p.code.getLastD ⟨0, 0⟩).op ≠ 8))
    (hb : ∀ j, j < p.code.length → badD p.code j = false) : badAt c p = (0, 0) := by
  unfold badAt
  rw [if_neg (by omega), if_neg h2, findIdx_none p.code _ (fun j hj => by rw [h0 j hj]; rfl)]
  dsimp only
  rw [if_neg hl]
  have := find_range_none p.code.length (badD p.code) hb
  unfold badD at this
  rw [this]

theorem fit_of (hc : c.consts.length ≤ 1024 ∧ c.globals.length ≤ 64 ∧ c.procs.length ≤ 256) (h : p.code.length ≤ 4096) (h0 : ∀ j, j < p.code.length → fits c p.code.length (p.code.getD j ⟨0, 0⟩) = true) : ∀ i ∈ p.code, Fit p.code.length i := by
  intro i him
  obtain ⟨j, hj, rfl⟩ := List.getElem_of_mem him
  have := h0 j hj
  rw [List.getD, List.getElem?_eq_getElem hj] at this
  simp only [Option.getD_some] at this
  generalize p.code[j] = x at this
  unfold fits isOp lo Cd.hi at this
  simp only [Bool.and_eq_true, decide_eq_true_eq] at this
  obtain ⟨ho, h1, h2⟩ := this
  refine ⟨ho, ?_, fun e => ?_, fun e => ?_⟩
  · split at h1 <;> (repeat' split at h2) <;> omega
  · rw [if_pos e] at h1
    rw [if_neg (by omega), if_neg (by omega), if_neg (by omega), if_neg (by omega), if_neg (by omega), if_pos e] at h2
    exact ⟨h1, h2⟩
  · rw [if_neg (by omega), if_neg (by omega), if_neg (by omega), if_neg (by omega), if_pos e] at h2
    omega
end
end Cd
end Go.Proofs.YticaipedpcmhfaaDoor
