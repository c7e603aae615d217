/- Layer 8, the plain side: in the end each place hands its depth on to those behind it. -/
import Derived.Test.YticaipedpcmhfaaDoorCdP
namespace Go.Proofs.YticaipedpcmhfaaDoor
namespace Cd

def succs (code : List In) (i : Nat) : List Nat :=
  let x := code.getD i ⟨0, 0⟩
  if x.op = 8 then [x.a.toNat] else if x.op = 12 ∨ x.op = 11 then [] else if x.op = 9 then [x.a.toNat, i + 1] else [i + 1]
def delta (code : List In) (i : Nat) : Int := puts (code.getD i ⟨0, 0⟩) - took (code.getD i ⟨0, 0⟩)
/-- Place j is told what comes from place i. -/
def Told (code : List In) (l : List De) (i j : Nat) : Prop :=
  (l.getD j ⟨2, 0⟩).ways = 2 ∨ (l.getD i ⟨2, 0⟩).ways = 1 ∧ (l.getD j ⟨2, 0⟩).ways = 1 ∧ (l.getD j ⟨2, 0⟩).deep = (l.getD i ⟨2, 0⟩).deep + delta code i
theorem Told.came {code : List In} {l : List De} {i j : Nat} (h : Told code l i j) : (l.getD j ⟨2, 0⟩).ways ≠ 0 := by
  rcases h with h | ⟨_, h, _⟩ <;> omega

/-- Whoever is done has told all behind it. -/
def Inv (code : List In) (s : List De × List Nat) (skip : Nat → Prop) : Prop :=
  ∀ i, i < code.length → 1 ≤ (s.1.getD i ⟨2, 0⟩).ways → i ∉ s.2 → ¬ skip i → ∀ j ∈ succs code i, Told code s.1 i j

theorem comes_told {code : List In} {s : List De × List Nat} {at_ : Nat} {d : De} {i j : Nat} (hl : at_ < s.1.length) (hi : i ∉ (comes s at_ d).2) (h : Told code s.1 i j) : Told code (comes s at_ d).1 i j := by
  have hc := h.came
  unfold comes at hi ⊢
  dsimp only at hi ⊢
  split at hi
  · rename_i h0
    rw [if_pos h0]
    have e1 : i ≠ at_ := fun e => hi (by simp [e])
    have e2 : j ≠ at_ := fun e => hc (by rw [e]; exact h0)
    unfold Told
    rw [getD_set _ _ _ _ _ hl, getD_set _ _ _ _ _ hl, if_neg e1, if_neg e2]
    exact h
  · rename_i h0
    rw [if_neg h0]
    split at hi
    · rename_i h1; rw [if_pos h1]; exact h
    · rename_i h1
      rw [if_neg h1]
      have e1 : i ≠ at_ := fun e => hi (by simp [e])
      unfold Told
      rw [getD_set _ _ _ _ _ hl, getD_set _ _ _ _ _ hl, if_neg e1]
      by_cases e2 : j = at_
      · left; rw [if_pos e2]
      · rw [if_neg e2]; exact h

/-- What a way leaves as it was. -/
theorem comes_keep {s : List De × List Nat} {at_ : Nat} {d : De} {i : Nat} (hl : at_ < s.1.length) (hi : i ∉ (comes s at_ d).2) : (comes s at_ d).1.getD i ⟨2, 0⟩ = s.1.getD i ⟨2, 0⟩ ∧ i ∉ s.2 := by
  unfold comes at hi ⊢
  dsimp only at hi ⊢
  split at hi
  · rename_i h0
    rw [if_pos h0]
    have e1 : i ≠ at_ := fun e => hi (by simp [e])
    exact ⟨by rw [getD_set _ _ _ _ _ hl, if_neg e1], fun h => hi (by simp [h])⟩
  · rename_i h0
    rw [if_neg h0]
    split at hi
    · rename_i h1; rw [if_pos h1]; exact ⟨rfl, hi⟩
    · rename_i h1
      rw [if_neg h1]
      have e1 : i ≠ at_ := fun e => hi (by simp [e])
      exact ⟨by rw [getD_set _ _ _ _ _ hl, if_neg e1], fun h => hi (by simp [h])⟩

/-- The place that hands its depth on tells it. -/
theorem comes_tells {code : List In} {s : List De × List Nat} {at_ cur : Nat} {d : De} (hl : at_ < s.1.length) (hle : (s.1.getD at_ ⟨2, 0⟩).ways ≤ 2) (hd : d = ⟨(s.1.getD cur ⟨2, 0⟩).ways, (s.1.getD cur ⟨2, 0⟩).deep + delta code cur⟩)
    (hw : 1 ≤ d.ways ∧ d.ways ≤ 2) (hc : cur ∉ (comes s at_ d).2) : Told code (comes s at_ d).1 cur at_ := by
  have hk := (comes_keep hl hc).1
  have hdw : d.ways = (s.1.getD cur ⟨2, 0⟩).ways := by rw [hd]
  have hdd : d.deep = (s.1.getD cur ⟨2, 0⟩).deep + delta code cur := by rw [hd]
  unfold Told
  rw [hk]
  unfold comes
  dsimp only
  split
  · rw [getD_set _ _ _ _ _ hl, if_pos rfl]
    rcases (show d.ways = 1 ∨ d.ways = 2 by omega) with h | h
    · exact .inr ⟨by omega, h, hdd⟩
    · exact .inl h
  · rename_i h0
    split
    · rename_i h1
      rcases h1 with h1 | ⟨h1, h2⟩
      · exact .inl h1
      · by_cases h3 : (s.1.getD at_ ⟨2, 0⟩).ways = 2
        · exact .inl h3
        · exact .inr ⟨by omega, by omega, by omega⟩
    · left; rw [getD_set _ _ _ _ _ hl, if_pos rfl]
end Cd
end Go.Proofs.YticaipedpcmhfaaDoor
