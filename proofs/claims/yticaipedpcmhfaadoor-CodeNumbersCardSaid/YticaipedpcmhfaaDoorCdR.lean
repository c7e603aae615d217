/- Layer 8, the plain side: the rounds keep it: who is done has told all behind it. -/
import Derived.Test.YticaipedpcmhfaaDoorCdQ
namespace Go.Proofs.YticaipedpcmhfaaDoor
namespace Cd

theorem comes_inv {code : List In} {s : List De × List Nat} {at_ : Nat} {d : De} {skip : Nat → Prop} (hl : at_ < s.1.length) (h : Inv code s skip) : Inv code (comes s at_ d) skip := fun i hi hw ht hs j hj => by
  obtain ⟨e, hm⟩ := comes_keep hl ht
  rw [e] at hw
  exact comes_told hl ht (h i hi hw hm hs j hj)

theorem Inv.whole {code : List In} {s : List De × List Nat} {cur : Nat} (h : Inv code s (fun i => i = cur)) (hc : cur ∉ s.2 → ∀ j ∈ succs code cur, Told code s.1 cur j) : Inv code s (fun _ => False) := fun i hi hw ht _ j hj => by
  by_cases e : i = cur
  · subst e; exact hc ht j hj
  · exact h i hi hw ht e j hj

theorem round_inv {code : List In} (w : Ways code) {s : List De × List Nat} (g : Good code.length s) (hne : s.2 ≠ []) (h : Inv code s (fun _ => False)) : Inv code (round code s) (fun _ => False) := by
  obtain ⟨cur, hcur⟩ : ∃ a, a = s.2.getLastD 0 := ⟨_, rfl⟩
  have hlast : s.2.getLast hne = cur := by
    rw [hcur, List.getLastD_eq_getLast?, List.getLast?_eq_some_getLast hne]; rfl
  have hsplit : s.2.dropLast ++ [cur] = s.2 := by rw [← hlast]; exact List.dropLast_concat_getLast hne
  have hmem : cur ∈ s.2 := by rw [← hsplit]; simp
  obtain ⟨h1, h2⟩ := g.todo cur hmem
  have h3 := g.le cur
  have g' : Good code.length (s.1, s.2.dropLast) := ⟨g.len, fun i hi => g.todo i ((List.dropLast_sublist s.2).subset hi), g.le⟩
  have hi0 : Inv code (s.1, s.2.dropLast) (fun i => i = cur) := fun i hi hw ht hs j hj => h i hi hw (fun hm => by
    rw [← hsplit] at hm
    rcases List.mem_append.1 hm with hm | hm
    · exact ht hm
    · exact hs (List.mem_singleton.1 hm)) (fun f => f) j hj
  have hj := w.jump cur h1
  have hla := w.last cur h1
  obtain ⟨d, hd⟩ : ∃ d : De, d = ⟨(s.1.getD cur ⟨2, 0⟩).ways, (s.1.getD cur ⟨2, 0⟩).deep + delta code cur⟩ := ⟨_, rfl⟩
  have hdw : 1 ≤ d.ways ∧ d.ways ≤ 2 := by rw [hd]; exact ⟨h2, h3⟩
  have hl : ∀ {k}, k < code.length → k < s.1.length := fun hk => by rw [g.len]; exact hk
  unfold round
  rw [← hcur]
  dsimp only
  rw [show (⟨(s.1.getD cur ⟨2, 0⟩).ways, (s.1.getD cur ⟨2, 0⟩).deep + (puts (code.getD cur ⟨0, 0⟩) - took (code.getD cur ⟨0, 0⟩))⟩ : De) = d from hd.symm]
  split
  · rename_i c
    have ha := hj (.inl c)
    refine (comes_inv (s := (s.1, s.2.dropLast)) (hl ha) hi0).whole (fun hn j hjs => ?_)
    have : j = (code.getD cur ⟨0, 0⟩).a.toNat := by
      simp only [succs] at hjs; rw [if_pos c] at hjs; exact List.mem_singleton.1 hjs
    rw [this]
    exact comes_tells (s := (s.1, s.2.dropLast)) (hl ha) (g.le _) hd hdw hn
  · rename_i c8
    split
    · rename_i c
      refine hi0.whole (fun hn j hjs => ?_)
      simp only [succs] at hjs
      rw [if_neg c8, if_pos c] at hjs
      cases hjs
    · rename_i c
      have hb := hla c8 (fun e => c (.inr e)) (fun e => c (.inl e))
      split
      · rename_i c9
        have ha := hj (.inr c9)
        have g1 := comes_good g' (code.getD cur ⟨0, 0⟩).a.toNat d ha hdw
        have hl1 : cur + 1 < (comes (s.1, s.2.dropLast) (code.getD cur ⟨0, 0⟩).a.toNat d).1.length := by rw [g1.len]; exact hb
        have hi1 := comes_inv (d := d) (s := (s.1, s.2.dropLast)) (hl ha) hi0
        refine (comes_inv hl1 hi1).whole (fun hn j hjs => ?_)
        obtain ⟨k1, k2⟩ := comes_keep hl1 hn
        obtain ⟨k3, k4⟩ := comes_keep (s := (s.1, s.2.dropLast)) (hl ha) k2
        simp only [succs] at hjs
        rw [if_neg c8, if_neg c, if_pos c9] at hjs
        rcases List.mem_cons.1 hjs with e | e
        · rw [e]
          exact comes_told hl1 hn (comes_tells (s := (s.1, s.2.dropLast)) (hl ha) (g.le _) hd hdw k2)
        · rw [List.mem_singleton.1 e]
          exact comes_tells hl1 (g1.le _) (by rw [k3]; exact hd) hdw hn
      · rename_i c9
        refine (comes_inv (s := (s.1, s.2.dropLast)) (hl hb) hi0).whole (fun hn j hjs => ?_)
        have : j = cur + 1 := by
          simp only [succs] at hjs; rw [if_neg c8, if_neg c, if_neg c9] at hjs; exact List.mem_singleton.1 hjs
        rw [this]
        exact comes_tells (s := (s.1, s.2.dropLast)) (hl hb) (g.le _) hd hdw hn

theorem rounds_inv {code : List In} (w : Ways code) : ∀ (k : Nat) (s : List De × List Nat), Good code.length s → Inv code s (fun _ => False) → Inv code (rounds code k s) (fun _ => False)
  | 0, _, _, h => h
  | k + 1, s, g, h => by
    unfold rounds
    split
    · exact h
    · rename_i e
      exact rounds_inv w k _ (round_good w g e).1 (round_inv w g e h)

theorem start_inv {code : List In} (hn : 1 ≤ code.length) : Inv code (start code.length) (fun _ => False) := fun i hi hw ht _ j hj => by
  exfalso
  have h0 : i ≠ 0 := fun e => ht (by rw [e]; simp [start])
  obtain ⟨i', rfl⟩ : ∃ i', i = i' + 1 := ⟨i - 1, by omega⟩
  simp only [start, List.getD_eq_getElem?_getD, List.getElem?_cons_succ, List.getElem?_replicate] at hw
  rw [if_pos (by omega)] at hw
  simp at hw

/-- In the end: each place to which a way comes has told all that are behind it. -/
theorem depths_told {code : List In} (w : Ways code) (hn : 1 ≤ code.length) (i : Nat) (hi : i < code.length) (hw : 1 ≤ ((depths code).getD i ⟨2, 0⟩).ways) : ∀ j ∈ succs code i, Told code (depths code) i j :=
  rounds_inv w _ _ (start_good hn) (start_inv hn) i hi hw (by rw [depths_done w hn]; simp) (fun f => f)
end Cd
end Go.Proofs.YticaipedpcmhfaaDoor
