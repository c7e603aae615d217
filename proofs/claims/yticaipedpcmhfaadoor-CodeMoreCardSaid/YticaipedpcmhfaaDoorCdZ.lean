/- Layer 8, the plain side: a procedure more, a constant more. -/
import Derived.Test.YticaipedpcmhfaaDoorCd
namespace Go.Proofs.YticaipedpcmhfaaDoor
namespace Cd

/-- A procedure in which nothing is wrong, where bounds are as wide. -/
theorem GoodP.wider {c d : Co} {p : Pr} (g : GoodP c p) (h1 : c.consts.length ≤ d.consts.length) (h2 : c.globals.length ≤ d.globals.length) (h3 : c.procs.length ≤ d.procs.length) : GoodP d p := by
  refine ⟨g.len, g.params, g.some, fun j hj => ?_, g.last, g.deep⟩
  have := g.fit j hj
  unfold fits at this ⊢
  rw [Bool.and_eq_true] at this ⊢
  refine ⟨this.1, ?_⟩
  have h := of_decide_eq_true this.2
  refine decide_eq_true ⟨h.1, Int.le_trans h.2 ?_⟩
  unfold hi
  repeat' split
  all_goals omega

theorem GoodP.not {c : Co} {p : Pr} (g : GoodP c p) : badAt c p = (0, 0) :=
  bad_not g.len (fun h => by
    rcases h with h | h | h
    · have := g.params.1; omega
    · have := g.params.2; omega
    · exact g.some h) g.fit (by have := g.last; omega) g.deep

/-- What is wrong with a procedure hangs on the lists' lengths alone. -/
theorem badAt_len {c d : Co} (p : Pr) (h1 : c.consts.length = d.consts.length) (h2 : c.globals.length = d.globals.length) (h3 : c.procs.length = d.procs.length) : badAt c p = badAt d p := by
  have hh : ∀ op n, hi c op n = hi d op n := fun op n => by unfold hi; rw [h1, h2, h3]
  have hf : ∀ n i, fits c n i = fits d n i := fun n i => by unfold fits; rw [hh]
  unfold badAt
  simp only [hf]

theorem named_of {c : Co} (h1 : ∀ x ∈ c.consts, isWord x = true ∧ wordT x ≠ 8) (h2 : ∀ s ∈ c.globals, sym s = true) (h3 : ∀ i, i < c.globals.length → Lib.containsS (c.globals.take i) (c.globals.getD i ByteArray.empty) = false) : named sym c = true := by
  unfold named
  rw [Bool.and_eq_true, Bool.and_eq_true]
  refine ⟨⟨List.all_eq_true.2 fun x hx => ?_, List.all_eq_true.2 h2⟩, List.all_eq_true.2 fun i hi => ?_⟩
  · rw [Bool.and_eq_true]
    exact ⟨(h1 x hx).1, by simpa using (h1 x hx).2⟩
  · rw [h3 i (List.mem_range.1 hi)]; rfl

/-- Check of code whose constants and globals may be: the first procedure that is wrong. -/
theorem check_named {c : Co} (hl : c.consts.length ≤ 1024 ∧ c.globals.length ≤ 64 ∧ c.procs.length ≤ 256) (hs : c.procs ≠ []) (hn : named sym c = true) :
    check sym c = match (List.range c.procs.length).find? (fun k => (badAt c (c.procs.getD k ⟨0, []⟩)).1 != 0) with
      | some k => ((badAt c (c.procs.getD k ⟨0, []⟩)).1, k, (badAt c (c.procs.getD k ⟨0, []⟩)).2)
      | none => (0, 0, 0) := by
  conv => lhs; unfold check
  rw [if_neg (by omega), if_neg (fun h => by
    rcases h with h | h
    · exact hs h
    · rw [hn] at h; cases h)]
  rfl

theorem check_good {c : Co} (hl : c.consts.length ≤ 1024 ∧ c.globals.length ≤ 64 ∧ c.procs.length ≤ 256) (hs : c.procs ≠ []) (hn : named sym c = true) (hp : ∀ p ∈ c.procs, (badAt c p).1 = 0) : check sym c = (0, 0, 0) := by
  rw [check_named hl hs hn, find_range_none _ _ (fun j hj => by
    have := hp (c.procs.getD j ⟨0, []⟩) (by rw [List.getD, List.getElem?_eq_getElem hj]; exact List.getElem_mem _)
    rw [this]; rfl)]

/-- Constants as they were, or with one more that may be. -/
structure Wider (c : Co) (cs : List Int) : Prop where
  len : cs.length ≤ 1024
  more : c.consts.length ≤ cs.length
  ok : ∀ x ∈ cs, isWord x = true ∧ wordT x ≠ 8

theorem GoodC.named' {c : Co} (g : GoodC c) {cs : List Int} (h : Wider c cs) (ps : List Pr) : named sym ⟨cs, c.globals, ps⟩ = true := named_of h.ok g.globals g.apart

theorem check_one {c : Co} (g : GoodC c) {cs : List Int} (h : Wider c cs) : check sym ⟨cs, c.globals, c.procs⟩ = (0, 0, 0) :=
  check_good ⟨h.len, g.lens.2⟩ g.some (g.named' h _) (fun p hp => by
    have := ((g.procs p hp).wider (d := ⟨cs, c.globals, c.procs⟩) h.more (Nat.le_refl _) (Nat.le_refl _)).not
    rw [this])

/-- A procedure more: it may be just if it may be by itself, where as many are; and if not, it is the one that is told. -/
theorem check_more {c : Co} (g : GoodC c) {cs : List Int} (h : Wider c cs) (p : Pr) (hn : c.procs.length < 256) :
    ((check sym ⟨cs, c.globals, List.replicate (c.procs.length + 1) p⟩).1 = 0 ↔ (check sym ⟨cs, c.globals, c.procs ++ [p]⟩).1 = 0) ∧
    ((check sym ⟨cs, c.globals, c.procs ++ [p]⟩).1 = 0 ∨ (check sym ⟨cs, c.globals, c.procs ++ [p]⟩).2.1 = c.procs.length) := by
  have hlA : (⟨cs, c.globals, List.replicate (c.procs.length + 1) p⟩ : Co).procs.length = c.procs.length + 1 := by simp
  have hlB : (⟨cs, c.globals, c.procs ++ [p]⟩ : Co).procs.length = c.procs.length + 1 := by simp
  have hbad : badAt ⟨cs, c.globals, List.replicate (c.procs.length + 1) p⟩ p = badAt ⟨cs, c.globals, c.procs ++ [p]⟩ p := badAt_len p rfl rfl (by rw [hlA, hlB])
  have hA := check_named (c := ⟨cs, c.globals, List.replicate (c.procs.length + 1) p⟩) ⟨h.len, g.lens.2.1, by rw [hlA]; omega⟩ (by simp) (g.named' h _)
  have hB := check_named (c := ⟨cs, c.globals, c.procs ++ [p]⟩) ⟨h.len, g.lens.2.1, by rw [hlB]; omega⟩ (by simp) (g.named' h _)
  rw [hlA] at hA
  rw [hlB] at hB
  have hgA : ∀ j, j < c.procs.length + 1 → (List.replicate (c.procs.length + 1) p).getD j ⟨0, []⟩ = p := fun j hj => by
    rw [List.getD, List.getElem?_replicate, if_pos hj]; rfl
  have hgB : ∀ j, j < c.procs.length → (c.procs ++ [p]).getD j ⟨0, []⟩ = c.procs.getD j ⟨0, []⟩ := fun j hj => by
    rw [List.getD, List.getD, List.getElem?_append_left hj]
  have hgL : (c.procs ++ [p]).getD c.procs.length ⟨0, []⟩ = p := by
    rw [List.getD, List.getElem?_append_right (Nat.le_refl _)]; simp
  have hok : ∀ j, j < c.procs.length → (badAt ⟨cs, c.globals, c.procs ++ [p]⟩ ((c.procs ++ [p]).getD j ⟨0, []⟩)).1 = 0 := fun j hj => by
    rw [hgB j hj]
    have hm : c.procs.getD j ⟨0, []⟩ ∈ c.procs := by rw [List.getD, List.getElem?_eq_getElem hj]; exact List.getElem_mem _
    have := ((g.procs _ hm).wider (d := ⟨cs, c.globals, c.procs ++ [p]⟩) h.more (Nat.le_refl _) (by rw [hlB]; omega)).not
    rw [this]
  by_cases hz : (badAt ⟨cs, c.globals, c.procs ++ [p]⟩ p).1 = 0
  · have eA : (check sym ⟨cs, c.globals, List.replicate (c.procs.length + 1) p⟩).1 = 0 := by
      rw [hA, find_range_none _ _ (fun j hj => by dsimp only; rw [hgA j hj, hbad, hz]; rfl)]
    have eB : (check sym ⟨cs, c.globals, c.procs ++ [p]⟩).1 = 0 := by
      rw [hB, find_range_none _ _ (fun j hj => by
        dsimp only
        rcases Nat.lt_or_eq_of_le (Nat.le_of_lt_succ hj) with hj | hj
        · rw [hok j hj]; rfl
        · rw [hj, hgL, hz]; rfl)]
    exact ⟨⟨fun _ => eB, fun _ => eA⟩, .inl eB⟩
  · have eA : (check sym ⟨cs, c.globals, List.replicate (c.procs.length + 1) p⟩).1 ≠ 0 := by
      rw [hA, find_range (c.procs.length + 1) _ 0 (by omega) (fun j hj => by omega) (by dsimp only; rw [hgA 0 (by omega), hbad]; simpa using hz)]
      dsimp only
      rw [hgA 0 (by omega), hbad]
      exact hz
    have eB := hB
    rw [find_range (c.procs.length + 1) _ c.procs.length (by omega) (fun j hj => by dsimp only; rw [hok j hj]; rfl) (by dsimp only; rw [hgL]; simpa using hz)] at eB
    dsimp only at eB
    rw [hgL] at eB
    refine ⟨⟨fun e => absurd e eA, fun e => ?_⟩, .inr (by rw [eB])⟩
    rw [eB] at e
    exact absurd e hz
end Cd
end Go.Proofs.YticaipedpcmhfaaDoor
