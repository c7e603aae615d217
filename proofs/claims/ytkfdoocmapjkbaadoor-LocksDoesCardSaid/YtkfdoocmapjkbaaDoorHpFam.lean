/- A slice of slices of numbers, told by functions: how many, which. -/
import Derived.Test.YtkfdoocmapjkbaaDoorHpLL
import Derived.Test.YtkfdoocmapjkbaaDoorHpAp
namespace Go.Proofs.YtkfdoocmapjkbaaDoor
open Go.RowKit
namespace Hp

def nums (k : IntKind) (n : Nat) (c : Nat → Int) : List Value := (List.range n).map (fun j => Value.int k (c j))
theorem nums_len (k : IntKind) (n : Nat) (c : Nat → Int) : (nums k n c).length = n := by simp [nums]
theorem nums_get (k : IntKind) (n : Nat) (c : Nat → Int) (j : Nat) (h : j < n) : (nums k n c)[j]? = some (.int k (c j)) := by
  unfold nums; rw [List.getElem?_map, List.getElem?_range h]; rfl
theorem nums_congr (k : IntKind) (n : Nat) {c c' : Nat → Int} (h : ∀ j, j < n → c' j = c j) : nums k n c' = nums k n c := by
  unfold nums; exact List.map_congr_left (fun j hj => by rw [h j (List.mem_range.1 hj)])
theorem nums_set (k : IntKind) (n : Nat) (c : Nat → Int) (i : Nat) (x : Int) : (nums k n c).set i (.int k x) = nums k n (fun j => if j = i then x else c j) := by
  unfold nums
  apply List.ext_getElem?
  intro j
  by_cases hj : j < n
  · rw [List.getElem?_map, List.getElem?_range hj]
    by_cases e : j = i
    · subst e; simp [hj]
    · rw [List.getElem?_set_ne (fun h => e h.symm), List.getElem?_map, List.getElem?_range hj]; simp [e]
  · rw [List.getElem?_eq_none (by simp; omega), List.getElem?_eq_none (by simp; omega)]
theorem nums_snoc (k : IntKind) (n : Nat) (c : Nat → Int) (x : Int) (h : c n = x) : nums k n c ++ [.int k x] = nums k (n + 1) c := by
  unfold nums; rw [List.range_succ, List.map_append, ← h]; rfl
theorem nums_take (k : IntKind) (n m : Nat) (c : Nat → Int) (h : n ≤ m) : (nums k m c).take n = nums k n c := by
  unfold nums; rw [← List.map_take, List.take_range, Nat.min_eq_left h]
theorem nums_one (k : IntKind) (n : Nat) (c : Nat → Int) : ∀ u ∈ nums k n c, u.oneCell' = true := fun u hu => by
  obtain ⟨j, _, rfl⟩ := List.mem_map.1 hu; rfl

/-- N slices (elements of type ti) in a slice (elements of type te): the i-th has n i elements, told by c i. -/
structure Fam (k : IntKind) (te ti : TypeId) (W : World) (ro : Value) (rvs : List Value) (N : Nat) (n : Nat → Nat) (c : Nat → Nat → Int) (V : List Nat) : Prop where
  top : Row W te 1 ro N rvs
  rows : ∀ i, i < N → Row W ti 1 (rvs.getD i undef) (n i) (nums k (n i) (c i))
  apart : ∀ i j, i < N → j < N → i ≠ j → ∀ x ∈ blk (rvs.getD i undef), x ∉ blk (rvs.getD j undef)
  topIn : ∀ x ∈ blk ro, x ∈ V
  rowIn : ∀ i, i < N → ∀ x ∈ blk (rvs.getD i undef), x ∈ V

section
variable {k : IntKind} {te ti : TypeId} {W W' : World} {ro : Value} {rvs : List Value} {N : Nat} {n : Nat → Nat} {c c' : Nat → Nat → Int} {V : List Nat}

theorem Fam.of {ls : List (List Int)} (h : LL (fun x => [Value.int k x]) te ti 1 W ro rvs ls V) : Fam k te ti W ro rvs ls.length (fun i => (ls.getD i []).length) (fun i j => (ls.getD i []).getD j 0) V := by
  refine ⟨h.top, fun i hi => ?_, h.apart, h.topIn, h.rowIn⟩
  have e : (ls.getD i []).flatMap (fun x => [Value.int k x]) = nums k (ls.getD i []).length (fun j => (ls.getD i []).getD j 0) := by
    generalize ls.getD i [] = l
    apply List.ext_getElem?
    intro j
    by_cases hj : j < l.length
    · rw [nums_get _ _ _ _ hj]
      have h2 := flat_get (fun x => [Value.int k x]) 1 (fun _ => rfl) l j 0 hj (by omega)
      simp only [Nat.mul_one, Nat.add_zero] at h2
      rw [h2]; simp [List.getD, hj]
    · rw [List.getElem?_eq_none (by rw [flat_length (fun x => [Value.int k x]) 1 (fun _ => rfl)]; omega), List.getElem?_eq_none (by rw [nums_len]; omega)]
  rw [← e]; exact h.rows i hi

theorem Fam.frame {F : List Nat} (h : Fam k te ti W ro rvs N n c V) (hs : Same F W W') (hd : ∀ x ∈ V, x ∉ F) : Fam k te ti W' ro rvs N n c V :=
  ⟨h.top.frame hs (fun x hx => hd x (h.topIn x hx)), fun i hi => (h.rows i hi).frame hs (fun x hx => hd x (h.rowIn i hi x hx)), h.apart, h.topIn, h.rowIn⟩

theorem Fam.congr (h : Fam k te ti W ro rvs N n c V) (hc : ∀ i j, i < N → j < n i → c' i j = c i j) : Fam k te ti W ro rvs N n c' V :=
  ⟨h.top, fun i hi => by rw [nums_congr k (n i) (fun j hj => hc i j hi hj)]; exact h.rows i hi, h.apart, h.topIn, h.rowIn⟩

theorem Fam.len (h : Fam k te ti W ro rvs N n c V) : rvs.length = N := by have := h.top.1; omega

/-- The i-th slice, where it lies in the great one. -/
theorem Fam.at_ (h : Fam k te ti W ro rvs N n c V) (i : Nat) (hi : i < N) : ∃ g off cap, ro = .slice (some ⟨g, off, none⟩) N cap ∧ g < W.heap.size ∧ g ∈ V ∧ W.cell? ⟨g, off + i, none⟩ = some (rvs.getD i undef) := by
  obtain ⟨g, off, cap, e, _, hl, hc, _⟩ := h.top.at_ (by omega)
  refine ⟨g, off, cap, e, hl, h.topIn g (by rw [e]; simp [blk]), ?_⟩
  have := hc i (by omega)
  have hl := h.len
  rw [List.getElem?_eq_getElem (by omega)] at this

  rw [this, List.getD_eq_getElem?_getD, List.getElem?_eq_getElem (by omega)]; rfl

/-- A store into one of the slices. -/
theorem Fam.put (h : Fam k te ti W ro rvs N n c V) (hne : te ≠ ti) (i j : Nat) (hi : i < N) (hj : j < n i) (g o cap : Nat) (he : rvs.getD i undef = .slice (some ⟨g, o, none⟩) (n i) cap) (x : Int) :
    Fam k te ti (W.setCell ⟨g, o + j, none⟩ (.int k x)) ro rvs N n (fun a b => if a = i ∧ b = j then x else c a b) V := by
  have hs : Same [g] W (W.setCell ⟨g, o + j, none⟩ (.int k x)) := (Same.refl _ _).setCell (by simp) _
  have hg : g ∈ blk (rvs.getD i undef) := by rw [he]; simp [blk]
  refine ⟨h.top.frame hs (fun y hy hm => ?_), fun a ha => ?_, h.apart, h.topIn, h.rowIn⟩
  · rw [List.mem_singleton.1 hm] at hy
    exact h.top.ne (h.rows i hi) hne g hy hg
  · by_cases e : a = i
    · subst e
      have hr := h.rows a ha
      rw [he] at hr ⊢
      have := hr.set j (by omega) (.int k x)
      rw [nums_set] at this
      rw [nums_congr k (n a) (c' := fun b => if a = a ∧ b = j then x else c a b) (c := fun b => if b = j then x else c a b) (fun b _ => by simp)]
      exact this
    · rw [nums_congr k (n a) (c' := fun b => if a = i ∧ b = j then x else c a b) (c := c a) (fun b _ => by simp [e])]
      refine (h.rows a ha).frame hs (fun y hy hm => ?_)
      rw [List.mem_singleton.1 hm] at hy
      exact h.apart a i ha hi e g hy hg
end
end Hp
end Go.Proofs.YtkfdoocmapjkbaaDoor
