/- A slice of slices in memory, its rows apart from one another: own lemmas. -/
import Derived.Test.YtkfdoocmapjkbaaDoorHp
namespace Go.Proofs.YtkfdoocmapjkbaaDoor
open Go.RowKit
namespace Hp

theorem ll_getD_set_ne {α : Type} (l : List α) (i j : Nat) (x d : α) (h : i ≠ j) : (l.set i x).getD j d = l.getD j d := by
  simp [List.getD, List.getElem?_set_ne h]
theorem ll_getD_set_eq {α : Type} (l : List α) (i : Nat) (x d : α) (h : i < l.length) : (l.set i x).getD i d = x := by
  simp [List.getD, h]

/-- 'ro' is a slice (elements of type te) of the slices rvs, whose elements (type ti, 'size' cells each) are told by enc; G holds all its blocks. -/
structure LL {α : Type} (enc : α → List Value) (te ti size : Nat) (W : World) (ro : Value) (rvs : List Value) (ls : List (List α)) (G : List Nat) : Prop where
  top : Row W te 1 ro ls.length rvs
  rows : ∀ i, i < ls.length → Row W ti size (rvs.getD i undef) (ls.getD i []).length ((ls.getD i []).flatMap enc)
  apart : ∀ i j, i < ls.length → j < ls.length → i ≠ j → ∀ k ∈ blk (rvs.getD i undef), k ∉ blk (rvs.getD j undef)
  topIn : ∀ k ∈ blk ro, k ∈ G
  rowIn : ∀ i, i < ls.length → ∀ k ∈ blk (rvs.getD i undef), k ∈ G
  lt : ∀ k ∈ G, k < W.heap.size

section
variable {α : Type} {enc : α → List Value} {te ti size : Nat} {W W' : World} {ro : Value} {rvs : List Value} {ls : List (List α)} {G : List Nat}

theorem LL.len (h : LL enc te ti size W ro rvs ls G) : rvs.length = ls.length := by have := h.top.1; omega

theorem LL.frame {F : List Nat} (h : LL enc te ti size W ro rvs ls G) (hs : Same F W W') (hd : ∀ k ∈ G, k ∉ F) : LL enc te ti size W' ro rvs ls G :=
  ⟨h.top.frame hs (fun k hk => hd k (h.topIn k hk)), fun i hi => (h.rows i hi).frame hs (fun k hk => hd k (h.rowIn i hi k hk)), h.apart, h.topIn, h.rowIn, fun k hk => Nat.lt_of_lt_of_le (h.lt k hk) hs.size⟩

theorem LL.nil (W : World) : LL enc te ti size W (.slice none 0 0) [] [] [] :=
  ⟨Row.nil _ _ _, fun i hi => by simp at hi, fun i j hi => by simp at hi, by simp [blk], fun i hi => by simp at hi, by simp⟩

/-- The i-th slice's own cell. -/
theorem LL.at_ (h : LL enc te ti size W ro rvs ls G) (i : Nat) (hi : i < ls.length) (hne : te ≠ ti) : ∃ g off cap, ro = .slice (some ⟨g, off, none⟩) ls.length cap ∧ g < W.heap.size ∧ g ∈ G ∧
    W.cell? ⟨g, off + i, none⟩ = some (rvs.getD i undef) ∧ (∀ j, W.frozen? ⟨g, j, none⟩ = false) ∧ (∀ j, j < ls.length → ∀ k ∈ blk (rvs.getD j undef), k ≠ g) ∧
    (∀ W1 v row', Same (blk (rvs.getD i undef)) W W1 → (∀ k ∈ blk v, k ∈ blk (rvs.getD i undef) ∨ W.heap.size ≤ k) → Row W1 ti size v row'.length (row'.flatMap enc) →
      LL enc te ti size (W1.setCell ⟨g, off + i, none⟩ v) ro (rvs.set i v) (ls.set i row') (G ++ blk v)) := by
  obtain ⟨g, off, cap, hro, hcap, hlt, hc, hfr⟩ := h.top.at_ (by omega)
  have hg : g ∈ blk ro := by rw [hro]; simp [blk]
  have hir : i < rvs.length := by rw [h.len]; exact hi
  have far : ∀ j, j < ls.length → ∀ k ∈ blk (rvs.getD j undef), k ≠ g := fun j hj k hk e => by
    subst e; exact h.top.ne (h.rows j hj) hne _ hg hk
  have hcell : W.cell? ⟨g, off + i, none⟩ = some (rvs.getD i undef) := by
    rw [hc i (by omega)]
    simp [List.getD, hir]
  refine ⟨g, off, cap, hro, hlt, h.topIn g hg, hcell, hfr, far, fun W1 v row' hs hv hr => ?_⟩
  have hsv : Same (g :: blk (rvs.getD i undef)) W (W1.setCell ⟨g, off + i, none⟩ v) := (hs.mono (fun x hx => .inl (List.mem_cons_of_mem _ hx))).setCell (by simp) v
  have htop1 : Row W1 te 1 ro ls.length rvs := h.top.frame hs (fun k hk hm => h.top.ne (h.rows i hi) hne k hk hm)
  refine ⟨?_, fun j hj => ?_, fun a b ha hb hab k hk hm => ?_, fun k hk => by simp [h.topIn k hk], fun j hj k hk => ?_, fun k hk => ?_⟩
  · rw [hro] at htop1 ⊢
    have := htop1.set i (by omega) v
    simpa using this
  · have hj' : j < ls.length := by simpa using hj
    by_cases e : i = j
    · subst e
      rw [ll_getD_set_eq _ _ _ _ hir, ll_getD_set_eq _ _ _ _ hi]
      refine hr.setOther (fun hm => ?_) v
      rcases hv g hm with h1 | h1
      · exact far i hi g h1 rfl
      · omega
    · rw [ll_getD_set_ne _ _ _ _ _ e, ll_getD_set_ne _ _ _ _ _ e]
      refine (h.rows j hj').frame hsv (fun k hk hm => ?_)
      rcases List.mem_cons.1 hm with hm | hm
      · exact far j hj' k hk hm
      · exact h.apart j i hj' hi (fun x => e x.symm) k hk hm
  · have ha' : a < ls.length := by simpa using ha
    have hb' : b < ls.length := by simpa using hb
    by_cases e : i = a
    · subst e
      rw [ll_getD_set_eq _ _ _ _ hir] at hk
      rw [ll_getD_set_ne _ _ _ _ _ hab] at hm
      rcases hv k hk with h1 | h1
      · exact h.apart _ b hi hb' hab k h1 hm
      · have := (h.rows b hb').lt k hm; omega
    · rw [ll_getD_set_ne _ _ _ _ _ e] at hk
      by_cases e2 : i = b
      · subst e2
        rw [ll_getD_set_eq _ _ _ _ hir] at hm
        rcases hv k hm with h1 | h1
        · exact h.apart a _ ha' hi hab k hk h1
        · have := (h.rows a ha').lt k hk; omega
      · rw [ll_getD_set_ne _ _ _ _ _ e2] at hm
        exact h.apart a b ha' hb' hab k hk hm
  · have hj' : j < ls.length := by simpa using hj
    by_cases e : i = j
    · subst e; rw [ll_getD_set_eq _ _ _ _ hir] at hk; simp [hk]
    · rw [ll_getD_set_ne _ _ _ _ _ e] at hk; simp [h.rowIn j hj' k hk]
  · simp only [World.size_setCell]
    rcases List.mem_append.1 hk with hk | hk
    · exact Nat.lt_of_lt_of_le (h.lt k hk) hs.size
    · exact hr.lt k hk

/-- One row more, by append. -/
theorem LL.snoc (h : LL enc te ti size W ro rvs ls G) (hne : te ≠ ti) {W1 : World} {ro' v : Value} {l : List α} (hrow : Row W ti size v l.length (l.flatMap enc)) (hv : ∀ k ∈ blk v, k ∉ G)
    (htop : Row W1 te 1 ro' (ls.length + 1) (rvs ++ [v])) (hs : Same (blk ro) W W1) (hb : ∀ k ∈ blk ro', k ∈ blk ro ∨ W.heap.size ≤ k) :
    LL enc te ti size W1 ro' (rvs ++ [v]) (ls ++ [l]) (G ++ (blk ro' ++ blk v)) := by
  have hlen := h.len
  have hget : ∀ j, j < ls.length → (rvs ++ [v]).getD j undef = rvs.getD j undef ∧ (ls ++ [l]).getD j [] = ls.getD j [] := fun j hj => by
    simp only [List.getD_eq_getElem?_getD]
    rw [List.getElem?_append_left (by omega), List.getElem?_append_left hj]
    exact ⟨rfl, rfl⟩
  have hlast : (rvs ++ [v]).getD ls.length undef = v ∧ (ls ++ [l]).getD ls.length [] = l := by
    simp only [List.getD_eq_getElem?_getD]
    rw [List.getElem?_append_right (by omega), List.getElem?_append_right (Nat.le_refl _)]
    simp [hlen]
  have hvt : ∀ k ∈ blk v, k ∉ blk ro := fun k hk hm => hv k hk (h.topIn k hm)
  refine ⟨by simpa using htop, fun j hj => ?_, fun a b ha hb' hab k hk hm => ?_, fun k hk => by simp [hk], fun j hj k hk => ?_, fun k hk => ?_⟩
  · by_cases e : j < ls.length
    · obtain ⟨e1, e2⟩ := hget j e
      rw [e1, e2]
      exact (h.rows j e).frame hs (fun k hk hm => h.top.ne (h.rows j e) hne k hm hk)
    · have : j = ls.length := by simp at hj; omega
      subst this
      rw [hlast.1, hlast.2]
      exact hrow.frame hs hvt
  · have ha' : a < ls.length ∨ a = ls.length := by simp at ha; omega
    have hb'' : b < ls.length ∨ b = ls.length := by simp at hb'; omega
    rcases ha' with ha' | rfl
    · rw [(hget a ha').1] at hk
      rcases hb'' with hb'' | rfl
      · rw [(hget b hb'').1] at hm
        exact h.apart a b ha' hb'' hab k hk hm
      · rw [hlast.1] at hm
        exact hv k hm (h.rowIn a ha' k hk)
    · rw [hlast.1] at hk
      rcases hb'' with hb'' | rfl
      · rw [(hget b hb'').1] at hm
        exact hv k hk (h.rowIn b hb'' k hm)
      · exact hab rfl
  · by_cases e : j < ls.length
    · rw [(hget j e).1] at hk; simp [h.rowIn j e k hk]
    · have : j = ls.length := by simp at hj; omega
      subst this
      rw [hlast.1] at hk; simp [hk]
  · simp only [List.mem_append] at hk
    rcases hk with hk | hk | hk
    · exact Nat.lt_of_lt_of_le (h.lt k hk) hs.size
    · exact htop.lt k hk
    · exact Nat.lt_of_lt_of_le (hrow.lt k hk) hs.size
end
end Hp
end Go.Proofs.YtkfdoocmapjkbaaDoor
