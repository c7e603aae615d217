/- A slice of slices of things of several cells, told by functions: how many, which; and what a book that gives each list marks of its own, and lets each grow, leaves of it. -/
import Derived.Test.YtkepcdbogeineaaGreatDoorHpAp
import Derived.Deep.AppendLies
namespace Go.Proofs.YtkepcdbogeineaaGreatDoor
open Go.RowKit
namespace Hp

/-- n things, the j-th laid as the cells c j. -/
def vals (n : Nat) (c : Nat → List Value) : List Value := (List.range n).flatMap c

section
variable {n sz : Nat} {c c' : Nat → List Value}
theorem vals_succ (n : Nat) (c : Nat → List Value) : vals (n + 1) c = vals n c ++ c n := by
  unfold vals; rw [List.range_succ, List.flatMap_append]; simp
theorem vals_len (h : ∀ j, (c j).length = sz) : (vals n c).length = n * sz := by
  unfold vals; rw [flat_length c sz h]; simp
theorem vals_get (h : ∀ j, (c j).length = sz) (j r : Nat) (hj : j < n) (hr : r < sz) : (vals n c)[j * sz + r]? = (c j)[r]? := by
  unfold vals
  rw [flat_get c sz h _ j r (by simpa using hj) hr]
  simp
theorem vals_congr (h : ∀ j, j < n → c' j = c j) : vals n c' = vals n c := by
  unfold vals
  rw [List.flatMap_def, List.flatMap_def]
  congr 1
  exact List.map_congr_left (fun j hj => h j (List.mem_range.1 hj))
theorem vals_take (h : ∀ j, (c j).length = sz) {m : Nat} (hn : n ≤ m) : (vals m c).take (n * sz) = vals n c := by
  unfold vals
  rw [flat_take c sz h, List.take_range, Nat.min_eq_left hn]
theorem vals_set (h : ∀ j, (c j).length = sz) (i r : Nat) (hi : i < n) (hr : r < sz) (x : Value) : (vals n c).set (i * sz + r) x = vals n (fun j => if j = i then (c j).set r x else c j) := by
  induction n with
  | zero => omega
  | succ n ih =>
    rw [vals_succ, vals_succ]
    by_cases e : i = n
    · subst e
      rw [List.set_append_right _ _ (by rw [vals_len h]; omega), vals_len h, if_pos rfl]
      congr 1
      · exact (vals_congr (fun j hj => by rw [if_neg (by omega)])).symm
      · congr 1; omega
    · have hlt : i < n := by omega
      have : (i + 1) * sz ≤ n * sz := Nat.mul_le_mul_right _ hlt
      rw [Nat.add_mul] at this
      rw [List.set_append_left _ _ (by rw [vals_len h]; omega), ih hlt, if_neg (fun q => e q.symm)]
end

/-- N slices (elements of type ti, sz cells each) in a slice (elements of type te): the i-th has n i elements, told by c i. -/
structure FamV (te ti : TypeId) (sz : Nat) (W : World) (ro : Value) (rvs : List Value) (N : Nat) (n : Nat → Nat) (c : Nat → Nat → List Value) (V : List Nat) : Prop where
  top : Row W te 1 ro N rvs
  rows : ∀ i, i < N → Row W ti sz (rvs.getD i undef) (n i) (vals (n i) (c i))
  cl : ∀ i j, (c i j).length = sz
  apart : ∀ i j, i < N → j < N → i ≠ j → ∀ x ∈ blk (rvs.getD i undef), x ∉ blk (rvs.getD j undef)
  topIn : ∀ x ∈ blk ro, x ∈ V
  rowIn : ∀ i, i < N → ∀ x ∈ blk (rvs.getD i undef), x ∈ V

section
variable {te ti : TypeId} {sz : Nat} {W W' : World} {ro : Value} {rvs : List Value} {N : Nat} {n : Nat → Nat} {c c' : Nat → Nat → List Value} {V : List Nat}

theorem FamV.frame {F : List Nat} (h : FamV te ti sz W ro rvs N n c V) (hs : Same F W W') (hd : ∀ x ∈ V, x ∉ F) : FamV te ti sz W' ro rvs N n c V :=
  ⟨h.top.frame hs (fun x hx => hd x (h.topIn x hx)), fun i hi => (h.rows i hi).frame hs (fun x hx => hd x (h.rowIn i hi x hx)), h.cl, h.apart, h.topIn, h.rowIn⟩

theorem FamV.congr (h : FamV te ti sz W ro rvs N n c V) (hl : ∀ i j, (c' i j).length = sz) (hc : ∀ i j, i < N → j < n i → c' i j = c i j) : FamV te ti sz W ro rvs N n c' V :=
  ⟨h.top, fun i hi => by rw [vals_congr (fun j hj => hc i j hi hj)]; exact h.rows i hi, hl, h.apart, h.topIn, h.rowIn⟩

theorem FamV.len (h : FamV te ti sz W ro rvs N n c V) : rvs.length = N := by have := h.top.1; omega

/-- The i-th slice, where it lies in the great one. -/
theorem FamV.at_ (h : FamV te ti sz W ro rvs N n c V) (i : Nat) (hi : i < N) : ∃ g off cap, ro = .slice (some ⟨g, off, none⟩) N cap ∧ g < W.heap.size ∧ g ∈ V ∧ W.cell? ⟨g, off + i, none⟩ = some (rvs.getD i undef) := by
  obtain ⟨g, off, cap, e, _, hl, hc, _⟩ := h.top.at_ (by omega)
  refine ⟨g, off, cap, e, hl, h.topIn g (by rw [e]; simp [blk]), ?_⟩
  have := hc i (by omega)
  have hl := h.len
  rw [List.getElem?_eq_getElem (by omega)] at this
  rw [this, List.getD_eq_getElem?_getD, List.getElem?_eq_getElem (by omega)]; rfl

/-- A store of one cell into one of the slices. -/
theorem FamV.put (h : FamV te ti sz W ro rvs N n c V) (hne : te ≠ ti) (i j r : Nat) (hi : i < N) (hj : j < n i) (hr : r < sz) (g o cap : Nat) (he : rvs.getD i undef = .slice (some ⟨g, o, none⟩) (n i) cap) (x : Value) :
    FamV te ti sz (W.setCell ⟨g, o + (j * sz + r), none⟩ x) ro rvs N n (fun a b => if a = i ∧ b = j then (c a b).set r x else c a b) V := by
  have hs : Same [g] W (W.setCell ⟨g, o + (j * sz + r), none⟩ x) := (Same.refl _ _).setCell (by simp) _
  have hg : g ∈ blk (rvs.getD i undef) := by rw [he]; simp [blk]
  have hlt : j * sz + r < n i * sz := by
    have : (j + 1) * sz ≤ n i * sz := Nat.mul_le_mul_right _ hj
    rw [Nat.add_mul] at this
    omega
  refine ⟨h.top.frame hs (fun y hy hm => ?_), fun a ha => ?_, fun a b => ?_, h.apart, h.topIn, h.rowIn⟩
  · rw [List.mem_singleton.1 hm] at hy
    exact h.top.ne (h.rows i hi) hne g hy hg
  · by_cases e : a = i
    · subst e
      have hr2 := h.rows a ha
      rw [he] at hr2 ⊢
      have := hr2.set (j * sz + r) hlt x
      rw [vals_set (h.cl a) j r hj hr] at this
      rw [vals_congr (c' := fun b => if a = a ∧ b = j then (c a b).set r x else c a b) (c := fun b => if b = j then (c a b).set r x else c a b) (fun b _ => by simp)]
      exact this
    · rw [vals_congr (c' := fun b => if a = i ∧ b = j then (c a b).set r x else c a b) (c := c a) (fun b _ => by simp [e])]
      refine (h.rows a ha).frame hs (fun y hy hm => ?_)
      rw [List.mem_singleton.1 hm] at hy
      exact h.apart a i ha hi e g hy hg
  · by_cases e : a = i ∧ b = j
    · rw [if_pos e, List.length_set]; exact h.cl a b
    · rw [if_neg e]; exact h.cl a b
/-- A store of a thing of one cell, of two cells. -/
theorem FamV.put1 (h : FamV te ti 1 W ro rvs N n c V) (hne : te ≠ ti) (i j : Nat) (hi : i < N) (hj : j < n i) (g o cap : Nat) (he : rvs.getD i undef = .slice (some ⟨g, o, none⟩) (n i) cap) (x : Value) :
    FamV te ti 1 (W.setCell ⟨g, o + j, none⟩ x) ro rvs N n (fun a b => if a = i ∧ b = j then [x] else c a b) V := by
  have h1 := h.put hne i j 0 hi hj (by omega) g o cap he x
  rw [Nat.mul_one, Nat.add_zero] at h1
  refine h1.congr (fun a b => ?_) (fun a b _ _ => ?_)
  · by_cases e : a = i ∧ b = j
    · rw [if_pos e]; rfl
    · rw [if_neg e]; exact h.cl a b
  · by_cases e : a = i ∧ b = j
    · rw [if_pos e, if_pos e]
      have := h.cl a b
      match hm : c a b, this with
      | [y], _ => rfl
    · rw [if_neg e, if_neg e]
theorem FamV.put2 (h : FamV te ti 2 W ro rvs N n c V) (hne : te ≠ ti) (i j : Nat) (hi : i < N) (hj : j < n i) (g o cap : Nat) (he : rvs.getD i undef = .slice (some ⟨g, o, none⟩) (n i) cap) (x y : Value) :
    FamV te ti 2 ((W.setCell ⟨g, o + j * 2, none⟩ x).setCell ⟨g, o + j * 2 + 1, none⟩ y) ro rvs N n (fun a b => if a = i ∧ b = j then [x, y] else c a b) V := by
  have h1 := h.put hne i j 0 hi hj (by omega) g o cap he x
  rw [Nat.add_zero] at h1
  have h2 := h1.put hne i j 1 hi hj (by omega) g o cap he y
  rw [← Nat.add_assoc] at h2
  refine h2.congr (fun a b => ?_) (fun a b _ _ => ?_)
  · by_cases e : a = i ∧ b = j
    · rw [if_pos e]; rfl
    · rw [if_neg e]; exact h.cl a b
  · by_cases e : a = i ∧ b = j
    · rw [if_pos e, if_pos e, if_pos e]
      have := h.cl a b
      match hm : c a b, this with
      | [u, v], _ => rfl
    · rw [if_neg e, if_neg e, if_neg e]
end

/-- Its cells, each by its thing. -/
theorem vals_cells {ti : TypeId} {sz : Nat} {W : World} {v : Value} {n : Nat} {c : Nat → List Value} (h : Row W ti sz v n (vals n c)) (hl : ∀ j, (c j).length = sz) (hn : 0 < n) :
    ∃ g off cap, v = .slice (some ⟨g, off, none⟩) n cap ∧ n ≤ cap ∧ g < W.heap.size ∧ (∀ k r, k < n → r < sz → W.cell? ⟨g, off + k * sz + r, none⟩ = (c k)[r]?) ∧ ∀ j, W.frozen? ⟨g, j, none⟩ = false := by
  obtain ⟨g, off, cap, e, h1, h2, h3, h4⟩ := h.at_ hn
  refine ⟨g, off, cap, e, h1, h2, fun k r hk hr => ?_, h4⟩
  have hlt : k * sz + r < n * sz := by
    have : (k + 1) * sz ≤ n * sz := Nat.mul_le_mul_right _ hk
    rw [Nat.add_mul] at this
    omega
  rw [Nat.add_assoc, h3 _ hlt, vals_get hl k r hk hr]
theorem vals_cells1 {ti : TypeId} {W : World} {v : Value} {n : Nat} {c : Nat → List Value} (h : Row W ti 1 v n (vals n c)) (hl : ∀ j, (c j).length = 1) (hn : 0 < n) :
    ∃ g off cap, v = .slice (some ⟨g, off, none⟩) n cap ∧ n ≤ cap ∧ g < W.heap.size ∧ (∀ k, k < n → W.cell? ⟨g, off + k, none⟩ = (c k)[0]?) ∧ ∀ j, W.frozen? ⟨g, j, none⟩ = false := by
  obtain ⟨g, off, cap, e, h1, h2, h3, h4⟩ := vals_cells h hl hn
  exact ⟨g, off, cap, e, h1, h2, fun k hk => by have := h3 k 0 hk (by omega); rwa [Nat.mul_one, Nat.add_zero] at this, h4⟩

/-- A literal list of one thing, just laid. -/
theorem cells1_new (W : World) (x : Value) (t : TypeId) : ∀ j u, [x][j]? = some u → (W.alloc (.cells #[x] t)).cell? ((⟨W.heap.size, 0, none⟩ : Addr).add j) = some u := World.news_of_block (Blk.new W t [x])
theorem cells2_new (W : World) (x y : Value) (t : TypeId) : ∀ j u, [x, y][j]? = some u → (W.alloc (.cells #[x, y] t)).cell? ((⟨W.heap.size, 0, none⟩ : Addr).add j) = some u := World.news_of_block (Blk.new W t [x, y])

/-- What each list holds: its marks, then what it grew by. -/
def grown (mk gw : Nat → Nat → List Value) (n i k : Nat) : List Value := if k < n then mk i k else gw i (k - n)
section
variable {mk gw : Nat → Nat → List Value} {sz : Nat}
theorem grown_lo {n i k : Nat} (h : k < n) : grown mk gw n i k = mk i k := by unfold grown; rw [if_pos h]
theorem grown_hi (n i k : Nat) : grown mk gw n i (n + k) = gw i k := by
  unfold grown; rw [if_neg (by omega)]; congr 1; omega
theorem grown_len (h1 : ∀ i k, (mk i k).length = sz) (h2 : ∀ i k, (gw i k).length = sz) (n i k : Nat) : (grown mk gw n i k).length = sz := by
  unfold grown; split
  · exact h1 _ _
  · exact h2 _ _
end

/-- The lists grown, so far. -/
structure Lgv (te ti : TypeId) (sz : Nat) (mk gw : Nat → Nat → List Value) (w0 : Nat) (wr : World) (ro : Value) (rvs : List Value) (N : Nat) (n : Nat → Nat) (V : List Nat) (i : Nat) (lo : Value) (lvs : List Value) : Prop where
  f : FamV te ti sz wr ro rvs N n mk V
  hl : ∀ i k, (gw i k).length = sz
  ne : te ≠ ti
  top : Row wr te 1 lo i lvs
  topN : ∀ x ∈ blk lo, w0 ≤ x
  rows : ∀ a, a < i → Row wr ti sz (lvs.getD a undef) (n a + 16) (vals (n a + 16) (grown mk gw (n a) a))
  own : ∀ a, a < i → ∀ x ∈ blk (lvs.getD a undef), x ∈ blk (rvs.getD a undef) ∨ w0 ≤ x
  apart : ∀ a b, a < i → b < i → a ≠ b → ∀ x ∈ blk (lvs.getD a undef), x ∉ blk (lvs.getD b undef)

/-- The i-th list, grown by k. -/
structure Lxv (te ti : TypeId) (sz : Nat) (mk gw : Nat → Nat → List Value) (w0 : Nat) (wr : World) (ro : Value) (rvs : List Value) (N : Nat) (n : Nat → Nat) (V : List Nat) (i : Nat) (lo : Value) (lvs : List Value) (k : Nat) (x : Value) : Prop where
  l : Lgv te ti sz mk gw w0 wr ro rvs N n V i lo lvs
  row : Row wr ti sz x (n i + k) (vals (n i + k) (grown mk gw (n i) i))
  at_ : (∃ A C, rvs.getD i undef = .slice A (n i) C ∧ x = .slice A (n i + k) C) ∨ ∀ y ∈ blk x, w0 ≤ y
  off : ∀ a, a < i → ∀ y ∈ blk x, y ∉ blk (lvs.getD a undef)

section
variable {te ti : TypeId} {sz : Nat} {mk gw : Nat → Nat → List Value} {ro : Value} {rvs : List Value} {N : Nat} {n : Nat → Nat} {V : List Nat} {w0 : Nat} {wr w1 : World} {lo x x' : Value} {lvs : List Value} {i k : Nat}

theorem Lgv.frame {F : List Nat} (h : Lgv te ti sz mk gw w0 wr ro rvs N n V i lo lvs) (hs : Same F wr w1) (hd : ∀ x ∈ V, x ∉ F) (hw : ∀ x ∈ F, x < w0) : Lgv te ti sz mk gw w0 w1 ro rvs N n V i lo lvs := by
  refine ⟨h.f.frame hs hd, h.hl, h.ne, h.top.frame hs (fun y hy hm => by have := hw y hm; have := h.topN y hy; omega), h.topN, fun a ha => ?_, h.own, h.apart⟩
  by_cases haN : a < N
  · refine (h.rows a ha).frame hs (fun y hy hm => ?_)
    rcases h.own a ha y hy with h1 | h1
    · exact hd y (h.f.rowIn a haN y h1) hm
    · have := hw y hm; omega
  · have hn : rvs.getD a undef = undef := by
      rw [List.getD_eq_getElem?_getD, List.getElem?_eq_none (by rw [h.f.len]; omega)]; rfl
    refine (h.rows a ha).frame hs (fun y hy hm => ?_)
    rcases h.own a ha y hy with h1 | h1
    · rw [hn] at h1; simp [undef, blk] at h1
    · have := hw y hm; omega

theorem Lxv.frame {F : List Nat} (h : Lxv te ti sz mk gw w0 wr ro rvs N n V i lo lvs k x) (hs : Same F wr w1) (hi : i < N) (hd : ∀ x ∈ V, x ∉ F) (hw : ∀ x ∈ F, x < w0) : Lxv te ti sz mk gw w0 w1 ro rvs N n V i lo lvs k x := by
  refine ⟨h.l.frame hs hd hw, h.row.frame hs (fun y hy hm => ?_), h.at_, h.off⟩
  rcases h.at_ with ⟨A, C, e1, e2⟩ | h1
  · have : y ∈ blk (rvs.getD i undef) := by
      rw [e1]; rw [e2] at hy
      cases A with
      | none => exact hy
      | some a => exact hy
    exact hd y (h.l.f.rowIn i hi y this) hm
  · have := h1 y hy; have := hw y hm; omega

theorem Lxv.own (h : Lxv te ti sz mk gw w0 wr ro rvs N n V i lo lvs k x) : ∀ y ∈ blk x, y ∈ blk (rvs.getD i undef) ∨ w0 ≤ y := fun y hy => by
  rcases h.at_ with ⟨A, C, e1, e2⟩ | h
  · left
    rw [e1]
    rw [e2] at hy
    cases A with
    | none => exact hy
    | some a => exact hy
  · exact .inr (h y hy)

theorem Lgv.start (h : Lgv te ti sz mk gw w0 wr ro rvs N n V i lo lvs) (hi : i < N) (hV : ∀ x ∈ V, x < w0) : Lxv te ti sz mk gw w0 wr ro rvs N n V i lo lvs 0 (rvs.getD i undef) := by
  obtain ⟨A, C, e, -, -, -⟩ := (h.f.rows i hi).form
  refine ⟨h, ?_, .inl ⟨A, C, e, e⟩, fun a ha y hy hm => ?_⟩
  · have := h.f.rows i hi
    rw [Nat.add_zero, vals_congr (c := mk i) (fun j hj => grown_lo hj)]
    exact this
  · rcases h.own a ha y hm with h1 | h1
    · exact h.f.apart i a hi (by omega) (by omega) y hy h1
    · have := hV y (h.f.rowIn i hi y hy); omega

/-- Nothing of what is told is touched by an append to x. -/
theorem Lgv.keep {F : List Nat} (h : Lgv te ti sz mk gw w0 wr ro rvs N n V i lo lvs) (hs : Same F wr w1) (hro : ∀ y ∈ blk ro, y ∉ F) (hlo : ∀ y ∈ blk lo, y ∉ F) (hr : ∀ a, a < N → a ≠ i → ∀ y ∈ blk (rvs.getD a undef), y ∉ F)
    (hri : Row w1 ti sz (rvs.getD i undef) (n i) (vals (n i) (mk i))) (hl : ∀ a, a < i → ∀ y ∈ blk (lvs.getD a undef), y ∉ F) : Lgv te ti sz mk gw w0 w1 ro rvs N n V i lo lvs :=
  ⟨⟨h.f.top.frame hs hro, fun a ha => by
      by_cases e : a = i
      · subst e; exact hri
      · exact (h.f.rows a ha).frame hs (hr a ha e), h.f.cl, h.f.apart, h.f.topIn, h.f.rowIn⟩,
    h.hl, h.ne, h.top.frame hs hlo, h.topN, fun a ha => (h.rows a ha).frame hs (hl a ha), h.own, h.apart⟩

theorem Lxv.step (h : Lxv te ti sz mk gw w0 wr ro rvs N n V i lo lvs k x) (hi : i < N) (hV : ∀ y ∈ V, y < w0) (hw : w0 ≤ wr.heap.size) (hr : Row w1 ti sz x' (n i + k + 1) (vals (n i + (k + 1)) (grown mk gw (n i) i)))
    (hc : (∃ A C, x = .slice A (n i + k) C ∧ x' = .slice A (n i + k + 1) C) ∧ Same (blk x) wr w1 ∨ Same [] wr w1 ∧ ∀ y ∈ blk x', wr.heap.size ≤ y) :
    Lxv te ti sz mk gw w0 w1 ro rvs N n V i lo lvs (k + 1) x' := by
  have hblk : ∀ (A : Option Addr) (a b c d : Nat), blk (.slice A a b) = blk (.slice A c d) := fun A a b c d => by cases A <;> rfl
  have hlr := h.l.f.rows i hi
  have hgl := grown_len (mk := mk) (gw := gw) h.l.f.cl h.l.hl
  rcases hc with ⟨⟨A, C, e1, e2⟩, hs⟩ | ⟨hs, hnew⟩
  · have hbx : blk x' = blk x := by rw [e1, e2]; exact hblk A _ _ _ _
    have hrow : Row w1 ti sz (rvs.getD i undef) (n i) (vals (n i) (mk i)) := by
      rcases h.at_ with ⟨A2, C2, q1, q2⟩ | hn
      · rw [q2] at e1
        injection e1 with a1 _ a3
        subst a1 a3
        rw [e2] at hr
        have hr2 : Row w1 ti sz (.slice A2 (n i + k + 1) C2) (n i + k + 1) (vals (n i + (k + 1)) (grown mk gw (n i) i)) := hr
        have := hr2.pre (k := n i) (by omega)
        rw [vals_take (hgl _ _) (by omega), vals_congr (c := mk i) (fun j hj => grown_lo hj)] at this
        rw [q1]; exact this
      · refine hlr.frame hs (fun y hy hm => ?_)
        have := hn y hm
        have := hV y (h.l.f.rowIn i hi y hy)
        omega
    refine ⟨h.l.keep hs (fun y hy hm => ?_) (fun y hy hm => ?_) (fun a ha hne y hy hm => ?_) hrow (fun a ha y hy hm => h.off a ha y hm hy), hr, ?_, fun a ha y hy => by rw [hbx] at hy; exact h.off a ha y hy⟩
    · exact h.l.f.top.ne h.row h.l.ne y hy hm
    · exact h.l.top.ne h.row h.l.ne y hy hm
    · rcases h.own y hm with h1 | h1
      · exact h.l.f.apart a i ha hi hne y hy h1
      · have := hV y (h.l.f.rowIn a ha y hy); omega
    · rcases h.at_ with ⟨A2, C2, q1, q2⟩ | hn
      · rw [q2] at e1
        injection e1 with a1 _ a3
        subst a1 a3
        exact .inl ⟨_, _, q1, e2⟩
      · exact .inr (fun y hy => hn y (by rw [← hbx]; exact hy))
  · refine ⟨h.l.keep hs (by simp) (by simp) (by simp) (hlr.frame hs (by simp)) (by simp), hr, .inr (fun y hy => Nat.le_trans hw (hnew y hy)), fun a ha y hy hm => ?_⟩
    have := hnew y hy
    have := (h.l.rows a ha).lt y hm
    omega

/-- It is laid to the grown ones. -/
theorem Lxv.done {lo' : Value} (h : Lxv te ti sz mk gw w0 wr ro rvs N n V i lo lvs 16 x) (hi : i < N) (hV : ∀ y ∈ V, y < w0) (hw : w0 ≤ wr.heap.size) (hr : Row w1 te 1 lo' (i + 1) (lvs ++ [x])) (hs : Same (blk lo) wr w1) (hb : ∀ y ∈ blk lo', y ∈ blk lo ∨ wr.heap.size ≤ y) :
    Lgv te ti sz mk gw w0 w1 ro rvs N n V (i + 1) lo' (lvs ++ [x]) := by
  have hlen : lvs.length = i := by have := h.l.top.1; omega
  have g1 : ∀ a, a < i → (lvs ++ [x]).getD a undef = lvs.getD a undef := fun a ha => by
    simp only [List.getD_eq_getElem?_getD]; rw [List.getElem?_append_left (by omega)]
  have g2 : (lvs ++ [x]).getD i undef = x := by
    simp only [List.getD_eq_getElem?_getD]; rw [List.getElem?_append_right (by omega)]; simp [hlen]
  have far : ∀ {m : Nat} {v : Value} {xs : List Value}, Row wr ti sz v m xs → ∀ y ∈ blk v, y ∉ blk lo := fun hr y hy hm => h.l.top.ne hr h.l.ne y hm hy
  refine ⟨⟨h.l.f.top.frame hs (fun y hy hm => ?_), fun a ha => (h.l.f.rows a ha).frame hs (far (h.l.f.rows a ha)), h.l.f.cl, h.l.f.apart, h.l.f.topIn, h.l.f.rowIn⟩, h.l.hl, h.l.ne, hr, fun y hy => ?_, fun a ha => ?_, fun a ha y hy => ?_, fun a b ha hb' hab y hy hm => ?_⟩
  · have := h.l.topN y hm
    have := hV y (h.l.f.topIn y hy)
    omega
  · rcases hb y hy with h1 | h1
    · exact h.l.topN y h1
    · omega
  · by_cases e : a = i
    · subst e; rw [g2]; exact h.row.frame hs (far h.row)
    · rw [g1 a (by omega)]; exact (h.l.rows a (by omega)).frame hs (far (h.l.rows a (by omega)))
  · by_cases e : a = i
    · subst e; rw [g2] at hy; exact h.own y hy
    · rw [g1 a (by omega)] at hy; exact h.l.own a (by omega) y hy
  · by_cases e : a = i
    · subst e
      rw [g2] at hy
      rw [g1 b (by omega)] at hm
      exact h.off b (by omega) y hy hm
    · rw [g1 a (by omega)] at hy
      by_cases e2 : b = i
      · subst e2
        rw [g2] at hm
        exact h.off a (by omega) y hm hy
      · rw [g1 b (by omega)] at hm
        exact h.l.apart a b (by omega) (by omega) hab y hy hm
end
/-- Lists that lie in a slice: the value of each, with its elements' cells. -/
structure FamL (te ti : TypeId) (sz : Nat) (W : World) (ro : Value) (ls : List (Value × List (List Value))) : Prop where
  top : Row W te 1 ro ls.length (ls.map (·.1))
  rows : ∀ p ∈ ls, Row W ti sz p.1 p.2.length p.2.flatten
  cl : ∀ p ∈ ls, ∀ x ∈ p.2, x.length = sz
  apart : ls.Pairwise (fun p q => ∀ x ∈ blk p.1, x ∉ blk q.1)

/-- Their blocks. -/
def famB (ro : Value) (ls : List (Value × List (List Value))) : List Nat := blk ro ++ ls.flatMap (fun p => blk p.1)

theorem vals_list (l : List (List Value)) (z : List Value) : vals l.length (fun j => l.getD j z) = l.flatten := by
  unfold vals
  rw [List.flatMap_def]
  congr 1
  apply List.ext_getElem (by simp)
  intro i h1 h2
  simp [List.getD_eq_getElem?_getD, h2]

section
variable {te ti te' ti' : TypeId} {sz sz' : Nat} {W w1 : World} {ro ro' : Value} {ls ls' : List (Value × List (List Value))}

theorem FamL.nil (te ti : TypeId) (sz : Nat) (W : World) : FamL te ti sz W (.slice none 0 0) [] :=
  ⟨Row.nil _ _ _, fun p hp => (by cases hp), fun p hp => (by cases hp), List.Pairwise.nil⟩

theorem FamL.frame {F : List Nat} (h : FamL te ti sz W ro ls) (hs : Same F W w1) (hd : ∀ x ∈ famB ro ls, x ∉ F) : FamL te ti sz w1 ro ls :=
  ⟨h.top.frame hs (fun x hx => hd x (List.mem_append_left _ hx)), fun p hp => (h.rows p hp).frame hs (fun x hx => hd x (List.mem_append_right _ (List.mem_flatMap.2 ⟨p, hp, hx⟩))), h.cl, h.apart⟩

theorem FamL.lt (h : FamL te ti sz W ro ls) : ∀ x ∈ famB ro ls, x < W.heap.size := fun x hx => by
  rcases List.mem_append.1 hx with h1 | h1
  · exact h.top.lt x h1
  · obtain ⟨p, hp, hx⟩ := List.mem_flatMap.1 h1
    exact (h.rows p hp).lt x hx

theorem FamL.fam (h : FamL te ti sz W ro ls) : FamV te ti sz W ro (ls.map (·.1)) ls.length (fun i => (ls.getD i (undef, [])).2.length) (fun i j => (ls.getD i (undef, [])).2.getD j (List.replicate sz undef)) (famB ro ls) := by
  have g1 : ∀ i (hi : i < ls.length), (ls.map (·.1)).getD i undef = ls[i].1 := fun i hi => by simp [List.getD_eq_getElem?_getD, hi]
  have g2 : ∀ i (hi : i < ls.length), ls.getD i (undef, []) = ls[i] := fun i hi => by simp [List.getD_eq_getElem?_getD, hi]
  refine ⟨h.top, fun i hi => ?_, fun i j => ?_, fun i j hi hj hij x hx hm => ?_, fun x hx => List.mem_append_left _ hx, fun i hi x hx => ?_⟩
  · rw [g1 i hi, g2 i hi, vals_list]
    exact h.rows _ (List.getElem_mem _)
  · simp only [List.getD_eq_getElem?_getD]
    by_cases hi : i < ls.length
    · rw [List.getElem?_eq_getElem hi]
      by_cases hj : j < ls[i].2.length
      · simp only [Option.getD_some, List.getElem?_eq_getElem hj]
        exact h.cl _ (List.getElem_mem hi) _ (List.getElem_mem hj)
      · simp only [Option.getD_some, List.getElem?_eq_none (Nat.le_of_not_lt hj), Option.getD_none, List.length_replicate]
    · rw [List.getElem?_eq_none (Nat.le_of_not_lt hi)]
      simp
  · rw [g1 i hi] at hx
    rw [g1 j hj] at hm
    have hp := List.pairwise_iff_getElem.1 h.apart
    rcases Nat.lt_or_gt_of_ne hij with h1 | h1
    · exact hp i j hi hj h1 x hx hm
    · exact hp j i hj hi h1 x hm hx
  · rw [g1 i hi] at hx
    exact List.mem_append_right _ (List.mem_flatMap.2 ⟨_, List.getElem_mem hi, hx⟩)

/-- A list more. -/
theorem FamL.add (h : FamL te ti sz W ro ls) (hne : te ≠ ti) (p : Value × List (List Value)) (hs : Same (blk ro) W w1) (ht : Row w1 te 1 ro' (ls.length + 1) (ls.map (·.1) ++ [p.1])) (hp : Row W ti sz p.1 p.2.length p.2.flatten) (hc : ∀ x ∈ p.2, x.length = sz) (ha : ∀ q ∈ ls, ∀ x ∈ blk q.1, x ∉ blk p.1) :
    FamL te ti sz w1 ro' (ls ++ [p]) := by
  refine ⟨by simpa using ht, fun q hq => ?_, fun q hq => ?_, ?_⟩
  · have hr : Row W ti sz q.1 q.2.length q.2.flatten := by
      rcases List.mem_append.1 hq with h1 | h1
      · exact h.rows q h1
      · rw [List.mem_singleton.1 h1]; exact hp
    exact hr.frame hs (fun x hx hm => h.top.ne hr hne x hm hx)
  · rcases List.mem_append.1 hq with h1 | h1
    · exact h.cl q h1
    · rw [List.mem_singleton.1 h1]; exact hc
  · rw [List.pairwise_append]
    exact ⟨h.apart, List.pairwise_singleton _ _, fun q hq r hr => by rw [List.mem_singleton.1 hr]; exact ha q hq⟩

/-- Families of different types lie apart. -/
theorem FamL.off (h : FamL te ti sz W ro ls) (h' : FamL te' ti' sz' W ro' ls') (n1 : te ≠ te') (n2 : te ≠ ti') (n3 : ti ≠ te') (n4 : ti ≠ ti') : ∀ x ∈ famB ro ls, x ∉ famB ro' ls' := by
  intro x hx hm
  rcases List.mem_append.1 hx with h1 | h1
  · rcases List.mem_append.1 hm with h2 | h2
    · exact h.top.ne h'.top n1 x h1 h2
    · obtain ⟨q, hq, h2⟩ := List.mem_flatMap.1 h2
      exact h.top.ne (h'.rows q hq) n2 x h1 h2
  · obtain ⟨p, hp, h1⟩ := List.mem_flatMap.1 h1
    rcases List.mem_append.1 hm with h2 | h2
    · exact (h.rows p hp).ne h'.top n3 x h1 h2
    · obtain ⟨q, hq, h2⟩ := List.mem_flatMap.1 h2
      exact (h.rows p hp).ne (h'.rows q hq) n4 x h1 h2
theorem FamL.off_row {v : Value} {m : Nat} {xs : List Value} (h : FamL te ti sz W ro ls) (h' : Row W te' sz' v m xs) (n1 : te ≠ te') (n2 : ti ≠ te') : ∀ x ∈ famB ro ls, x ∉ blk v := by
  intro x hx hm
  rcases List.mem_append.1 hx with h1 | h1
  · exact h.top.ne h' n1 x h1 hm
  · obtain ⟨p, hp, h1⟩ := List.mem_flatMap.1 h1
    exact (h.rows p hp).ne h' n2 x h1 hm
theorem FamL.off_blk {b : Nat} {t : TypeId} {cs : List Value} (h : FamL te ti sz W ro ls) (h' : Blk W b t cs) (n1 : te ≠ t) (n2 : ti ≠ t) : b ∉ famB ro ls := by
  intro hx
  rcases List.mem_append.1 hx with h1 | h1
  · exact h.top.ne_blk h' n1 b h1 rfl
  · obtain ⟨p, hp, h1⟩ := List.mem_flatMap.1 h1
    exact (h.rows p hp).ne_blk h' n2 b h1 rfl
end
end Hp
end Go.Proofs.YtkepcdbogeineaaGreatDoor
