/- Layer 19, an end in LocksInOrder: the tables beside the book. -/
import Derived.Test.YtkfdoocmapjkbaaDoorLkOP
import Derived.Test.YtkfdoocmapjkbaaDoorLkO2
import Derived.Test.YtkfdoocmapjkbaaDoorHpTab
namespace Go.Proofs.YtkfdoocmapjkbaaDoor
open Go.RowKit Hp
namespace Lk
variable {w w' W : World} {B : Nat} {m m' : Bk} {F G : List Nat} {ro : Value} {rvs : List Value}

/-- Whose end each of five threads waits for. -/
def jf (m : Bk) (i : Nat) : Int := if 1 ≤ i ∧ i ≤ 5 then (m.th (i : Int)).fin else 0
def jmid (m : Bk) (t : Int) (k i : Nat) : Int := if i < k ∧ jf m i = t then 0 else jf m i
def gmid (m : Bk) (t : Int) (k i : Nat) : Bool := wokeB m t 3 i || (decide (i < k) && (jf m i == t))
def jV (f : Nat → Int) (i : Nat) : Value := .int .i64 (f i)
def gV (f : Nat → Bool) (i : Nat) : Value := .bool (f i)
def wantL (f : Nat → Bool) (k : Nat) : List Int := ((List.range k).map (fun (i : Nat) => (i : Int) + 1)).filter (fun t => f t.toNat)

theorem wantL_zero (f : Nat → Bool) : wantL f 0 = [] := rfl
theorem wantL_yes (f : Nat → Bool) (k : Nat) (h : f (k + 1) = true) : wantL f (k + 1) = wantL f k ++ [(k : Int) + 1] := by
  have : ((k : Int) + 1).toNat = k + 1 := by omega
  simp [wantL, List.range_succ, List.filter_append, List.filter_cons, this, h]
theorem wantL_no (f : Nat → Bool) (k : Nat) (h : f (k + 1) = false) : wantL f (k + 1) = wantL f k := by
  have : ((k : Int) + 1).toNat = k + 1 := by omega
  simp [wantL, List.range_succ, List.filter_append, List.filter_cons, this, h]
theorem wantL_len (f : Nat → Bool) (k : Nat) : (wantL f k).length ≤ k := by
  refine Nat.le_trans (List.length_filter_le _ _) (by simp)

theorem jmid_zero (m : Bk) (t : Int) (i : Nat) : jmid m t 0 i = jf m i := by simp [jmid]
theorem jmid_one (m : Bk) (t : Int) (ht : 1 ≤ t) (i : Nat) : jmid m t 1 i = jf m i := by
  unfold jmid
  by_cases h : i < 1
  · have : jf m i = 0 := by unfold jf; rw [if_neg (by omega)]
    rw [this]; simp
  · rw [if_neg (fun c => h c.1)]
theorem jmid_at (m : Bk) (t : Int) (k : Nat) : jmid m t k k = jf m k := by simp [jmid]
theorem jmid_yes (m : Bk) (t : Int) (k i : Nat) (h : jf m k = t) : jmid m t (k + 1) i = if i = k then 0 else jmid m t k i := by
  unfold jmid
  by_cases e : i = k
  · subst e; rw [if_pos rfl, if_pos ⟨by omega, h⟩]
  · rw [if_neg e]
    by_cases c : i < k ∧ jf m i = t
    · rw [if_pos c, if_pos ⟨by omega, c.2⟩]
    · rw [if_neg c, if_neg (fun h => c ⟨by omega, h.2⟩)]
theorem jmid_no (m : Bk) (t : Int) (k i : Nat) (h : jf m k ≠ t) : jmid m t (k + 1) i = jmid m t k i := by
  unfold jmid
  by_cases c : i < k ∧ jf m i = t
  · rw [if_pos c, if_pos ⟨by omega, c.2⟩]
  · rw [if_neg c, if_neg (fun h' => c ⟨by
      have : i ≠ k := fun e => by subst e; exact h h'.2
      have := h'.1; omega, h'.2⟩)]
theorem gmid_one (m : Bk) (t : Int) (ht : 1 ≤ t) (i : Nat) : gmid m t 1 i = wokeB m t 3 i := by
  unfold gmid
  by_cases h : i < 1
  · have : jf m i = 0 := by unfold jf; rw [if_neg (by omega)]
    rw [this]
    have : ((0 : Int) == t) = false := by simp; omega
    simp [this]
  · simp [h]
theorem gmid_yes (m : Bk) (t : Int) (k i : Nat) (h : jf m k = t) : gmid m t (k + 1) i = if i = k then true else gmid m t k i := by
  unfold gmid
  by_cases e : i = k
  · subst e; simp [h]
  · rw [if_neg e]
    have : decide (i < k + 1) = decide (i < k) := by simp; omega
    rw [this]
theorem gmid_no (m : Bk) (t : Int) (k i : Nat) (h : jf m k ≠ t) : gmid m t (k + 1) i = gmid m t k i := by
  unfold gmid
  by_cases e : i = k
  · subst e; simp [h]
  · have : decide (i < k + 1) = decide (i < k) := by simp; omega
    rw [this]

theorem woke_yes (m : Bk) (t a : Int) (k i : Nat) (r : List Int) (ho : (m.lo (k : Int)).ho = t) (hr : (m.lo (k : Int)).row = a :: r) (ha : 1 ≤ a) :
    wokeB m t (k + 1) i = if i = a.toNat then true else wokeB m t k i := by
  rw [wokeB_succ]
  by_cases e : i = a.toNat
  · have : a = (i : Int) := by omega
    rw [if_pos e, hr]; simp [ho, this]
  · rw [if_neg e, hr]
    have : ¬ a = (i : Int) := by omega
    simp [this]
theorem woke_empty (m : Bk) (t : Int) (k i : Nat) (hr : (m.lo (k : Int)).row = []) : wokeB m t (k + 1) i = wokeB m t k i := by
  rw [wokeB_succ, hr]; simp
theorem woke_other (m : Bk) (t : Int) (k i : Nat) (ho : (m.lo (k : Int)).ho ≠ t) : wokeB m t (k + 1) i = wokeB m t k i := by
  rw [wokeB_succ]; simp [ho]
theorem woke_zero (m : Bk) (t : Int) (i : Int) : wokeB m t 0 i = false := rfl

theorem jf_end {m : Bk} (ok : Ok m) {n : Int} (x e : Int) (hn : m.is n = true) (hg : (m.th n).goes = true) (h5 : m.ths.length = 5) (i : Nat) : jf (endM m n x e) i = jmid m n 6 i := by
  unfold jmid jf
  by_cases c : 1 ≤ i ∧ i ≤ 5
  · rw [if_pos c, if_pos c, end_fin ok x e hn hg i (by rw [is_iff, h5]; omega)]
    by_cases hf : (m.th (i : Int)).fin = n
    · rw [if_pos hf, if_pos ⟨by omega, hf⟩]
    · rw [if_neg hf, if_neg (fun h => hf h.2)]
  · rw [if_neg c, if_neg c]
    split <;> rfl

theorem endOut_want {m : Bk} (ok : Ok m) {n : Int} (x e : Int) (hn : m.is n = true) (hg : (m.th n).goes = true) (h5 : m.ths.length = 5) (h3 : m.lks.length = 3) : endOut m n x e = wantL (gmid m n 6) 5 := by
  rw [endOut_eq ok x e hn hg, h5, h3]
  unfold wantL
  refine List.filter_congr (fun t ht => ?_)
  have := (mem_rising _ _).1 ht
  have e1 : ((t.toNat : Nat) : Int) = t := by omega
  unfold gmid jf
  rw [if_pos (by omega), e1]
  have : decide (t.toNat < 6) = true := by simp; omega
  rw [this]; simp

theorem rowsE_no (m : Bk) (n : Int) (k : Nat) (hk : k < m.lks.length) (h : (m.lo (k : Int)).ho ≠ n) : rowsE m n (k + 1) = rowsE m n k := by rw [rowsE_succ m n k hk, if_neg h]
theorem rowsE_yes (m : Bk) (n : Int) (k : Nat) (hk : k < m.lks.length) (h : (m.lo (k : Int)).ho = n) : rowsE m n (k + 1) = (rowsE m n k).set k (m.lo (k : Int)).row.tail := by rw [rowsE_succ m n k hk, if_pos h]
theorem rowsE_at (m : Bk) (n : Int) (k : Nat) (hk : k < m.lks.length) : (rowsE m n k).getD k [] = (m.lo (k : Int)).row := by
  rw [rowsE_get m n k k hk, if_neg (fun h => by omega)]
theorem rowsE_empty (m : Bk) (n : Int) (k : Nat) (hk : k < m.lks.length) (h : (m.lo (k : Int)).row = []) : rowsE m n (k + 1) = rowsE m n k := by
  by_cases c : (m.lo (k : Int)).ho = n
  · rw [rowsE_yes m n k hk c, h]
    have := set_getD (rowsE m n k) k []
    rw [rowsE_at m n k hk, h] at this
    exact this
  · exact rowsE_no m n k hk c
end Lk
end Go.Proofs.YtkfdoocmapjkbaaDoor
