/- Layer 19, the plain side of an end, lock by lock. -/
import Derived.Test.YtkfdoocmapjkbaaDoorLkO2
namespace Go.Proofs.YtkfdoocmapjkbaaDoor
open Hp
namespace Lk

/-- The locks' rows behind k locks of an end of n. -/
def rowsE (m : Bk) (n : Int) (k : Nat) : List (List Int) :=
  (List.range m.lks.length).map (fun (i : Nat) => if i < k ∧ (m.lo (i : Int)).ho = n then (m.lo (i : Int)).row.tail else (m.lo (i : Int)).row)
/-- Is t told to go by one of the first k locks? -/
def wokeB (m : Bk) (n : Int) (k : Nat) (t : Int) : Bool := (List.range k).any (fun (i : Nat) => decide ((m.lo (i : Int)).ho = n) && decide ((m.lo (i : Int)).row.head? = some t))

theorem rowsE_len (m : Bk) (n : Int) (k : Nat) : (rowsE m n k).length = m.lks.length := by simp [rowsE]
theorem rowsE_get (m : Bk) (n : Int) (k i : Nat) (hi : i < m.lks.length) : (rowsE m n k).getD i [] = if i < k ∧ (m.lo (i : Int)).ho = n then (m.lo (i : Int)).row.tail else (m.lo (i : Int)).row := by
  simp only [rowsE, List.getD_eq_getElem?_getD, List.getElem?_map]
  rw [List.getElem?_range hi]; rfl
theorem rowsE_zero (m : Bk) (n : Int) : rowsE m n 0 = rowsOf m := by
  apply List.ext_getElem?
  intro i
  by_cases hi : i < m.lks.length
  · have h1 := rowsE_get m n 0 i hi
    have h2 := rowsOf_get m i hi
    simp only [List.getD_eq_getElem?_getD] at h1 h2
    rw [List.getElem?_eq_getElem (by rw [rowsE_len]; exact hi)] at h1 ⊢
    rw [List.getElem?_eq_getElem (by rw [rowsOf_len]; exact hi)] at h2 ⊢
    simp only [Option.getD_some] at h1 h2
    rw [h1, h2]; simp
  · rw [List.getElem?_eq_none (by rw [rowsE_len]; omega), List.getElem?_eq_none (by rw [rowsOf_len]; omega)]
theorem rowsE_succ (m : Bk) (n : Int) (k : Nat) (hk : k < m.lks.length) : rowsE m n (k + 1) = if (m.lo (k : Int)).ho = n then (rowsE m n k).set k (m.lo (k : Int)).row.tail else rowsE m n k := by
  apply List.ext_getElem?
  intro i
  by_cases hi : i < m.lks.length
  · have h1 := rowsE_get m n (k + 1) i hi
    have h2 := rowsE_get m n k i hi
    simp only [List.getD_eq_getElem?_getD] at h1 h2
    rw [List.getElem?_eq_getElem (by rw [rowsE_len]; exact hi)] at h1 h2
    simp only [Option.getD_some] at h1 h2
    rw [List.getElem?_eq_getElem (by rw [rowsE_len]; exact hi), h1]
    by_cases hho : (m.lo (k : Int)).ho = n
    · rw [if_pos hho]
      by_cases e : k = i
      · subst e
        rw [if_pos ⟨by omega, hho⟩]
        simp [rowsE_len, hk]
      · rw [List.getElem?_set_ne e, List.getElem?_eq_getElem (by rw [rowsE_len]; exact hi), h2]
        by_cases c : i < k ∧ (m.lo (i : Int)).ho = n
        · rw [if_pos c, if_pos ⟨by omega, c.2⟩]
        · rw [if_neg c, if_neg (fun h => c ⟨by omega, h.2⟩)]
    · rw [if_neg hho, List.getElem?_eq_getElem (by rw [rowsE_len]; exact hi), h2]
      by_cases c : i < k ∧ (m.lo (i : Int)).ho = n
      · rw [if_pos c, if_pos ⟨by omega, c.2⟩]
      · rw [if_neg c, if_neg (fun h => c ⟨by
          have : i ≠ k := fun e => by subst e; exact hho h.2
          omega, h.2⟩)]
  · have : (rowsE m n (k + 1))[i]? = none := List.getElem?_eq_none (by rw [rowsE_len]; omega)
    rw [this]
    split
    · rw [List.getElem?_eq_none (by simp [rowsE_len]; omega)]
    · rw [List.getElem?_eq_none (by rw [rowsE_len]; omega)]

theorem wokeB_succ (m : Bk) (n : Int) (k : Nat) (t : Int) : wokeB m n (k + 1) t = (wokeB m n k t || (decide ((m.lo (k : Int)).ho = n) && decide ((m.lo (k : Int)).row.head? = some t))) := by
  simp [wokeB, List.range_succ, List.any_append]

structure Same2 (m : Bk) (n : Int) (k : Nat) (q : Bk × List Int) : Prop where
  lo : ∀ j : Int, m.isL j = true → q.1.lo j = if j < (k : Int) ∧ (m.lo j).ho = n then ⟨handTo m j, (m.lo j).row.tail⟩ else m.lo j
  fin : ∀ t, m.is t = true → (q.1.th t).fin = (m.th t).fin
  out : ∀ t, m.is t = true → q.2.contains t = wokeB m n k t

theorem same2_all {m : Bk} {n : Int} (hn : m.is n = true) (h0 : Mid m n 0 (m, [])) : ∀ k, k ≤ m.lks.length → Same2 m n k (handAll m n k)
  | 0, _ => ⟨fun j hj => by
      rw [isL_iff] at hj
      rw [if_neg (fun h => by have := h.1; omega)]; rfl, fun t _ => rfl, fun t _ => rfl⟩
  | k + 1, hk => by
    have ih := same2_all hn h0 k (by omega)
    have im := mid_all hn h0 k (by omega)
    have hsuc : handAll m n (k + 1) = (if ((handAll m n k).1.lo k).ho = n then (hand (handAll m n k).1 k, if handTo (handAll m n k).1 k != 0 then (handAll m n k).2 ++ [handTo (handAll m n k).1 k] else (handAll m n k).2) else handAll m n k) := rfl
    rw [hsuc]
    generalize handAll m n k = q at *
    have hlm : m.isL (k : Int) = true := by rw [isL_iff]; omega
    have hl : q.1.isL (k : Int) = true := by rw [isL_iff, im.nl]; omega
    have hlok := ih.lo (k : Int) hlm
    rw [if_neg (fun h => by have := h.1; omega)] at hlok
    have hr : ∀ x ∈ (q.1.lo (k : Int)).row, q.1.is x = true := fun x hx => (im.ok.rowIn _ x hl hx).1
    have his : ∀ x, q.1.is x = m.is x := fun x => by simp only [Bk.is, im.nt]
    have hto : handTo q.1 (k : Int) = handTo m (k : Int) := by unfold handTo; rw [hlok]
    split
    · rename_i hho
      refine ⟨fun j hj => ?_, fun t ht => ?_, fun t ht => ?_⟩
      · have hjq : q.1.isL j = true := by rw [isL_iff] at hj ⊢; rw [im.nl]; exact hj
        dsimp only
        rw [hand_lo q.1 (k : Int) j hl hjq]
        by_cases e : j = (k : Int)
        · subst e
          rw [if_pos rfl, if_pos ⟨by push_cast; omega, by rw [← hlok]; exact hho⟩, hto, hlok]
        · rw [if_neg e, ih.lo j hj]
          by_cases c : j < (k : Int) ∧ (m.lo j).ho = n
          · rw [if_pos c, if_pos ⟨by push_cast; omega, c.2⟩]
          · rw [if_neg c, if_neg (fun h => c ⟨by have := h.1; push_cast at this; omega, h.2⟩)]
      · dsimp only
        rw [hand_th q.1 (k : Int) t (by rw [his]; exact ht) hr]
        exact ih.fin t ht
      · rw [wokeB_succ, ← ih.out t ht]
        have hho' : (m.lo (k : Int)).ho = n := by rw [← hlok]; exact hho
        dsimp only
        rw [hto]
        cases hrow : (m.lo (k : Int)).row with
        | nil => simp [handTo, hrow]
        | cons a r =>
          have ha : handTo m (k : Int) = a := by simp [handTo, hrow]
          have ha1 : m.is a = true := by rw [← his]; exact hr a (by rw [hlok, hrow]; simp)
          have ha0 : (a != 0) = true := by rw [is_iff] at ha1; simp; omega
          rw [ha, if_pos ha0]
          simp only [List.head?_cons, hho', decide_true, Bool.true_and, Option.some.injEq]
          rw [Bool.eq_iff_iff]
          simp only [List.contains_iff_mem, List.mem_append, List.mem_singleton, Bool.or_eq_true, decide_eq_true_eq]
          constructor
          · rintro (h | h)
            · exact .inl h
            · exact .inr h.symm
          · rintro (h | h)
            · exact .inl h
            · exact .inr h.symm
    · rename_i hho
      have hho' : ¬ (m.lo (k : Int)).ho = n := by rw [← hlok]; exact hho
      refine ⟨fun j hj => ?_, ih.fin, fun t ht => ?_⟩
      · rw [ih.lo j hj]
        by_cases c : j < (k : Int) ∧ (m.lo j).ho = n
        · rw [if_pos c, if_pos ⟨by push_cast; omega, c.2⟩]
        · rw [if_neg c, if_neg (fun h => c ⟨by
            have : j ≠ (k : Int) := fun e => by subst e; exact hho' h.2
            have := h.1; push_cast at this; omega, h.2⟩)]
      · rw [wokeB_succ, ih.out t ht]
        simp [hho']

theorem ended_same2 {m : Bk} (ok : Ok m) {n : Int} (x e : Int) (hn : m.is n = true) (hg : (m.th n).goes = true) : Same2 (ended m n x e) n m.lks.length (endB m n x e) :=
  same2_all (m := Lk.ended m n x e) (by rw [Lk.ended, is_setT]; exact hn) (mid_start ok x e hn hg) m.lks.length (by simp [Lk.ended, Bk.setT])

theorem ended_fin (m : Bk) (n x e t : Int) (hn : m.is n = true) (ht : m.is t = true) : ((ended m n x e).th t).fin = (m.th t).fin := by
  by_cases c : t = n
  · subst c; unfold ended; rw [th_setT _ _ _ hn]
  · unfold ended; rw [th_setT_ne _ _ _ _ hn ht c]

theorem rowsOf_end {m : Bk} (ok : Ok m) {n : Int} (x e : Int) (hn : m.is n = true) (hg : (m.th n).goes = true) : rowsOf (endM m n x e) = rowsE m n m.lks.length := by
  have h2 := ended_same2 ok x e hn hg
  have hl : (endM m n x e).lks.length = m.lks.length := by
    have := (handAll_inv (ended m n x e) n m.lks.length).2.1
    exact this
  apply List.ext_getElem?
  intro i
  by_cases hi : i < m.lks.length
  · have h1 := rowsE_get m n m.lks.length i hi
    have h3 := rowsOf_get (endM m n x e) i (by rw [hl]; exact hi)
    simp only [List.getD_eq_getElem?_getD] at h1 h3
    rw [List.getElem?_eq_getElem (by rw [rowsE_len]; exact hi)] at h1
    rw [List.getElem?_eq_getElem (by rw [rowsOf_len, hl]; exact hi)] at h3
    simp only [Option.getD_some] at h1 h3
    rw [List.getElem?_eq_getElem (by rw [rowsOf_len, hl]; exact hi), List.getElem?_eq_getElem (by rw [rowsE_len]; exact hi), h1, h3]
    have h4 := h2.lo (i : Int) (by rw [isL_iff]; exact ⟨by omega, by show (i : Int) < m.lks.length; omega⟩)
    have h5 : (endM m n x e).lo (i : Int) = (endB m n x e).1.lo (i : Int) := rfl
    rw [h5, h4]
    have h6 : (ended m n x e).lo (i : Int) = m.lo (i : Int) := rfl
    rw [h6]
    by_cases c : (m.lo (i : Int)).ho = n
    · rw [if_pos ⟨by omega, c⟩, if_pos ⟨hi, c⟩]
    · rw [if_neg (fun h => c h.2), if_neg (fun h => c h.2)]
  · rw [List.getElem?_eq_none (by rw [rowsOf_len, hl]; omega), List.getElem?_eq_none (by rw [rowsE_len]; omega)]

theorem endOut_eq {m : Bk} (ok : Ok m) {n : Int} (x e : Int) (hn : m.is n = true) (hg : (m.th n).goes = true) :
    endOut m n x e = ((List.range m.ths.length).map (fun (i : Nat) => (i : Int) + 1)).filter (fun t => wokeB m n m.lks.length t || (m.th t).fin == n) := by
  have h2 := ended_same2 ok x e hn hg
  unfold endOut
  refine List.filter_congr (fun t ht => ?_)
  have ht' : m.is t = true := by rw [is_iff]; exact (mem_rising _ _).1 ht
  have ht2 : (ended m n x e).is t = true := by rw [ended, is_setT]; exact ht'
  rw [h2.out t ht2, h2.fin t ht2, ended_fin m n x e t hn ht']
  rfl

theorem end_fin {m : Bk} (ok : Ok m) {n : Int} (x e : Int) (hn : m.is n = true) (hg : (m.th n).goes = true) (t : Int) (ht : m.is t = true) : ((endM m n x e).th t).fin = if (m.th t).fin = n then 0 else (m.th t).fin := by
  have h2 := ended_same2 ok x e hn hg
  have ht2 : (ended m n x e).is t = true := by rw [ended, is_setT]; exact ht
  have hl : (endB m n x e).1.ths.length = m.ths.length := (handAll_inv (ended m n x e) n m.lks.length).1.trans (by simp [ended, Bk.setT])
  rw [endM_th _ _ _ _ _ (by rw [is_iff] at ht ⊢; rw [hl]; exact ht)]
  have := h2.fin t ht2
  rw [ended_fin m n x e t hn ht] at this
  unfold freeT
  rw [this]
  split
  · rfl
  · exact this
end Lk
end Go.Proofs.YtkfdoocmapjkbaaDoor
