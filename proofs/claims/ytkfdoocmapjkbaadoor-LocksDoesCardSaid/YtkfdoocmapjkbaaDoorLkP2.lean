/- Layer 19, the plain side: an end. -/
import Derived.Test.YtkfdoocmapjkbaaDoorLkP
namespace Go.Proofs.YtkfdoocmapjkbaaDoor
open Hp
namespace Lk

/-- What stands after k locks of one that has ended were looked at. -/
structure Mid (m : Bk) (n : Int) (k : Nat) (q : Bk × List Int) : Prop where
  ok : OkN q.1 n (fun j => (k : Int) ≤ j)
  nt : q.1.ths.length = m.ths.length
  nl : q.1.lks.length = m.lks.length
  nd : q.2.Nodup
  al : ∀ t ∈ q.2, m.is t = true ∧ (q.1.th t).lk = 0 ∧ (q.1.th t).fin = 0
  self : (q.1.th n).lk = 0 ∧ (q.1.th n).fin = 0 ∧ (q.1.th n).en = true

theorem mid_all {m : Bk} {n : Int} (hn : m.is n = true) (h0 : Mid m n 0 (m, [])) : ∀ k, k ≤ m.lks.length → Mid m n k (handAll m n k)
  | 0, _ => h0
  | k + 1, hk => by
    have ih := mid_all hn h0 k (by omega)
    simp only [handAll]
    generalize handAll m n k = q at *
    have hl : q.1.isL (k : Int) = true := by rw [isL_iff, ih.nl]; omega
    split
    · rename_i hho
      have h1 := ih.ok.hand (k : Int) hl
      obtain ⟨i1, i2, i3, _⟩ := hand_inv q.1 (k : Int)
      have hr : ∀ x ∈ (q.1.lo (k : Int)).row, q.1.is x = true := fun x hx => (ih.ok.rowIn _ x hl hx).1
      have his : ∀ x, q.1.is x = m.is x := fun x => by simp only [Bk.is, ih.nt]
      have hth := fun t ht => hand_th q.1 (k : Int) t ht hr
      have hnr : n ∉ (q.1.lo (k : Int)).row := fun hm => by
        have := (ih.ok.rowIn _ n hl hm).2
        have := ih.self.1
        omega
      refine ⟨⟨h1.nt, h1.nl, h1.ng, h1.rowNo, h1.rowIn, fun j hj => ?_, h1.lk, h1.fin⟩, i1.trans ih.nt, i2.trans ih.nl, ?_, fun t ht => ?_, ?_⟩
      · rcases h1.ho j hj with h | ⟨g1, g2⟩
        · exact .inl h
        · exact .inr ⟨g1, g2.imp id (fun g => ⟨g.1, by have := g.2; push_cast; omega⟩)⟩
      · dsimp only
        split
        · rename_i ht0
          rw [List.nodup_append]
          refine ⟨ih.nd, by simp, fun a ha b hb => ?_⟩
          simp at hb
          intro e
          rw [hb] at e
          cases hrow : (q.1.lo (k : Int)).row with
          | nil => simp [handTo, hrow] at ht0
          | cons x r =>
            have hto : handTo q.1 (k : Int) = x := by simp [handTo, hrow]
            have h2 := (ih.ok.rowIn _ x hl (by rw [hrow]; simp)).2
            have h3 := (ih.al a ha).2.1
            rw [e, hto] at h3
            omega
        · exact ih.nd
      · have hcase : t ∈ q.2 ∨ t ∈ (q.1.lo (k : Int)).row := by
          dsimp only at ht
          split at ht
          · rename_i ht0
            simp only [List.mem_append, List.mem_singleton] at ht
            rcases ht with ht | ht
            · exact .inl ht
            · right
              cases hrow : (q.1.lo (k : Int)).row with
              | nil => simp [handTo, hrow] at ht0
              | cons x r =>
                have hto : handTo q.1 (k : Int) = x := by simp [handTo, hrow]
                rw [ht, hto]; simp
          · exact .inl ht
        have hist : q.1.is t = true := by
          rcases hcase with h | h
          · rw [his]; exact (ih.al t h).1
          · exact hr t h
        refine ⟨by rw [← his]; exact hist, ?_, ?_⟩
        · rw [hth t hist]
          dsimp only
          split
          · rfl
          · rename_i hx
            rcases hcase with h | h
            · exact (ih.al t h).2.1
            · -- it stood first, or it was told before
              dsimp only at ht
              split at ht
              · rename_i ht0
                simp only [List.mem_append, List.mem_singleton] at ht
                rcases ht with ht | ht
                · exact (ih.al t ht).2.1
                · exfalso
                  cases hrow : (q.1.lo (k : Int)).row with
                  | nil => rw [hrow] at h; simp at h
                  | cons x r =>
                    apply hx
                    have hto : handTo q.1 (k : Int) = x := by simp [handTo, hrow]
                    rw [ht, hto, hrow]; rfl
              · exact (ih.al t ht).2.1
        · rw [hth t hist]
          show (q.1.th t).fin = 0
          rcases hcase with h | h
          · exact (ih.al t h).2.2
          · rcases ih.ok.lk t hist with h2 | h2
            · have h3 := (ih.ok.rowIn _ t hl h).2; omega
            · exact h2.2.2.1
      · have : ((Lk.hand q.1 (k : Int)).th n) = q.1.th n := by
          rw [hth n (by rw [his]; exact hn), if_neg]
          intro hx
          exact hnr (List.mem_of_mem_head? (by simp [hx]))
        dsimp only
        rw [this]; exact ih.self
    · rename_i hho
      refine ⟨⟨ih.ok.nt, ih.ok.nl, ih.ok.ng, ih.ok.rowNo, ih.ok.rowIn, fun j hj => ?_, ih.ok.lk, ih.ok.fin⟩, ih.nt, ih.nl, ih.nd, ih.al, ih.self⟩
      rcases ih.ok.ho j hj with h | ⟨g1, g2⟩
      · exact .inl h
      · refine .inr ⟨g1, g2.imp id (fun g => ⟨g.1, ?_⟩)⟩
        have : j ≠ (k : Int) := fun e => by rw [e] at g; exact hho g.1
        have := g.2
        push_cast; omega

theorem mid_start {m : Bk} (ok : Ok m) {n : Int} (x e : Int) (hn : m.is n = true) (hg : (m.th n).goes = true) : Mid (ended m n x e) n 0 (ended m n x e, []) := by
  rw [goes_iff] at hg
  obtain ⟨g1, g2, g3⟩ := hg
  have hth : ∀ t, m.is t = true → (ended m n x e).th t = if t = n then ⟨true, if e = 0 then x else 0, e, (m.th n).fin, (m.th n).lk⟩ else m.th t := fun t ht => by
    by_cases c : t = n
    · subst c; rw [if_pos rfl]; exact th_setT _ _ _ hn
    · rw [if_neg c]; exact th_setT_ne _ _ _ _ hn ht c
  have his : ∀ t, (ended m n x e).is t = m.is t := fun t => is_setT _ _ _ _
  have hlk : ∀ t, m.is t = true → ((ended m n x e).th t).lk = (m.th t).lk := fun t ht => by
    rw [hth t ht]; split
    · rename_i c; subst c; rfl
    · rfl
  have hfin : ∀ t, m.is t = true → ((ended m n x e).th t).fin = (m.th t).fin := fun t ht => by
    rw [hth t ht]; split
    · rename_i c; subst c; rfl
    · rfl
  have hen : ∀ t, m.is t = true → t ≠ n → ((ended m n x e).th t).en = (m.th t).en := fun t ht c => by rw [hth t ht, if_neg c]
  refine ⟨⟨by simpa [ended, Bk.setT] using ok.nt, ok.nl, ok.ng, ok.rowNo, fun l t hl ht => ?_, fun l hl => ?_, fun t ht => ?_, fun t ht => ?_⟩, rfl, rfl, by simp, by simp, ?_⟩
  · obtain ⟨q1, q2⟩ := ok.rowIn l t hl ht
    exact ⟨by rw [his]; exact q1, by rw [hlk t q1]; exact q2⟩
  · rcases ok.ho l hl with h | ⟨q1, q2⟩
    · exact .inl h
    · refine .inr ⟨by rw [his]; exact q1, ?_⟩
      by_cases c : (m.lo l).ho = n
      · refine .inr ⟨c, ?_⟩
        have := (isL_iff m l).1 hl
        show ((0 : Nat) : Int) ≤ l
        omega
      · exact .inl (by rw [show (ended m n x e).lo l = m.lo l from rfl, hen _ q1 c]; exact q2)
  · rw [his] at ht
    rw [hlk t ht, hfin t ht]
    by_cases c : t = n
    · subst c; exact .inl g3
    · rw [hen t ht c]; exact ok.lk t ht
  · rw [his] at ht
    rw [hlk t ht, hfin t ht]
    by_cases c : t = n
    · subst c; exact .inl g2
    · rw [hen t ht c]
      rcases ok.fin t ht with h | ⟨q1, q2, q3, q4⟩
      · exact .inl h
      · refine .inr ⟨by rw [his]; exact q1, ?_, q3, q4⟩
        by_cases c2 : (m.th t).fin = n
        · exact .inr c2
        · exact .inl (by rw [hen _ q1 c2]; exact q2)
  · rw [hth n hn, if_pos rfl]; exact ⟨g3, g2, rfl⟩

theorem endM_th (m : Bk) (n x e : Int) (t : Int) (ht : (endB m n x e).1.is t = true) : (endM m n x e).th t = freeT n ((endB m n x e).1.th t) := by
  rw [is_iff] at ht
  simp only [endM, Bk.th, List.getD_eq_getElem?_getD, List.getElem?_map]
  have : t.toNat - 1 < (endB m n x e).1.ths.length := by omega
  rw [List.getElem?_eq_getElem this]
  rfl

theorem Ok.ended {m : Bk} (ok : Ok m) {n : Int} (x e : Int) (hn : m.is n = true) (hg : (m.th n).goes = true) : Ok (endM m n x e) := by
  have hm := mid_all (m := Lk.ended m n x e) (by rw [Lk.ended, is_setT]; exact hn) (mid_start ok x e hn hg) m.lks.length (by simp [Lk.ended, Bk.setT])
  have he : handAll (Lk.ended m n x e) n m.lks.length = endB m n x e := rfl
  rw [he] at hm
  have hth := endM_th m n x e
  have his : ∀ t, (endM m n x e).is t = (endB m n x e).1.is t := fun t => by simp [endM, Bk.is]
  have hlo : ∀ l, (endM m n x e).lo l = (endB m n x e).1.lo l := fun l => rfl
  have hisL : ∀ l, (endM m n x e).isL l = (endB m n x e).1.isL l := fun l => rfl
  have hlk : ∀ t, (freeT n t).lk = t.lk := fun t => by unfold freeT; split <;> rfl
  have hen : ∀ t, (freeT n t).en = t.en := fun t => by unfold freeT; split <;> rfl
  have hfi : ∀ t, (freeT n t).fin = if t.fin = n then 0 else t.fin := fun t => by unfold freeT; split <;> rfl
  have hno : ∀ l, (endB m n x e).1.isL l = true → ¬ ((endB m n x e).1.lo l).ho = n ∨ False → True := fun _ _ _ => trivial
  refine ⟨by simpa [endM] using hm.ok.nt, hm.ok.nl, hm.ok.ng, hm.ok.rowNo, fun l t hl ht => ?_, fun l hl => ?_, fun t ht => ?_, fun t ht => ?_⟩
  · obtain ⟨q1, q2⟩ := hm.ok.rowIn l t hl ht
    exact ⟨by rw [his]; exact q1, by rw [hth t q1, hlk]; exact q2⟩
  · rcases hm.ok.ho l hl with h | ⟨q1, q2⟩
    · exact .inl h
    · refine .inr ⟨by rw [his]; exact q1, ?_⟩
      rw [hlo, hth _ q1, hen]
      rcases q2 with q2 | ⟨_, q2⟩
      · exact q2
      · have := (isL_iff _ l).1 hl
        rw [show (endM m n x e).lks.length = (endB m n x e).1.lks.length from rfl, hm.nl] at this
        have h2 : (Lk.ended m n x e).lks.length = m.lks.length := rfl
        omega
  · rw [his] at ht
    rw [hth t ht, hlk, hen]
    rcases hm.ok.lk t ht with h | ⟨q1, q2, q3, q4⟩
    · exact .inl h
    · exact .inr ⟨q1, q2, by rw [hfi, q3]; split <;> rfl, q4⟩
  · rw [his] at ht
    rw [hth t ht, hlk, hen, hfi]
    by_cases c : ((endB m n x e).1.th t).fin = n
    · left; rw [if_pos c]
    · rw [if_neg c]
      rcases hm.ok.fin t ht with h | ⟨q1, q2, q3, q4⟩
      · exact .inl h
      · refine .inr ⟨by rw [his]; exact q1, ?_, q3, q4⟩
        rw [hth _ q1, hen]
        exact q2.resolve_right c

theorem rising (k : Nat) : ((List.range k).map (fun (i : Nat) => (i : Int) + 1)).Pairwise (fun a b => a < b) := by
  rw [List.pairwise_map]
  exact List.pairwise_lt_range.imp (fun h => by omega)

theorem mem_rising (k : Nat) (t : Int) : t ∈ (List.range k).map (fun (i : Nat) => (i : Int) + 1) ↔ 1 ≤ t ∧ t ≤ k := by
  simp only [List.mem_map, List.mem_range]
  constructor
  · rintro ⟨i, hi, rfl⟩; omega
  · intro h; exact ⟨(t - 1).toNat, by omega, by omega⟩

theorem mem_joiners (l : List Th) (n t : Int) (k : Nat) : t ∈ joiners l n k ↔ 1 ≤ t ∧ t ≤ k ∧ (l.getD (t.toNat - 1) t0).fin = n := by
  simp only [joiners, List.mem_map, List.mem_filter, List.mem_range, beq_iff_eq]
  constructor
  · rintro ⟨i, ⟨hi, hf⟩, rfl⟩
    have : ((i : Int) + 1).toNat - 1 = i := by omega
    rw [this]; exact ⟨by omega, by omega, hf⟩
  · rintro ⟨h1, h2, h3⟩
    exact ⟨t.toNat - 1, ⟨by omega, h3⟩, by omega⟩

theorem joiners_nodup (l : List Th) (n : Int) (k : Nat) : (joiners l n k).Nodup := by
  have : (joiners l n k).Pairwise (fun a b => a < b) := by
    unfold joiners
    rw [List.pairwise_map]
    exact (List.pairwise_lt_range.filter _).imp (fun h => by omega)
  exact this.imp (fun h => by omega)

/-- Who goes, sorted as the code has it, is who goes, told rising. -/
theorem endL_eq {m : Bk} (ok : Ok m) {n : Int} (x e : Int) (hn : m.is n = true) (hg : (m.th n).goes = true) : endL m n x e = endOut m n x e := by
  have hm := mid_all (m := Lk.ended m n x e) (by rw [Lk.ended, is_setT]; exact hn) (mid_start ok x e hn hg) m.lks.length (by simp [Lk.ended, Bk.setT])
  have he : handAll (Lk.ended m n x e) n m.lks.length = endB m n x e := rfl
  rw [he] at hm
  have hnt : (endB m n x e).1.ths.length = m.ths.length := hm.nt.trans (by simp [Lk.ended, Bk.setT])
  have hn1 : 1 ≤ n := ((is_iff m n).1 hn).1
  unfold endL endOut
  rw [hnt]
  have hnd : ((endB m n x e).2 ++ joiners (endB m n x e).1.ths n m.ths.length).Nodup := by
    rw [List.nodup_append]
    refine ⟨hm.nd, joiners_nodup _ _ _, fun a ha b hb e2 => ?_⟩
    subst e2
    have h1 := (hm.al a ha).2.2
    have h2 := (mem_joiners _ _ _ _).1 hb
    have h3 : ((endB m n x e).1.th a).fin = n := h2.2.2
    omega
  refine List.Perm.eq_of_pairwise (le := fun a b => a ≤ b) (fun a b _ _ h1 h2 => by omega) ?_ ?_ ?_
  · have := List.pairwise_mergeSort (le := le) (fun a b c h1 h2 => by simp [le] at *; omega) (fun a b => by simp [le]; omega) ((endB m n x e).2 ++ joiners (endB m n x e).1.ths n m.ths.length)
    exact this.imp (fun h => by simpa [le] using h)
  · exact ((rising m.ths.length).filter _).imp (fun h => by omega)
  · refine (List.mergeSort_perm _ _).trans ?_
    rw [List.perm_ext_iff_of_nodup hnd (((rising m.ths.length).filter _).imp (fun h => by omega))]
    intro t
    simp only [List.mem_append, List.mem_filter, mem_rising, mem_joiners, Bool.or_eq_true, List.contains_iff_mem, beq_iff_eq]
    constructor
    · rintro (h | ⟨h1, h2, h3⟩)
      · have := (is_iff _ t).1 (hm.al t h).1
        have h4 : (Lk.ended m n x e).ths.length = m.ths.length := by simp [Lk.ended, Bk.setT]
        exact ⟨⟨this.1, by omega⟩, .inl h⟩
      · exact ⟨⟨h1, h2⟩, .inr h3⟩
    · rintro ⟨⟨h1, h2⟩, h3 | h3⟩
      · exact .inl h3
      · exact .inr ⟨h1, h2, h3⟩
end Lk
end Go.Proofs.YtkfdoocmapjkbaaDoor
