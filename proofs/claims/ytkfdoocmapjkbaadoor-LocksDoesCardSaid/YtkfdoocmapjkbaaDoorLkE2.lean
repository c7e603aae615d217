/- Layer 19, an end: what the ended thread tells, who holds behind it. -/
import Derived.Test.YtkfdoocmapjkbaaDoorLkE0
namespace Go.Proofs.YtkfdoocmapjkbaaDoor
open Hp
namespace Lk
theorem all_we {m : Bk} {n : Int} (hn : m.is n = true) (h0 : Mid m n 0 (m, [])) : ∀ k, k ≤ m.lks.length → ∀ t, m.is t = true →
    ((handAll m n k).1.th t).w = (m.th t).w ∧ ((handAll m n k).1.th t).e = (m.th t).e ∧ ((handAll m n k).1.th t).en = (m.th t).en
  | 0, _, t, _ => ⟨rfl, rfl, rfl⟩
  | k + 1, hk, t, ht => by
    have ih := all_we hn h0 k (by omega) t ht
    have im := mid_all hn h0 k (by omega)
    have hsuc : handAll m n (k + 1) = (if ((handAll m n k).1.lo k).ho = n then (hand (handAll m n k).1 k, if handTo (handAll m n k).1 k != 0 then (handAll m n k).2 ++ [handTo (handAll m n k).1 k] else (handAll m n k).2) else handAll m n k) := rfl
    rw [hsuc]
    generalize handAll m n k = q at *
    have hl : q.1.isL (k : Int) = true := by rw [isL_iff, im.nl]; omega
    have hr : ∀ x ∈ (q.1.lo (k : Int)).row, q.1.is x = true := fun x hx => (im.ok.rowIn _ x hl hx).1
    have his : ∀ x, q.1.is x = m.is x := fun x => by simp only [Bk.is, im.nt]
    split
    · dsimp only
      rw [hand_th q.1 (k : Int) t (by rw [his]; exact ht) hr]
      exact ih
    · exact ih

theorem end_len (m : Bk) (n x e : Int) : (endM m n x e).ths.length = m.ths.length ∧ (endM m n x e).lks.length = m.lks.length := by
  obtain ⟨h1, h2, -⟩ := handAll_inv (ended m n x e) n m.lks.length
  refine ⟨?_, ?_⟩
  · have : (endM m n x e).ths.length = (endB m n x e).1.ths.length := by simp [endM]
    rw [this]; unfold endB; rw [h1]; simp [ended, Bk.setT]
  · exact h2

theorem end_self {m : Bk} (ok : Ok m) {n : Int} (x e : Int) (hn : m.is n = true) (hg : (m.th n).goes = true) :
    ((endM m n x e).th n).en = true ∧ ((endM m n x e).th n).w = (if e = 0 then x else 0) ∧ ((endM m n x e).th n).e = e := by
  have h := all_we (m := Lk.ended m n x e) (by rw [Lk.ended, is_setT]; exact hn) (mid_start ok x e hn hg) m.lks.length (by simp [Lk.ended, Bk.setT]) n (by rw [Lk.ended, is_setT]; exact hn)
  have hth : (Lk.ended m n x e).th n = ⟨true, if e = 0 then x else 0, e, (m.th n).fin, (m.th n).lk⟩ := by unfold ended; rw [th_setT _ _ _ hn]
  rw [hth] at h
  have hb : ((endB m n x e).1.is n) = true := by
    obtain ⟨h1, -⟩ := handAll_inv (ended m n x e) n m.lks.length
    rw [is_iff] at hn ⊢
    unfold endB; rw [h1]; simpa [ended, Bk.setT] using hn
  rw [endM_th m n x e n hb]
  have hen : ∀ t, (freeT n t).en = t.en ∧ (freeT n t).w = t.w ∧ (freeT n t).e = t.e := fun t => by unfold freeT; split <;> exact ⟨rfl, rfl, rfl⟩
  obtain ⟨a, b, c⟩ := hen ((endB m n x e).1.th n)
  rw [a, b, c]
  exact ⟨h.2.2, h.1, h.2.1⟩

theorem end_holder {m : Bk} (ok : Ok m) {n : Int} (x e : Int) (hn : m.is n = true) (hg : (m.th n).goes = true) (l : Int) (hl : m.isL l = true) : ((endM m n x e).lo l).ho ≠ n := by
  intro h
  have hl' : (endM m n x e).isL l = true := by rw [isL_iff] at hl ⊢; rw [(end_len m n x e).2]; exact hl
  rcases (ok.ended x e hn hg).ho l hl' with h1 | h1
  · have := ((is_iff m n).1 hn).1; omega
  · rw [h] at h1
    rw [(end_self ok x e hn hg).1] at h1
    simp at h1
end Lk
end Go.Proofs.YtkfdoocmapjkbaaDoor
