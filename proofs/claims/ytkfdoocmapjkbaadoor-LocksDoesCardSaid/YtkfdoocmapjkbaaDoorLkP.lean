/- Layer 19, the plain side: what holds at all times is kept by every call; who goes behind an end. -/
import Derived.Test.YtkfdoocmapjkbaaDoorLkW9
namespace Go.Proofs.YtkfdoocmapjkbaaDoor
open Hp
namespace Lk

theorem th_setT_ne (m : Bk) (n t : Int) (x : Th) (hn : m.is n = true) (ht : m.is t = true) (hne : t ≠ n) : (m.setT n x).th t = m.th t := by
  rw [is_iff] at hn ht
  simp only [Bk.th, Bk.setT]
  exact getD_set_ne _ _ _ _ _ (by omega)
theorem lo_setL_ne (m : Bk) (l k : Int) (x : Lo) (hl : m.isL l = true) (hk : m.isL k = true) (hne : k ≠ l) : (m.setL l x).lo k = m.lo k := by
  rw [isL_iff] at hl hk
  simp only [Bk.lo, Bk.setL]
  exact getD_set_ne _ _ _ _ _ (by omega)

theorem th_setLT (m : Bk) (l n t : Int) (x : Lo) (y : Th) (hn : m.is n = true) (ht : m.is t = true) : ((m.setL l x).setT n y).th t = if t = n then y else m.th t := by
  by_cases e : t = n
  · subst e; rw [if_pos rfl]; exact th_setT (m.setL l x) t y hn
  · rw [if_neg e]; exact th_setT_ne (m.setL l x) n t y hn ht e

/-- 'Ok', but for a thread n that has just ended: locks told by P are still held by it, and threads may still wait for its end. -/
structure OkN (m : Bk) (n : Int) (P : Int → Prop) : Prop where
  nt : m.ths.length ≤ 8
  nl : m.lks.length ≤ 8
  ng : m.gl.length ≤ 64
  rowNo : ∀ l, m.isL l = true → (m.lo l).row.Nodup
  rowIn : ∀ l t, m.isL l = true → t ∈ (m.lo l).row → m.is t = true ∧ (m.th t).lk = l + 1
  ho : ∀ l, m.isL l = true → (m.lo l).ho = 0 ∧ (m.lo l).row = [] ∨ m.is (m.lo l).ho = true ∧ ((m.th (m.lo l).ho).en = false ∨ (m.lo l).ho = n ∧ P l)
  lk : ∀ t, m.is t = true → (m.th t).lk = 0 ∨ m.isL ((m.th t).lk - 1) = true ∧ t ∈ (m.lo ((m.th t).lk - 1)).row ∧ (m.th t).fin = 0 ∧ (m.th t).en = false
  fin : ∀ t, m.is t = true → (m.th t).fin = 0 ∨ m.is (m.th t).fin = true ∧ ((m.th (m.th t).fin).en = false ∨ (m.th t).fin = n) ∧ (m.th t).lk = 0 ∧ (m.th t).en = false

theorem OkN.of {m : Bk} (ok : Ok m) (n : Int) (P : Int → Prop) : OkN m n P :=
  ⟨ok.nt, ok.nl, ok.ng, ok.rowNo, ok.rowIn, fun l hl => (ok.ho l hl).imp id (fun h => ⟨h.1, .inl h.2⟩), ok.lk, fun t ht => (ok.fin t ht).imp id (fun h => ⟨h.1, .inl h.2.1, h.2.2⟩)⟩

theorem OkN.ok {m : Bk} (h : OkN m 0 (fun _ => False)) : Ok m :=
  ⟨h.nt, h.nl, h.ng, h.rowNo, h.rowIn, fun l hl => (h.ho l hl).imp id (fun h => ⟨h.1, h.2.resolve_right (fun h => h.2)⟩), h.lk, fun t ht => (h.fin t ht).imp id (fun g => ⟨g.1, g.2.1.resolve_right (fun e => by
    have := (is_iff m _).1 g.1; omega), g.2.2⟩)⟩

/-- What 'hand' does to a thread: it may take it out of a lock's row, no more. -/
theorem hand_th (m : Bk) (l : Int) (t : Int) (ht : m.is t = true) (hr : ∀ x ∈ (m.lo l).row, m.is x = true) :
    (hand m l).th t = { m.th t with lk := if (m.lo l).row.head? = some t then 0 else (m.th t).lk } := by
  unfold hand
  split
  · rename_i hc; rw [hc]; rfl
  · rename_i t0 r hc
    have h0 : m.is t0 = true := hr t0 (by rw [hc]; simp)
    rw [hc]
    rw [th_setLT _ _ _ _ _ _ h0 ht]
    by_cases e : t = t0
    · subst e
      rw [if_pos rfl]
      simp
    · rw [if_neg e]
      have : ¬ ((t0 :: r).head? = some t) := fun h => e (by simp at h; exact h.symm)
      rw [if_neg this]

theorem hand_is (m : Bk) (l t : Int) : (hand m l).is t = m.is t := by simp only [Bk.is, (hand_inv m l).1]
theorem hand_isL (m : Bk) (l t : Int) : (hand m l).isL t = m.isL t := by simp only [Bk.isL, (hand_inv m l).2.1]

theorem hand_lo (m : Bk) (l k : Int) (hl : m.isL l = true) (hk : m.isL k = true) : (hand m l).lo k = if k = l then ⟨handTo m l, (m.lo l).row.tail⟩ else m.lo k := by
  by_cases e : k = l
  · subst e
    rw [if_pos rfl]
    unfold hand handTo
    split
    · rename_i hc; rw [hc]; exact lo_setL _ _ _ hl
    · rename_i t r hc
      rw [hc]
      exact lo_setL m k ⟨t, r⟩ hl
  · rw [if_neg e]
    unfold hand
    split
    · exact lo_setL_ne _ _ _ _ hl hk e
    · exact lo_setL_ne m l k _ hl hk e

theorem OkN.hand {m : Bk} {n : Int} {P : Int → Prop} (h : OkN m n P) (l : Int) (hl : m.isL l = true) : OkN (hand m l) n (fun j => P j ∧ j ≠ l) := by
  have hr : ∀ x ∈ (m.lo l).row, m.is x = true := fun x hx => (h.rowIn l x hl hx).1
  have hth := fun t ht => hand_th m l t ht hr
  obtain ⟨i1, i2, i3, _⟩ := hand_inv m l
  have hhd : ∀ x, (m.lo l).row.head? = some x → x ∈ (m.lo l).row := fun x hx => List.mem_of_mem_head? (by simp [hx])
  refine ⟨by rw [i1]; exact h.nt, by rw [i2]; exact h.nl, by rw [i3]; exact h.ng, fun k hk => ?_, fun k t hk ht => ?_, fun k hk => ?_, fun t ht => ?_, fun t ht => ?_⟩
  · rw [hand_isL] at hk
    rw [hand_lo m l k hl hk]
    split
    · exact (h.rowNo l hl).tail
    · exact h.rowNo k hk
  · rw [hand_isL] at hk
    rw [hand_lo m l k hl hk] at ht
    rw [hand_is]
    by_cases e : k = l
    · subst e
      rw [if_pos rfl] at ht
      have hm := List.mem_of_mem_tail ht
      have h1 := h.rowIn k t hl hm
      refine ⟨h1.1, ?_⟩
      rw [hth t h1.1, if_neg]
      · exact h1.2
      · intro hx
        have := h.rowNo k hl
        cases hrow : (m.lo k).row with
        | nil => rw [hrow] at hm; simp at hm
        | cons a r =>
          rw [hrow] at hx this ht
          simp at hx ht
          subst hx
          exact (List.nodup_cons.1 this).1 ht
    · rw [if_neg e] at ht
      have h1 := h.rowIn k t hk ht
      refine ⟨h1.1, ?_⟩
      rw [hth t h1.1, if_neg]
      · exact h1.2
      · intro hx
        have h2 := (h.rowIn l t hl (hhd t hx)).2
        have h3 := h1.2
        omega
  · rw [hand_isL] at hk
    rw [hand_lo m l k hl hk]
    by_cases e : k = l
    · subst e
      rw [if_pos rfl]
      cases hrow : (m.lo k).row with
      | nil => left; simp [handTo, hrow]
      | cons a r =>
        right
        have ha := h.rowIn k a hl (by rw [hrow]; simp)
        have hto : handTo m k = a := by simp [handTo, hrow]
        simp only [hto]
        refine ⟨by rw [hand_is]; exact ha.1, .inl ?_⟩
        rw [hth a ha.1]
        rcases h.lk a ha.1 with h0 | h0
        · have h1 := ha.2
          rw [isL_iff] at hl
          omega
        · exact h0.2.2.2
    · rw [if_neg e]
      rcases h.ho k hk with h1 | ⟨h1, h2⟩
      · exact .inl h1
      · refine .inr ⟨by rw [hand_is]; exact h1, ?_⟩
        rw [hth _ h1]
        exact h2.imp id (fun h3 => ⟨h3.1, h3.2, e⟩)
  · rw [hand_is] at ht
    rw [hth t ht]
    by_cases hx : (m.lo l).row.head? = some t
    · left; simp [hx]
    · simp only [if_neg hx]
      rcases h.lk t ht with h0 | ⟨h1, h2, h3, h4⟩
      · exact .inl h0
      · refine .inr ⟨by rw [hand_isL]; exact h1, ?_, h3, h4⟩
        rw [hand_lo m l _ hl h1]
        split
        · rename_i e
          rw [e] at h2
          show t ∈ (m.lo l).row.tail
          cases hrow : (m.lo l).row with
          | nil => rw [hrow] at h2; simp at h2
          | cons a r =>
            rw [hrow] at h2 hx
            simp at h2 hx ⊢
            exact h2.resolve_left (fun e => hx e.symm)
        · exact h2
  · rw [hand_is] at ht
    rw [hth t ht]
    rcases h.fin t ht with h0 | ⟨h1, h2, h3, h4⟩
    · exact .inl h0
    · refine .inr ⟨by rw [hand_is]; exact h1, ?_, ?_, h4⟩
      · show ((Lk.hand m l).th (m.th t).fin).en = false ∨ (m.th t).fin = n
        rw [hth _ h1]; exact h2
      · show (if (m.lo l).row.head? = some t then 0 else (m.th t).lk) = 0
        rw [h3]; split <;> rfl

theorem Ok.hand {m : Bk} (ok : Ok m) (l : Int) (hl : m.isL l = true) : Ok (hand m l) := by
  have h1 := (OkN.of ok 0 (fun _ => False)).hand l hl
  have h2 : OkN (Lk.hand m l) 0 (fun _ => False) := ⟨h1.nt, h1.nl, h1.ng, h1.rowNo, h1.rowIn, fun k hk => (h1.ho k hk).imp id (fun h => ⟨h.1, h.2.imp id (fun g => ⟨g.1, g.2.1⟩)⟩), h1.lk, h1.fin⟩
  exact h2.ok

theorem Ok.start {m : Bk} (ok : Ok m) : Ok (start m).2.2 := by
  unfold Lk.start
  split
  · exact ok
  · rename_i h8
    have hnt := ok.nt
    have hold : ∀ t, m.is t = true → ({ m with ths := m.ths ++ [t0] } : Bk).th t = m.th t := fun t ht => by
      rw [is_iff] at ht
      simp only [Bk.th, List.getD_eq_getElem?_getD]
      rw [List.getElem?_append_left (by omega)]
    have hnew : ∀ t, ({ m with ths := m.ths ++ [t0] } : Bk).is t = true → m.is t = true ∨ ({ m with ths := m.ths ++ [t0] } : Bk).th t = t0 := fun t ht => by
      rw [is_iff] at ht
      simp only [List.length_append, List.length_cons, List.length_nil] at ht
      by_cases e : t ≤ m.ths.length
      · exact .inl ((is_iff m t).2 ⟨ht.1, e⟩)
      · right
        simp only [Bk.th, List.getD_eq_getElem?_getD]
        rw [List.getElem?_append_right (by omega), show t.toNat - 1 - m.ths.length = 0 from by omega]
        rfl
    have hup : ∀ t, m.is t = true → ({ m with ths := m.ths ++ [t0] } : Bk).is t = true := fun t ht => by
      rw [is_iff] at ht ⊢
      simp only [List.length_append, List.length_cons, List.length_nil]
      omega
    refine ⟨by simp; omega, ok.nl, ok.ng, ok.rowNo, fun l t hl ht => ?_, fun l hl => ?_, fun t ht => ?_, fun t ht => ?_⟩
    · obtain ⟨h1, h2⟩ := ok.rowIn l t hl ht
      exact ⟨hup t h1, by rw [hold t h1]; exact h2⟩
    · rcases ok.ho l hl with h | ⟨h1, h2⟩
      · exact .inl h
      · exact .inr ⟨hup _ h1, by rw [show ({ m with ths := m.ths ++ [t0] } : Bk).lo l = m.lo l from rfl, hold _ h1]; exact h2⟩
    · rcases hnew t ht with h | h
      · rw [hold t h]; exact ok.lk t h
      · left; rw [h]; rfl
    · rcases hnew t ht with h | h
      · rw [hold t h]
        rcases ok.fin t h with h0 | ⟨h1, h2, h3, h4⟩
        · exact .inl h0
        · exact .inr ⟨hup _ h1, by rw [hold _ h1]; exact h2, h3, h4⟩
      · left; rw [h]; rfl

theorem Ok.setGlobal {m : Bk} (ok : Ok m) (i x : Int) : Ok (setGlobalF m i x).2.2 := by
  unfold setGlobalF
  split
  · exact ⟨ok.nt, ok.nl, by simpa using ok.ng, ok.rowNo, ok.rowIn, ok.ho, ok.lk, ok.fin⟩
  · exact ok

theorem Ok.unlock {m : Bk} (ok : Ok m) (n l : Int) : Ok (unlockF m n l).2.2 := by
  unfold unlockF
  split
  · exact ok
  · rename_i hx
    split
    · exact ok
    · exact ok.hand l (ask_ok n l (by simpa using hx)).2.1

theorem Ok.join {m : Bk} (ok : Ok m) (n f : Int) : Ok (joinF m n f).2.2.2 := by
  unfold joinF
  split
  · exact ok
  · rename_i h1
    split
    · exact ok
    · rename_i h2
      split
      · exact ok
      · rename_i h3
        split
        · exact ok
        · rename_i h4
          have hn : m.is n = true := by cases hh : m.is n <;> simp_all
          have hf : m.is f = true := by cases hh : m.is f <;> simp_all
          have hg : (m.th n).goes = true := by simpa using h2
          rw [goes_iff] at hg
          obtain ⟨g1, g2, g3⟩ := hg
          have hen : ∀ t, m.is t = true → ((m.setT n { m.th n with fin := f }).th t) = if t = n then { m.th n with fin := f } else m.th t := fun t ht => by
            by_cases e : t = n
            · subst e; rw [if_pos rfl, th_setT _ _ _ hn]
            · rw [if_neg e, th_setT_ne _ _ _ _ hn ht e]
          refine ⟨by simpa [Bk.setT] using ok.nt, ok.nl, ok.ng, ok.rowNo, fun l t hl ht => ?_, fun l hl => ?_, fun t ht => ?_, fun t ht => ?_⟩
          · obtain ⟨q1, q2⟩ := ok.rowIn l t hl ht
            refine ⟨by rw [is_setT]; exact q1, ?_⟩
            rw [hen t q1]
            split
            · rename_i e; subst e; exact q2
            · exact q2
          · rcases ok.ho l hl with h | ⟨q1, q2⟩
            · exact .inl h
            · refine .inr ⟨by rw [is_setT]; exact q1, ?_⟩
              show ((m.setT n { m.th n with fin := f }).th (m.lo l).ho).en = false
              rw [hen _ q1]
              split
              · rename_i e; rw [e] at q2; exact q2
              · exact q2
          · rw [is_setT] at ht
            rw [hen t ht]
            split
            · exact .inl g3
            · exact ok.lk t ht
          · rw [is_setT] at ht
            rw [hen t ht]
            split
            · refine .inr ⟨by rw [is_setT]; exact hf, ?_, g3, g1⟩
              show ((m.setT n { m.th n with fin := f }).th f).en = false
              rw [hen f hf, if_neg (fun e => h3 e.symm)]
              simpa using h4
            · rcases ok.fin t ht with h0 | ⟨q1, q2, q3, q4⟩
              · exact .inl h0
              · refine .inr ⟨by rw [is_setT]; exact q1, ?_, q3, q4⟩
                rw [hen _ q1]
                split
                · exact g1
                · exact q2

theorem Ok.lock {m : Bk} (ok : Ok m) (n l : Int) : Ok (lockF m n l).2.2 := by
  unfold lockF
  split
  · exact ok
  · rename_i hx
    obtain ⟨hn, hl, hg⟩ := ask_ok n l (by simpa using hx)
    rw [goes_iff] at hg
    obtain ⟨g1, g2, g3⟩ := hg
    split
    · exact ok
    · rename_i h1
      split
      · rename_i h2
        have hrow : (m.lo l).row = [] := by
          rcases ok.ho l hl with h | ⟨h, _⟩
          · exact h.2
          · rw [h2, is_iff] at h; omega
        have hlo : ∀ k, m.isL k = true → (m.setL l { m.lo l with ho := n }).lo k = if k = l then { m.lo l with ho := n } else m.lo k := fun k hk => by
          by_cases e : k = l
          · subst e; rw [if_pos rfl, lo_setL _ _ _ hl]
          · rw [if_neg e, lo_setL_ne _ _ _ _ hl hk e]
        have hrw : ∀ k, m.isL k = true → ((m.setL l { m.lo l with ho := n }).lo k).row = (m.lo k).row := fun k hk => by
          rw [hlo k hk]; split
          · rename_i e; subst e; rfl
          · rfl
        refine ⟨ok.nt, by simpa [Bk.setL] using ok.nl, ok.ng, fun k hk => ?_, fun k t hk ht => ?_, fun k hk => ?_, fun t ht => ?_, ok.fin⟩
        · rw [isL_setL] at hk; rw [hrw k hk]; exact ok.rowNo k hk
        · rw [isL_setL] at hk; rw [hrw k hk] at ht; exact ok.rowIn k t hk ht
        · rw [isL_setL] at hk
          rw [hrw k hk, hlo k hk]
          split
          · exact .inr ⟨hn, g1⟩
          · exact ok.ho k hk
        · rcases ok.lk t ht with h | ⟨q1, q2, q3⟩
          · exact .inl h
          · exact .inr ⟨by rw [isL_setL]; exact q1, by rw [show (m.setL l { m.lo l with ho := n }).th t = m.th t from rfl, hrw _ q1]; exact q2, q3⟩
      · rename_i h2
        -- it waits
        have hnr : ∀ k, m.isL k = true → n ∉ (m.lo k).row := fun k hk hm => by
          have := (ok.rowIn k n hk hm).2
          rw [isL_iff] at hk
          omega
        have hlo : ∀ k, m.isL k = true → ((m.setL l { m.lo l with row := (m.lo l).row ++ [n] }).setT n { m.th n with lk := l + 1 }).lo k = if k = l then { m.lo l with row := (m.lo l).row ++ [n] } else m.lo k := fun k hk => by
          show (m.setL l { m.lo l with row := (m.lo l).row ++ [n] }).lo k = _
          by_cases e : k = l
          · subst e; rw [if_pos rfl, lo_setL _ _ _ hl]
          · rw [if_neg e, lo_setL_ne _ _ _ _ hl hk e]
        have hth : ∀ t, m.is t = true → ((m.setL l { m.lo l with row := (m.lo l).row ++ [n] }).setT n { m.th n with lk := l + 1 }).th t = if t = n then { m.th n with lk := l + 1 } else m.th t := fun t ht => by
          exact th_setLT _ _ _ _ _ _ hn ht
        have his : ∀ t, ((m.setL l { m.lo l with row := (m.lo l).row ++ [n] }).setT n { m.th n with lk := l + 1 }).is t = m.is t := fun t => by simp [Bk.is, Bk.setT, Bk.setL]
        have hisL : ∀ t, ((m.setL l { m.lo l with row := (m.lo l).row ++ [n] }).setT n { m.th n with lk := l + 1 }).isL t = m.isL t := fun t => by simp [Bk.isL, Bk.setT, Bk.setL]
        refine ⟨by simpa [Bk.setT, Bk.setL] using ok.nt, by simpa [Bk.setT, Bk.setL] using ok.nl, ok.ng, fun k hk => ?_, fun k t hk ht => ?_, fun k hk => ?_, fun t ht => ?_, fun t ht => ?_⟩
        · rw [hisL] at hk
          rw [hlo k hk]
          split
          · rw [List.nodup_append]
            refine ⟨ok.rowNo l hl, by simp, fun a ha b hb => ?_⟩
            simp at hb
            subst hb
            intro e
            subst e
            exact hnr l hl ha
          · exact ok.rowNo k hk
        · rw [hisL] at hk
          rw [hlo k hk] at ht
          rw [his]
          by_cases e : k = l
          · subst e
            rw [if_pos rfl] at ht
            simp only [List.mem_append, List.mem_singleton] at ht
            rcases ht with ht | rfl
            · obtain ⟨q1, q2⟩ := ok.rowIn k t hk ht
              refine ⟨q1, ?_⟩
              rw [hth t q1, if_neg (fun e => hnr k hk (by rw [← e]; exact ht))]
              exact q2
            · exact ⟨hn, by rw [hth t hn, if_pos rfl]⟩
          · rw [if_neg e] at ht
            obtain ⟨q1, q2⟩ := ok.rowIn k t hk ht
            refine ⟨q1, ?_⟩
            rw [hth t q1, if_neg (fun e => hnr k hk (by rw [← e]; exact ht))]
            exact q2
        · rw [hisL] at hk
          rw [hlo k hk, his]
          have hen : ∀ t, m.is t = true → (((m.setL l { m.lo l with row := (m.lo l).row ++ [n] }).setT n { m.th n with lk := l + 1 }).th t).en = (m.th t).en := fun t ht => by
            rw [hth t ht]; split
            · rename_i e; subst e; rfl
            · rfl
          split
          · rename_i e
            subst e
            rcases ok.ho k hk with h | ⟨q1, q2⟩
            · exact absurd h.1 h2
            · exact .inr ⟨q1, by rw [hen _ q1]; exact q2⟩
          · rcases ok.ho k hk with h | ⟨q1, q2⟩
            · exact .inl h
            · exact .inr ⟨q1, by rw [hen _ q1]; exact q2⟩
        · rw [his] at ht
          rw [hth t ht]
          by_cases e : t = n
          · subst e
            rw [if_pos rfl]
            right
            have e2 : l + 1 - 1 = l := by omega
            simp only [e2]
            refine ⟨by rw [hisL]; exact hl, ?_, g2, g1⟩
            rw [hlo l hl, if_pos rfl]; simp
          · rw [if_neg e]
            rcases ok.lk t ht with h | ⟨q1, q2, q3⟩
            · exact .inl h
            · refine .inr ⟨by rw [hisL]; exact q1, ?_, q3⟩
              rw [hlo _ q1]
              split
              · rename_i e3; rw [e3] at q2; simp [q2]
              · exact q2
        · rw [his] at ht
          rw [hth t ht]
          by_cases e : t = n
          · subst e; rw [if_pos rfl]; exact .inl g2
          · rw [if_neg e]
            rcases ok.fin t ht with h0 | ⟨q1, q2, q3, q4⟩
            · exact .inl h0
            · refine .inr ⟨by rw [his]; exact q1, ?_, q3, q4⟩
              rw [hth _ q1]
              split
              · exact g1
              · exact q2
end Lk
end Go.Proofs.YtkfdoocmapjkbaaDoor
