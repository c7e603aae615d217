/- Layer 19, LocksStay, the plain side: who waits in a ring stays in it, whatever the others do. -/
import Derived.Test.YtkfdoocmapjkbaaDoorLkP2
namespace Go.Proofs.YtkfdoocmapjkbaaDoor
open Hp
namespace Lk
variable {m m' : Bk} {S : Int → Prop}

/-- A ring: each one waits for one of it. -/
def Ring (m : Bk) (S : Int → Prop) : Prop := ∀ x, S x → m.is x = true ∧ next m x ≠ 0 ∧ S (next m x)
/-- The ring stands as it stood. -/
def Keep (m m' : Bk) (S : Int → Prop) : Prop := ∀ x, S x → m'.is x = true ∧ next m' x = next m x

theorem Keep.refl (h : Ring m S) : Keep m m S := fun x hx => ⟨(h x hx).1, rfl⟩
theorem Keep.ring (h : Ring m S) (k : Keep m m' S) : Ring m' S := fun x hx => ⟨(k x hx).1, by rw [(k x hx).2]; exact (h x hx).2⟩
theorem Keep.trans {m2 : Bk} (k : Keep m m' S) (k' : Keep m' m2 S) : Keep m m2 S := fun x hx => ⟨(k' x hx).1, (k' x hx).2.trans (k x hx).2⟩

theorem next_same (x : Int) (h1 : (m'.th x).lk = (m.th x).lk) (h2 : (m'.th x).fin = (m.th x).fin) (h3 : (m.th x).lk ≠ 0 → (m'.lo ((m.th x).lk - 1)).ho = (m.lo ((m.th x).lk - 1)).ho) : next m' x = next m x := by
  unfold next
  rw [h1, h2]
  split
  · rename_i c; exact h3 (by simpa using c)
  · rfl
theorem next_lk (x : Int) (h : (m.th x).lk ≠ 0) : next m x = (m.lo ((m.th x).lk - 1)).ho := by
  unfold next; rw [if_pos (by simpa using h)]
theorem next_fin (x : Int) (h : (m.th x).lk = 0) : next m x = (m.th x).fin := by
  unfold next; rw [h]; rfl

/-- Who goes is in no ring. -/
theorem Ring.off (h : Ring m S) {n : Int} (hg : (m.th n).goes = true) : ¬ S n := fun hs => by
  obtain ⟨_, h1, _⟩ := h n hs
  rw [goes_iff] at hg
  exact h1 (by rw [next_fin n hg.2.2, hg.2.1])

theorem hand_keep {n : Int} {P : Int → Prop} (ok : OkN m n P) (l : Int) (hl : m.isL l = true) (hR : Ring m S) (hn : ¬ S n) (ho : (m.lo l).ho = n) : Keep m (hand m l) S := fun x hx => by
  obtain ⟨h1, h2, h3⟩ := hR x hx
  have hr : ∀ y ∈ (m.lo l).row, m.is y = true := fun y hy => (ok.rowIn l y hl hy).1
  have hne : (m.th x).lk ≠ 0 → (m.th x).lk - 1 ≠ l := fun h0 he => hn (by
    rw [← ho, ← he, ← next_lk x h0]; exact h3)
  have hhd : ¬ ((m.lo l).row.head? = some x) := fun he => by
    have hmem : x ∈ (m.lo l).row := by
      cases hc : (m.lo l).row with
      | nil => rw [hc] at he; cases he
      | cons a r => rw [hc] at he; simp at he; rw [he]; simp
    have := (ok.rowIn l x hl hmem).2
    have h0 := (isL_iff m l).1 hl
    exact hne (by omega) (by omega)
  refine ⟨by rw [hand_is]; exact h1, ?_⟩
  have hth := hand_th m l x h1 hr
  rw [if_neg hhd] at hth
  refine next_same x (by rw [hth]) (by rw [hth]) (fun h0 => ?_)
  rcases ok.lk x h1 with h | ⟨h, _⟩
  · exact absurd h h0
  · rw [hand_lo m l _ hl h, if_neg (hne h0)]

theorem handAll_keep {n : Int} (hn : m.is n = true) (h0 : Mid m n 0 (m, [])) (hR : Ring m S) (hS : ¬ S n) : ∀ k, k ≤ m.lks.length → Keep m (handAll m n k).1 S
  | 0, _ => Keep.refl hR
  | k + 1, hk => by
    have ih := handAll_keep hn h0 hR hS k (by omega)
    have hm := mid_all hn h0 k (by omega)
    unfold handAll
    dsimp only
    split
    · rename_i hc
      exact ih.trans (hand_keep hm.ok (k : Int) (by rw [isL_iff, hm.nl]; omega) (ih.ring hR) hS hc)
    · exact ih

theorem setT_keep {n : Int} (hn : m.is n = true) (y : Th) (hR : Ring m S) (hS : ¬ S n) : Keep m (m.setT n y) S := fun x hx => by
  obtain ⟨h1, h2, h3⟩ := hR x hx
  have hne : x ≠ n := fun e => hS (e ▸ hx)
  have ht := th_setT_ne m n x y hn h1 hne
  exact ⟨by rw [is_setT]; exact h1, next_same x (by rw [ht]) (by rw [ht]) (fun _ => rfl)⟩

theorem end_keep (ok : Ok m) {n : Int} (x e : Int) (hn : m.is n = true) (hg : (m.th n).goes = true) (hR : Ring m S) : Keep m (endM m n x e) S := by
  have hS := hR.off hg
  have k1 : Keep m (ended m n x e) S := setT_keep hn _ hR hS
  have k2 : Keep (ended m n x e) (endB m n x e).1 S := handAll_keep (by rw [ended, is_setT]; exact hn) (mid_start ok x e hn hg) (k1.ring hR) hS m.lks.length (Nat.le_refl _)
  have hR2 := k2.ring (k1.ring hR)
  have hm : Mid (ended m n x e) n m.lks.length (endB m n x e) := mid_all (m := ended m n x e) (by rw [ended, is_setT]; exact hn) (mid_start ok x e hn hg) m.lks.length (by simp [ended, Bk.setT])
  refine (k1.trans k2).trans (fun y hy => ?_)
  obtain ⟨h1, h2, h3⟩ := hR2 y hy
  have hth := endM_th m n x e y h1
  have hlk : ∀ t, (freeT n t).lk = t.lk := fun t => by unfold freeT; split <;> rfl
  have hn1 := (is_iff m n).1 hn
  have hfi : (freeT n ((endB m n x e).1.th y)).fin = ((endB m n x e).1.th y).fin := by
    unfold freeT
    split
    · rename_i c
      rcases hm.ok.lk y h1 with h | ⟨_, _, h, _⟩
      · exact absurd (by rw [← c, ← next_fin y h]; exact h3) hS
      · have h' : ((endB m n x e).1.th y).fin = 0 := h
        omega
    · rfl
  refine ⟨by simpa [endM, Bk.is] using h1, next_same y (by rw [hth, hlk]) (by rw [hth, hfi]) (fun _ => rfl)⟩

theorem lock_keep (n l : Int) (hR : Ring m S) : Keep m (lockF m n l).2.2 S := by
  unfold lockF
  split
  · exact Keep.refl hR
  · rename_i ha
    obtain ⟨hn, hl, hg⟩ := ask_ok n l (by simpa using ha)
    have hS := hR.off hg
    split
    · exact Keep.refl hR
    · split
      · rename_i h0
        intro x hx
        obtain ⟨h1, h2, h3⟩ := hR x hx
        refine ⟨h1, next_same x rfl rfl (fun hk => ?_)⟩
        have hne : (m.th x).lk - 1 ≠ l := fun he => h2 (by rw [next_lk x hk, he, h0])
        by_cases c : ((m.th x).lk - 1).toNat = l.toNat
        · exfalso
          have : (m.lo ((m.th x).lk - 1)) = m.lo l := by simp only [Bk.lo, c]
          exact h2 (by rw [next_lk x hk, this, h0])
        · simp only [Bk.lo, Bk.setL]
          rw [getD_set_ne _ _ _ _ _ (fun e => c e.symm)]
      · have k1 : Keep m (m.setL l { m.lo l with row := (m.lo l).row ++ [n] }) S := fun x hx => by
          obtain ⟨h1, h2, h3⟩ := hR x hx
          refine ⟨h1, next_same x rfl rfl (fun hk => ?_)⟩
          by_cases c : ((m.th x).lk - 1).toNat = l.toNat
          · have hl2 := (isL_iff m l).1 hl
            simp only [Bk.lo, Bk.setL, c]
            rw [getD_set_eq _ _ _ _ (by omega)]
          · simp only [Bk.lo, Bk.setL]
            rw [getD_set_ne _ _ _ _ _ (fun e => c e.symm)]
        exact k1.trans (setT_keep (m := m.setL l { m.lo l with row := (m.lo l).row ++ [n] }) (show m.is n = true from hn) _ (k1.ring hR) hS)

theorem unlock_keep (ok : Ok m) (n l : Int) (hR : Ring m S) : Keep m (unlockF m n l).2.2 S := by
  unfold unlockF
  split
  · exact Keep.refl hR
  · rename_i ha
    obtain ⟨hn, hl, hg⟩ := ask_ok n l (by simpa using ha)
    split
    · exact Keep.refl hR
    · rename_i ho
      exact hand_keep (OkN.of ok n (fun _ => True)) l hl hR (hR.off hg) (by simpa using ho)

theorem join_keep (n f : Int) (hR : Ring m S) : Keep m (joinF m n f).2.2.2 S := by
  unfold joinF
  split
  · exact Keep.refl hR
  · rename_i h1
    split
    · exact Keep.refl hR
    · rename_i h2
      split
      · exact Keep.refl hR
      · split
        · exact Keep.refl hR
        · refine setT_keep (by cases hh : m.is n <;> simp_all) _ hR (hR.off (by cases hh : (m.th n).goes <;> simp_all))

theorem endF_keep (ok : Ok m) (n x e : Int) (hR : Ring m S) : Keep m (endF m n x e).2.2 S := by
  unfold endF
  split
  · exact Keep.refl hR
  · rename_i h1
    split
    · exact Keep.refl hR
    · rename_i h2
      exact end_keep ok x e (by simpa using h1) (by simpa using h2) hR

theorem start_keep (hR : Ring m S) : Keep m (start m).2.2 S := by
  unfold start
  split
  · exact Keep.refl hR
  · intro x hx
    obtain ⟨h1, h2, h3⟩ := hR x hx
    have hi := (is_iff m x).1 h1
    have hth : (⟨m.ths ++ [t0], m.lks, m.gl⟩ : Bk).th x = m.th x := by
      simp only [Bk.th, List.getD_eq_getElem?_getD]
      rw [List.getElem?_append_left (by omega)]
    exact ⟨by rw [is_iff]; simp; omega, next_same x (by show ((⟨m.ths ++ [t0], m.lks, m.gl⟩ : Bk).th x).lk = _; rw [hth]) (by show ((⟨m.ths ++ [t0], m.lks, m.gl⟩ : Bk).th x).fin = _; rw [hth]) (fun _ => rfl)⟩

theorem setGlobal_keep (i y : Int) (hR : Ring m S) : Keep m (setGlobalF m i y).2.2 S := by
  unfold setGlobalF
  split
  · exact fun x hx => ⟨(hR x hx).1, rfl⟩
  · exact Keep.refl hR

/-- The k-th one ahead. -/
def nextN (m : Bk) : Nat → Int → Int
  | 0, x => x
  | k + 1, x => nextN m k (next m x)
theorem nextN_succ (m : Bk) : ∀ (k : Nat) (x : Int), nextN m (k + 1) x = next m (nextN m k x)
  | 0, _ => rfl
  | k + 1, x => nextN_succ m k (next m x)

theorem chase_found {i : Int} (hi : i ≠ 0) : ∀ (k : Nat) (a : Int), chase m i k a = i → ∃ j, nextN m j a = i ∧ ∀ j', j' < j → nextN m j' a ≠ 0
  | 0, a, h => ⟨0, h, fun _ hj => by omega⟩
  | k + 1, a, h => by
    by_cases c : a = 0 ∨ a = i
    · rw [chase_stop m i a _ c] at h
      exact ⟨0, h, fun _ hj => by omega⟩
    · rw [chase_step m i a k c] at h
      obtain ⟨j, h1, h2⟩ := chase_found hi k (next m a) h
      refine ⟨j + 1, h1, fun j' hj => ?_⟩
      cases j' with
      | zero => exact fun e => c (.inl e)
      | succ j' => exact h2 j' (by omega)

theorem stuck_ring (ok : Ok m) (i : Int) (hi : m.is i = true) (h : stuckI m i = true) : ∃ S, S i ∧ Ring m S := by
  have hi1 := (is_iff m i).1 hi
  simp only [stuckI, beq_iff_eq] at h
  obtain ⟨p, h1, h2⟩ := chase_found (by omega) _ _ h
  have h3 : ∀ j, j ≤ p → nextN m j i ≠ 0 := fun j hj => by
    cases j with
    | zero => show i ≠ 0; omega
    | succ j => exact h2 j (by omega)
  have h4 : ∀ j, j ≤ p → m.is (nextN m j i) = true := fun j => by
    induction j with
    | zero => exact fun _ => hi
    | succ j ih =>
      intro hj
      have := next_valid ok _ (ih (by omega))
      rw [← nextN_succ] at this
      rcases this with h | h
      · exact absurd h (h3 _ hj)
      · exact h
  have h5 : nextN m (p + 1) i = i := h1
  refine ⟨fun x => ∃ j, j ≤ p ∧ x = nextN m j i, ⟨0, by omega, rfl⟩, ?_⟩
  rintro x ⟨j, hj, rfl⟩
  refine ⟨h4 j hj, ?_⟩
  rw [← nextN_succ]
  by_cases c : j = p
  · subst c
    rw [h5]
    exact ⟨by omega, 0, by omega, rfl⟩
  · exact ⟨h3 _ (by omega), j + 1, by omega, rfl⟩

theorem chase_keep (hR : Ring m S) (k : Keep m m' S) (i : Int) : ∀ (n : Nat) (a : Int), S a → chase m' i n a = chase m i n a
  | 0, _, _ => rfl
  | n + 1, a, ha => by
    by_cases c : a = 0 ∨ a = i
    · rw [chase_stop _ _ _ _ c, chase_stop _ _ _ _ c]
    · rw [chase_step _ _ _ _ c, chase_step _ _ _ _ c, (k a ha).2]
      exact chase_keep hR k i n _ (hR a ha).2.2
theorem chase_more (i : Int) (hi : i ≠ 0) : ∀ (n d : Nat) (a : Int), chase m i n a = i → chase m i (n + d) a = i
  | 0, d, a, h => by
    have h' : a = i := h
    rw [chase_stop m i a _ (.inr h')]; exact h'
  | n + 1, d, a, h => by
    by_cases c : a = 0 ∨ a = i
    · rw [chase_stop _ _ _ _ c] at h ⊢; exact h
    · rw [chase_step _ _ _ _ c] at h
      rw [show n + 1 + d = (n + d) + 1 from by omega, chase_step _ _ _ _ c]
      exact chase_more i hi n d _ h

theorem mem_stuckF (i : Int) : i ∈ stuckF m ↔ m.is i = true ∧ stuckI m i = true := by
  unfold stuckF
  rw [List.mem_filter, mem_rising, is_iff]

theorem stuck_keep (ok : Ok m) (hlen : m.ths.length ≤ m'.ths.length) (hk : ∀ S, Ring m S → Keep m m' S) (i : Int) (h : i ∈ stuckF m) : i ∈ stuckF m' := by
  rw [mem_stuckF] at h ⊢
  obtain ⟨hi, hs⟩ := h
  obtain ⟨S, hS, hR⟩ := stuck_ring ok i hi hs
  have k := hk S hR
  have hi1 := (is_iff m i).1 hi
  refine ⟨(k i hS).1, ?_⟩
  simp only [stuckI, beq_iff_eq] at hs ⊢
  rw [(k i hS).2, chase_keep hR k i _ _ (hR i hS).2.2]
  obtain ⟨d, hd⟩ : ∃ d, m'.ths.length = m.ths.length + d := ⟨m'.ths.length - m.ths.length, by omega⟩
  rw [hd]
  exact chase_more i (by omega) _ d _ hs

theorem stuck_waits (ok : Ok m) (i : Int) (h : i ∈ stuckF m) : m.is i = true ∧ waitsF m i = true ∧ (m.th i).en = false := by
  rw [mem_stuckF] at h
  obtain ⟨hi, hs⟩ := h
  obtain ⟨S, hS, hR⟩ := stuck_ring ok i hi hs
  obtain ⟨_, h2, _⟩ := hR i hS
  refine ⟨hi, ?_⟩
  rcases ok.lk i hi with h | ⟨h, _, hf, he⟩
  · rw [next_fin i h] at h2
    rcases ok.fin i hi with hf | ⟨_, _, _, he⟩
    · exact absurd hf h2
    · exact ⟨by simp [waitsF, hi, Th.waits, h2], he⟩
  · have : (m.th i).lk ≠ 0 := fun e => h2 (by rw [next_fin i e, hf])
    exact ⟨by simp [waitsF, hi, Th.waits, this], he⟩

end Lk
end Go.Proofs.YtkfdoocmapjkbaaDoor
