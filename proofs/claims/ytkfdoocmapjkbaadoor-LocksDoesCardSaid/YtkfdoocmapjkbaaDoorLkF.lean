/- Layer 19, LocksInOrder: the state beside the rows and the joins; what holds of it; the steps. -/
import Derived.Test.YtkfdoocmapjkbaaDoorLkE1
namespace Go.Proofs.YtkfdoocmapjkbaaDoor
open Go.RowKit Hp
namespace Lk
variable {w w' W : World} {B : Nat} {m m' : Bk} {F G : List Nat} {ro : Value} {rvs : List Value} {jb : Nat}

/-- Who has not ended has told nothing yet. -/
def Zr (m : Bk) : Prop := ∀ t, m.is t = true → (m.th t).en = false → (m.th t).w = 0 ∧ (m.th t).e = 0

theorem zr_setT {m : Bk} (z : Zr m) (t : Int) (ht : m.is t = true) (y : Th) (h : y.en = (m.th t).en ∧ y.w = (m.th t).w ∧ y.e = (m.th t).e) : Zr (m.setT t y) := fun s hs he => by
  rw [is_setT] at hs
  by_cases c : s = t
  · subst c; rw [th_setT _ _ _ ht] at he ⊢; rw [h.1] at he; rw [h.2.1, h.2.2]; exact z s hs he
  · rw [th_setT_ne _ _ _ _ ht hs c] at he ⊢; exact z s hs he

theorem jf_setT {m : Bk} (h5 : m.ths.length = 5) (t : Int) (ht : m.is t = true) (y : Th) (i : Nat) : jf (m.setT t y) i = if (i : Int) = t then y.fin else jf m i := by
  have ht' := (is_iff m t).1 ht
  unfold jf
  by_cases c : 1 ≤ i ∧ i ≤ 5
  · rw [if_pos c, if_pos c]
    have hi : m.is (i : Int) = true := by rw [is_iff]; omega
    by_cases e : (i : Int) = t
    · rw [if_pos e, e, th_setT _ _ _ ht]
    · rw [if_neg e, th_setT_ne _ _ _ _ ht hi e]
  · rw [if_neg c, if_neg c, if_neg (by omega)]

theorem hand_zr {m : Bk} (ok : Ok m) (l : Int) (hl : m.isL l = true) (z : Zr m) : Zr (hand m l) := fun s hs he => by
  rw [hand_is] at hs
  have hr : ∀ x ∈ (m.lo l).row, m.is x = true := fun x hx => (ok.rowIn l x hl hx).1
  rw [hand_th m l s hs hr] at he ⊢
  exact z s hs he
theorem hand_jf {m : Bk} (ok : Ok m) (l : Int) (hl : m.isL l = true) (h5 : m.ths.length = 5) (i : Nat) : jf (hand m l) i = jf m i := by
  unfold jf
  by_cases c : 1 ≤ i ∧ i ≤ 5
  · rw [if_pos c, if_pos c]
    have hr : ∀ x ∈ (m.lo l).row, m.is x = true := fun x hx => (ok.rowIn l x hl hx).1
    rw [hand_th m l i (by rw [is_iff, h5]; omega) hr]
  · rw [if_neg c, if_neg c]

theorem lock_keeps {m : Bk} (z : Zr m) (h5 : m.ths.length = 5) (t l : Int) (ht : m.is t = true) : Zr (lockF m t l).2.2 ∧ ∀ i, jf (lockF m t l).2.2 i = jf m i := by
  unfold lockF
  split
  · exact ⟨z, fun _ => rfl⟩
  · split
    · exact ⟨z, fun _ => rfl⟩
    · split
      · exact ⟨z, fun _ => rfl⟩
      · refine ⟨zr_setT (m := m.setL l _) z t ht _ ⟨rfl, rfl, rfl⟩, fun i => ?_⟩
        rw [jf_setT (m := m.setL l _) h5 t ht]
        split
        · rename_i c
          have := (is_iff m t).1 ht
          unfold jf; rw [if_pos (by omega), c]
        · rfl
theorem unlock_keeps {m : Bk} (ok : Ok m) (z : Zr m) (h5 : m.ths.length = 5) (t l : Int) (hl : m.isL l = true) : Zr (unlockF m t l).2.2 ∧ ∀ i, jf (unlockF m t l).2.2 i = jf m i := by
  unfold unlockF
  split
  · exact ⟨z, fun _ => rfl⟩
  · split
    · exact ⟨z, fun _ => rfl⟩
    · exact ⟨hand_zr ok l hl z, hand_jf ok l hl h5⟩
theorem end_zr {m : Bk} (ok : Ok m) (z : Zr m) {n : Int} (x e : Int) (hn : m.is n = true) (hg : (m.th n).goes = true) : Zr (endM m n x e) := fun s hs he => by
  have hs' : m.is s = true := by rw [is_iff] at hs ⊢; rw [(end_len m n x e).1] at hs; exact hs
  by_cases c : s = n
  · subst c; rw [(end_self ok x e hn hg).1] at he; cases he
  · have h := all_we (m := Lk.ended m n x e) (by rw [Lk.ended, is_setT]; exact hn) (mid_start ok x e hn hg) m.lks.length (by simp [Lk.ended, Bk.setT]) s (by rw [Lk.ended, is_setT]; exact hs')
    have hth : (Lk.ended m n x e).th s = m.th s := by unfold ended; rw [th_setT_ne _ _ _ _ hn hs' c]
    rw [hth] at h
    have hb : ((endB m n x e).1.is s) = true := by
      obtain ⟨h1, -⟩ := handAll_inv (ended m n x e) n m.lks.length
      rw [is_iff] at hs' ⊢
      unfold endB; rw [h1]; simpa [ended, Bk.setT] using hs'
    have hen : ∀ t, (freeT n t).en = t.en ∧ (freeT n t).w = t.w ∧ (freeT n t).e = t.e := fun t => by unfold freeT; split <;> exact ⟨rfl, rfl, rfl⟩
    obtain ⟨a, b, d⟩ := hen ((endB m n x e).1.th s)
    rw [endM_th m n x e s hb] at he ⊢
    rw [a] at he
    rw [b, d]
    have h1 : ((endB m n x e).1.th s).w = (m.th s).w := h.1
    have h2 : ((endB m n x e).1.th s).e = (m.th s).e := h.2.1
    have h3 : ((endB m n x e).1.th s).en = (m.th s).en := h.2.2
    rw [h3] at he
    rw [h1, h2]
    exact z s hs' he

/-- Does k wait, as far as the first j rows tell it? -/
def wV (m : Bk) (k : Nat) (j : Nat) : Bool := (jf m k != 0) || (List.range j).any (fun (i : Nat) => decide ((k : Int) ∈ (m.lo (i : Int)).row))
theorem wV_zero (m : Bk) (k : Nat) : wV m k 0 = (jf m k != 0) := by simp [wV]
theorem wV_succ (m : Bk) (k j : Nat) : wV m k (j + 1) = (wV m k j || decide ((k : Int) ∈ (m.lo (j : Int)).row)) := by
  simp [wV, List.range_succ, List.any_append, Bool.or_assoc]
theorem wV_all {m : Bk} (ok : Ok m) (h5 : m.ths.length = 5) (h3 : m.lks.length = 3) (k : Nat) (h1 : 1 ≤ k) (hk : k ≤ 5) : waitsF m (k : Int) = wV m k 3 := by
  have hi : m.is (k : Int) = true := by rw [is_iff]; omega
  have hj : jf m k = (m.th (k : Int)).fin := by unfold jf; rw [if_pos ⟨h1, hk⟩]
  unfold waitsF wV Th.waits
  rw [hi, hj, Bool.true_and]
  congr 1
  rw [Bool.eq_iff_iff]
  simp only [bne_iff_ne, List.any_eq_true, List.mem_range, decide_eq_true_eq]
  constructor
  · intro h
    rcases ok.lk k hi with h0 | ⟨h0, h2, -⟩
    · exact absurd h0 h
    · have := (isL_iff m _).1 h0
      refine ⟨((m.th (k : Int)).lk - 1).toNat, by omega, ?_⟩
      have e : ((((m.th (k : Int)).lk - 1).toNat : Nat) : Int) = (m.th (k : Int)).lk - 1 := by omega
      rw [e]; exact h2
  · rintro ⟨i, hi3, hm⟩
    have := (ok.rowIn (i : Int) k (by rw [isL_iff]; omega) hm).2
    omega
theorem row_held {m : Bk} (ok : Ok m) (l : Int) (hl : m.isL l = true) (h : (m.lo l).row ≠ []) : ((m.lo l).ho == 0) = false := by
  rcases ok.ho l hl with h1 | h1
  · exact absurd h1.2 h
  · have := ((is_iff m _).1 h1.1).1
    simp; omega

structure Mn (w W : World) (B : Nat) (m : Bk) (F : List Nat) (ro : Value) (rvs : List Value) (G : List Nat) (jb : Nat) : Prop where
  st : St w W B m F ro rvs G
  jt : Tab W jb 3 9 (jV (jf m))
  jF : jb ∉ F
  jG : jb ∉ G
  jn : w.heap.size ≤ jb
  zr : Zr m
  same : Same [] w W

theorem Mn.both {F' G' : List Nat} {rvs' : List Value} {W' : World} (h : Mn w W B m F ro rvs G jb) (s : St w W' B m' F' ro rvs' G') (b : Both F G F' G' W W') (z : Zr m') (hj : ∀ i, jf m' i = jf m i) : Mn w W' B m' F' ro rvs' G' jb := by
  have hn : jb ∉ F' ++ G' := fun hm => by
    rcases b.new _ hm with h1 | h1
    · rcases List.mem_append.1 h1 with h2 | h2
      · exact h.jF h2
      · exact h.jG h2
    · have := h.jt.lt; omega
  refine ⟨s, (h.jt.frame b.same (fun hm => ?_)).congr (fun i _ => by simp only [jV, hj]), fun hm => hn (by simp [hm]), fun hm => hn (by simp [hm]), h.jn, z, h.same.trans' b.same (fun x hx => .inr ?_)⟩
  · rcases List.mem_append.1 hm with h2 | h2
    · exact h.jF h2
    · exact h.jG h2
  · rcases List.mem_append.1 hx with h2 | h2
    · exact h.st.own.new x h2
    · exact h.st.gn x h2

theorem Mn.quiet {W' : World} (h : Mn w W B m F ro rvs G jb) (s : Same [] W W') : Mn w W' B m F ro rvs G jb :=
  ⟨h.st.same s (by simp) (by simp), h.jt.frame s (by simp), h.jF, h.jG, h.jn, h.zr, h.same.trans s⟩
theorem Mn.upd {F' : List Nat} {W' : World} (h : Mn w W B m F ro rvs G jb) (ho : Own w W' B m F') (u : Upd F F' W W') : Mn w W' B m F' ro rvs G jb :=
  h.both (h.st.upd ho u rfl h.st.nt h.st.nl) (Both.of_upd u G) h.zr (fun _ => rfl)

set_option maxRecDepth 100000 in
theorem pick_any (c n : Int) (hn : 0 < n) (hn9 : n < 9) (h1 : -9223372036854775808 ≤ c) (h2 : c ≤ 9223372036854775807) :
    Calls Tryd.prog 10 #[.int .i64 c, .int .i64 n] W fun e w' => ∃ q : Int, 0 ≤ q ∧ q < n ∧ e = .returned (.int .i64 q) ∧ W = w' := by
  by_cases hc : c < 0
  · have e1 : -(c + 1).tmod n = (-(c + 1)).tmod n := (Int.neg_tmod _ _).symm
    have g1 : 0 ≤ -(c + 1).tmod n := by rw [e1]; exact Int.tmod_nonneg _ (by omega)
    have g2 : -(c + 1).tmod n < n := by rw [e1]; exact Int.tmod_lt_of_pos _ hn
    have G1 := Lib.hid g1
    have G2 := Lib.hid g2
    clear e1 g1 g2
    go_enter Tryd.func10, Tryd.ntmps10
    go_wp2
    go_ret
    exact ⟨_, G1.out, G2.out, rfl, rfl⟩
  · have G1 := Lib.hid (Int.emod_nonneg c (by omega : n ≠ 0))
    have G2 := Lib.hid (Int.emod_lt_of_pos c hn)
    go_enter Tryd.func10, Tryd.ntmps10
    go_wp2
    go_ret
    exact ⟨_, G1.out, G2.out, rfl, rfl⟩
end Lk
end Go.Proofs.YtkfdoocmapjkbaaDoor
