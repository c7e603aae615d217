/- Layer 8, the plain side: walks through a procedure: what both answers on depths tell of. -/
import Derived.Test.YticaipedpcmhfaaGreatDoorCd
import Derived.Test.YticaipedpcmhfaaGreatDoorCkW3
import Derived.Test.YticaipedpcmhfaaGreatDoorCkW4
import Derived.Test.YticaipedpcmhfaaGreatDoorHpMake
import Derived.Deep.LoopGhost
import Derived.Deep.RegionHeld3
import Derived.Deep.DeepCutAuto
namespace Go.Proofs.YticaipedpcmhfaaGreatDoor
namespace Cd

/-- A walk comes to a place with that depth. -/
inductive Wk (code : List In) : Nat → Int → Prop
  | zero : Wk code 0 0
  | step {i j : Nat} {d : Int} (h : Wk code i d) (hi : i < code.length) (hj : j ∈ succs code i) : Wk code j (d + delta code i)

def Two (code : List In) (k : Nat) : Prop := ∃ d e, d ≠ e ∧ Wk code k d ∧ Wk code k e
theorem Two.step {code : List In} {i j : Nat} (h : Two code i) (hi : i < code.length) (hj : j ∈ succs code i) : Two code j := by
  obtain ⟨d, e, hne, h1, h2⟩ := h
  exact ⟨_, _, fun q => hne (by omega), h1.step hi hj, h2.step hi hj⟩

/-- What the program's table tells is so. -/
structure Snd (code : List In) (s : List De × List Nat) : Prop where
  one : ∀ k, k < s.1.length → 1 ≤ (s.1.getD k ⟨2, 0⟩).ways → Wk code k (s.1.getD k ⟨2, 0⟩).deep
  two : ∀ k, k < s.1.length → (s.1.getD k ⟨2, 0⟩).ways = 2 → Two code k

theorem comes_snd {code : List In} {s : List De × List Nat} (h : Snd code s) (a : Nat) (d : De) (ha : a < s.1.length) (h1 : Wk code a d.deep) (h2 : d.ways = 2 → Two code a) (hd : 1 ≤ d.ways ∧ d.ways ≤ 2) (hx : (s.1.getD a ⟨2, 0⟩).ways ≤ 2) : Snd code (comes s a d) := by
  unfold comes
  dsimp only
  split
  · refine ⟨fun k hk hw => ?_, fun k hk hw => ?_⟩
    · dsimp only at hk hw ⊢
      rw [getD_set _ _ _ _ _ ha] at hw ⊢
      split
      · rename_i e; subst e; exact h1
      · rename_i e; rw [if_neg e] at hw; exact h.one k (by simpa using hk) hw
    · dsimp only at hk hw ⊢
      rw [getD_set _ _ _ _ _ ha] at hw
      split at hw
      · rename_i e; subst e; exact h2 hw
      · exact h.two k (by simpa using hk) hw
  · rename_i h0
    split
    · exact h
    · rename_i hn
      have hw1 : 1 ≤ (s.1.getD a ⟨2, 0⟩).ways := by omega
      have hold := h.one a ha hw1
      refine ⟨fun k hk hw => ?_, fun k hk hw => ?_⟩
      · dsimp only at hk hw ⊢
        rw [getD_set _ _ _ _ _ ha] at hw ⊢
        split
        · rename_i e; subst e; exact hold
        · rename_i e; rw [if_neg e] at hw; exact h.one k (by simpa using hk) hw
      · dsimp only at hk hw ⊢
        rw [getD_set _ _ _ _ _ ha] at hw
        split at hw
        · rename_i e
          subst e
          by_cases e2 : d.ways = 2
          · exact h2 e2
          · have e1 : d.ways = 1 := by omega
            exact ⟨_, _, fun q => hn (.inr ⟨e1, q.symm⟩), hold, h1⟩
        · exact h.two k (by simpa using hk) hw

theorem comes_len (s : List De × List Nat) (a : Nat) (d : De) : (comes s a d).1.length = s.1.length := by
  unfold comes
  dsimp only
  repeat' split
  all_goals simp

theorem round_snd {code : List In} (w : Ways code) {s : List De × List Nat} (g : Good code.length s) (hne : s.2 ≠ []) (h : Snd code s) : Snd code (round code s) := by
  obtain ⟨at_, hat⟩ : ∃ a, a = s.2.getLastD 0 := ⟨_, rfl⟩
  have hmem : at_ ∈ s.2 := by
    rw [hat, List.getLastD_eq_getLast?, List.getLast?_eq_some_getLast hne]; exact List.getLast_mem hne
  obtain ⟨h1, h2⟩ := g.todo at_ hmem
  have h3 := g.le at_
  have hlen := g.len
  have hj := w.jump at_ h1
  have hla := w.last at_ h1
  have hs : Snd code (s.1, s.2.dropLast) := ⟨h.one, h.two⟩
  have hone := h.one at_ (by omega) h2
  have hst : ∀ j ∈ succs code at_, Wk code j ((s.1.getD at_ ⟨2, 0⟩).deep + (puts (code.getD at_ ⟨0, 0⟩) - took (code.getD at_ ⟨0, 0⟩))) := fun j hj => hone.step h1 hj
  have htw : ∀ j ∈ succs code at_, (s.1.getD at_ ⟨2, 0⟩).ways = 2 → Two code j := fun j hj e => (h.two at_ (by omega) e).step h1 hj
  unfold succs at hst htw
  unfold round
  rw [← hat]
  dsimp only at hst htw ⊢
  split
  · rename_i c
    rw [if_pos c] at hst htw
    exact comes_snd hs _ _ (by have := hj (.inl c); show _ < s.1.length; omega) (hst _ (by simp)) (htw _ (by simp)) ⟨h2, h3⟩ (g.le _)
  · rename_i c8
    rw [if_neg c8] at hst htw
    split
    · exact hs
    · rename_i c
      rw [if_neg c] at hst htw
      split
      · rename_i c9
        rw [if_pos c9] at hst htw
        have hja := hj (.inr c9)
        have hnx := hla c8 (fun e => c (.inr e)) (fun e => c (.inl e))
        have g' : Good code.length (s.1, s.2.dropLast) := ⟨g.len, fun i hi => g.todo i ((List.dropLast_sublist s.2).subset hi), g.le⟩
        have q := comes_snd hs (code.getD at_ ⟨0, 0⟩).a.toNat ⟨(s.1.getD at_ ⟨2, 0⟩).ways, _⟩ (by show _ < s.1.length; omega) (hst _ (by simp)) (htw _ (by simp)) ⟨h2, h3⟩ (g.le _)
        exact comes_snd q _ _ (by rw [comes_len]; show _ < s.1.length; omega) (hst _ (by simp)) (htw _ (by simp)) ⟨h2, h3⟩ ((comes_good g' (code.getD at_ ⟨0, 0⟩).a.toNat ⟨(s.1.getD at_ ⟨2, 0⟩).ways, (s.1.getD at_ ⟨2, 0⟩).deep + (puts (code.getD at_ ⟨0, 0⟩) - took (code.getD at_ ⟨0, 0⟩))⟩ hja ⟨h2, h3⟩).le _)
      · rename_i c9
        rw [if_neg c9] at hst htw
        have hnx := hla c8 (fun e => c (.inr e)) (fun e => c (.inl e))
        exact comes_snd hs _ _ (by show _ < s.1.length; omega) (hst _ (by simp)) (htw _ (by simp)) ⟨h2, h3⟩ (g.le _)

theorem rounds_snd {code : List In} (w : Ways code) : ∀ (k : Nat) (s : List De × List Nat), Good code.length s → Snd code s → Snd code (rounds code k s)
  | 0, s, _, h => h
  | k + 1, s, g, h => by
    unfold rounds
    split
    · exact h
    · rename_i e
      exact rounds_snd w k _ (round_good w g e).1 (round_snd w g e h)

theorem start_snd {code : List In} (_ : 1 ≤ code.length) : Snd code (start code.length) := by
  have h0 : ∀ k, 1 ≤ ((start code.length).1.getD k ⟨2, 0⟩).ways → k < (start code.length).1.length → k = 0 ∧ ((start code.length).1.getD k ⟨2, 0⟩) = ⟨1, 0⟩ := fun k hw hk => by
    simp only [start] at hw hk ⊢
    cases k with
    | zero => exact ⟨rfl, rfl⟩
    | succ k =>
      simp only [List.length_cons, List.length_replicate] at hk
      simp only [List.getD_eq_getElem?_getD, List.getElem?_cons_succ, List.getElem?_replicate] at hw
      rw [if_pos (by omega)] at hw
      exact absurd hw (by decide)
  refine ⟨fun k hk hw => ?_, fun k hk hw => ?_⟩
  · obtain ⟨rfl, e⟩ := h0 k hw hk
    rw [e]; exact .zero
  · obtain ⟨rfl, e⟩ := h0 k (by omega) hk
    rw [e] at hw; exact absurd hw (by decide)

theorem depths_snd {code : List In} (w : Ways code) (hn : 1 ≤ code.length) (x : List Nat) : Snd code (depths code, x) :=
  ⟨(rounds_snd w _ _ (start_good hn) (start_snd hn)).one, (rounds_snd w _ _ (start_good hn) (start_snd hn)).two⟩

theorem succs_in {code : List In} (w : Ways code) {a : Nat} (h : a < code.length) : ∀ j ∈ succs code a, j < code.length := fun j hj => by
  unfold succs at hj
  dsimp only at hj
  split at hj
  · rename_i c; rw [List.mem_singleton.1 hj]; exact w.jump a h (.inl c)
  · rename_i c8
    split at hj
    · cases hj
    · rename_i c
      split at hj
      · rename_i c9
        rcases List.mem_cons.1 hj with rfl | hj
        · exact w.jump a h (.inr c9)
        · rw [List.mem_singleton.1 hj]; exact w.last a h c8 (fun e => c (.inr e)) (fun e => c (.inl e))
      · rw [List.mem_singleton.1 hj]; exact w.last a h c8 (fun e => c (.inr e)) (fun e => c (.inl e))

/-- Whatever walk there is, the program's table knows of it. -/
theorem wk_depths {code : List In} (w : Ways code) (hn : 1 ≤ code.length) {k : Nat} {d : Int} (h : Wk code k d) : k < code.length ∧ 1 ≤ ((depths code).getD k ⟨2, 0⟩).ways ∧ (((depths code).getD k ⟨2, 0⟩).ways = 2 ∨ ((depths code).getD k ⟨2, 0⟩).deep = d) := by
  induction h with
  | zero => exact ⟨hn, (depths_zero code).1, .inr (depths_zero code).2⟩
  | step h hi hj ih =>
    obtain ⟨_, ih1, ih2⟩ := ih
    have ht := depths_told w hn _ hi ih1 _ hj
    refine ⟨succs_in w hi _ hj, ?_, ?_⟩
    · have := ht.came; omega
    · rcases ht with h2 | ⟨h1, h2, h3⟩
      · exact .inl h2
      · rcases ih2 with e | e
        · omega
        · right; rw [h3, e]

/-- What the document's lists tell is so, and all. -/
structure RefOk (code : List In) (come two : Nat → Bool) (dep : Nat → Int) : Prop where
  c1 : ∀ k, k < code.length → come k = true → Wk code k (dep k)
  c2 : ∀ k d, Wk code k d → come k = true
  c3 : ∀ k, k < code.length → two k = true → Two code k
  c4 : ∀ k d, Wk code k d → two k = true ∨ d = dep k
def badR (code : List In) (come two : Nat → Bool) (dep : Nat → Int) (k : Nat) : Bool := !come k || two k || decide (dep k < took (code.getD k ⟨0, 0⟩)) || decide (255 < dep k)

theorem bad_same {code : List In} (w : Ways code) (hn : 1 ≤ code.length) {come two : Nat → Bool} {dep : Nat → Int} (h : RefOk code come two dep) (k : Nat) (hk : k < code.length) : badR code come two dep k = badD code k := by
  have hg := depths_good w hn
  have hs := depths_snd w hn []
  have hlen : (depths code).length = code.length := hg.len
  have hle : ((depths code).getD k ⟨2, 0⟩).ways ≤ 2 := hg.le k
  have s1 := hs.one k (by dsimp only; omega)
  have s2 := hs.two k (by dsimp only; omega)
  dsimp only at s1 s2
  unfold badR badD
  dsimp only
  generalize hx : (depths code).getD k ⟨2, 0⟩ = x at *
  cases hc : come k with
  | false =>
    have : x.ways = 0 := by
      rcases Nat.eq_zero_or_pos x.ways with e | e
      · exact e
      · have := h.c2 k _ (s1 e); rw [hc] at this; cases this
    simp [this]
  | true =>
    have hw := h.c1 k hk hc
    have hw' := wk_depths w hn hw
    rw [hx] at hw'
    cases ht : two k with
    | true =>
      obtain ⟨d, e, hne, h1, h2⟩ := h.c3 k hk ht
      have q1 := wk_depths w hn h1
      have q2 := wk_depths w hn h2
      rw [hx] at q1 q2
      have : x.ways = 2 := by
        rcases q1.2.2 with e1 | e1
        · exact e1
        · rcases q2.2.2 with e2 | e2
          · exact e2
          · exact absurd (e1.symm.trans e2) hne
      simp [this]
    | false =>
      have hno : x.ways ≠ 2 := fun e => by
        obtain ⟨d, e, hne, h1, h2⟩ := s2 e
        rcases h.c4 k _ h1 with q | q
        · rw [ht] at q; cases q
        · rcases h.c4 k _ h2 with q' | q'
          · rw [ht] at q'; cases q'
          · exact hne (q.trans q'.symm)
      have h1 : x.ways = 1 := by omega
      have hd : x.deep = dep k := by rcases hw'.2.2 with e | e; exact absurd e hno; exact e
      rw [h1, hd]
      simp only [Bool.not_true, Bool.false_or, bne_self_eq_false]
      rw [show decide (255 < dep k) = decide (256 ≤ dep k) from decide_eq_decide.2 (by omega)]
/-- Marks and a row of those marked. -/
structure Bf (n : Nat) (m : List Bool) (row : List Nat) : Prop where
  len : m.length = n
  inn : ∀ i ∈ row, i < n ∧ m.getD i false = true
  all : ∀ i, m.getD i false = true → i ∈ row
  nd : row.Nodup

theorem nodup_le : ∀ (n : Nat) (l : List Nat), l.Nodup → (∀ i ∈ l, i < n) → l.length ≤ n := fun n l h1 h2 => by
  have := List.Nodup.length_le_of_subset h1 (l₂ := List.range n) (fun i hi => List.mem_range.2 (h2 i hi))
  simpa using this
theorem Bf.le {n : Nat} {m : List Bool} {row : List Nat} (h : Bf n m row) : row.length ≤ n := nodup_le n row h.nd (fun i hi => (h.inn i hi).1)
theorem getD_setB (m : List Bool) (j i : Nat) : (m.set j true).getD i false = (decide (i = j ∧ j < m.length) || m.getD i false) := by
  rw [getD_set']
  by_cases h : i = j ∧ j < m.length
  · rw [if_pos h]; simp [h]
  · rw [if_neg h]; simp [h]
theorem Bf.push {n : Nat} {m : List Bool} {row : List Nat} (h : Bf n m row) {j : Nat} (hj : j < n) (hm : m.getD j false = false) : Bf n (m.set j true) (row ++ [j]) := by
  refine ⟨by simpa using h.len, fun i hi => ?_, fun i hi => ?_, ?_⟩
  · rw [getD_setB]
    rcases List.mem_append.1 hi with q | q
    · exact ⟨(h.inn i q).1, by rw [(h.inn i q).2, Bool.or_true]⟩
    · rw [List.mem_singleton.1 q]
      exact ⟨hj, by simp [h.len, hj]⟩
  · rw [getD_setB] at hi
    rcases (Bool.or_eq_true _ _).mp hi with q | q
    · exact List.mem_append_right _ (by simp at q; simp [q.1])
    · exact List.mem_append_left _ (h.all i q)
  · refine List.nodup_append.2 ⟨h.nd, by simp, fun a ha b hb e => ?_⟩
    rw [List.mem_singleton.1 hb] at e
    have := (h.inn a ha).2
    rw [e, hm] at this; cases this

/-- The first search: where walks come, with one depth of each. -/
structure S1 (code : List In) (come : List Bool) (dep : List Int) (row : List Nat) : Prop where
  bf : Bf code.length come row
  dl : dep.length = code.length
  zc : come.getD 0 false = true
  zd : dep.getD 0 0 = 0
  wk : ∀ i, come.getD i false = true → Wk code i (dep.getD i 0)
/-- .. of those up to k all behind them are marked. -/
def Done (code : List In) (m : List Bool) (row : List Nat) (k : Nat) : Prop := ∀ q, q < k → ∀ j ∈ succs code (row.getD q 0), m.getD j false = true

theorem Done.push {code : List In} {m : List Bool} {row : List Nat} {k : Nat} (h : Done code m row k) (hk : k ≤ row.length) (j : Nat) : Done code (m.set j true) (row ++ [j]) k := fun q hq i hi => by
  have e : (row ++ [j]).getD q 0 = row.getD q 0 := by simp [List.getD, List.getElem?_append_left (show q < row.length by omega)]
  rw [e] at hi
  rw [getD_setB, h q hq i hi, Bool.or_true]

theorem S1.push {code : List In} {come : List Bool} {dep : List Int} {row : List Nat} (h : S1 code come dep row) {j : Nat} (hj : j < code.length) (hm : come.getD j false = false) {d : Int} (hw : Wk code j d) : S1 code (come.set j true) (dep.set j d) (row ++ [j]) := by
  have h0 : j ≠ 0 := fun e => by rw [e, h.zc] at hm; cases hm
  refine ⟨h.bf.push hj hm, by simpa using h.dl, by rw [getD_setB, h.zc, Bool.or_true], ?_, fun i hi => ?_⟩
  · rw [getD_set', if_neg (fun e => h0 e.1.symm)]; exact h.zd
  · rw [getD_set']
    rw [getD_setB] at hi
    split
    · rename_i e; rw [e.1]; exact hw
    · rename_i e
      rcases (Bool.or_eq_true _ _).mp hi with q | q
      · have := of_decide_eq_true q
        exact absurd ⟨this.1, by rw [h.dl]; exact hj⟩ e
      · exact h.wk i q

theorem S1.start {n : Nat} {code : List In} (hn : code.length = n + 1) : S1 code ((List.replicate (n + 1) false).set 0 true) (List.replicate (n + 1) 0) [0] := by
  have hm : ∀ i, ((List.replicate (n + 1) false).set 0 true).getD i false = decide (i = 0) := fun i => by
    rw [getD_setB]
    simp only [List.length_replicate]
    cases i with
    | zero => simp
    | succ i =>
      simp only [List.getD_eq_getElem?_getD, List.getElem?_replicate]
      split <;> simp
  refine ⟨⟨by simp [hn], fun i hi => ?_, fun i hi => ?_, by simp⟩, by simp [hn], by rw [hm]; rfl, by simp, fun i hi => ?_⟩
  · rw [List.mem_singleton.1 hi]; exact ⟨by omega, by rw [hm]; rfl⟩
  · rw [hm] at hi; simp at hi; simp [hi]
  · rw [hm] at hi
    have : i = 0 := of_decide_eq_true hi
    rw [this]
    simp only [List.getD_eq_getElem?_getD, List.getElem?_replicate]
    exact .zero

/-- Whatever walk there is, the search finds it. -/
theorem S1.all {code : List In} {come : List Bool} {dep : List Int} {row : List Nat} (h : S1 code come dep row) (hd : Done code come row row.length) {k : Nat} {d : Int} (hw : Wk code k d) : come.getD k false = true := by
  induction hw with
  | zero => exact h.zc
  | step _ hi hj ih =>
    obtain ⟨q, hq, e⟩ := List.getElem_of_mem (h.bf.all _ ih)
    exact hd q hq _ (by rw [List.getD, List.getElem?_eq_getElem hq]; simpa [e] using hj)

/-- The second pass: what two depths come to. -/
structure S2 (code : List In) (come : List Bool) (dep : List Int) (two : List Bool) (k : Nat) : Prop where
  len : two.length = code.length
  ok : ∀ j, two.getD j false = true → Two code j
  past : ∀ i, i < k → come.getD i false = true → ∀ j ∈ succs code i, two.getD j false = true ∨ dep.getD j 0 = dep.getD i 0 + delta code i

theorem S2.start (code : List In) (come : List Bool) (dep : List Int) : S2 code come dep (List.replicate code.length false) 0 :=
  ⟨by simp, fun j hj => by
    simp only [List.getD_eq_getElem?_getD, List.getElem?_replicate] at hj
    split at hj <;> simp at hj, by omega⟩
theorem S2.mark {code : List In} {come : List Bool} {dep : List Int} {two : List Bool} {k : Nat} (h : S2 code come dep two k) {j : Nat} (hj : Two code j) : S2 code come dep (two.set j true) k :=
  ⟨by simpa using h.len, fun i hi => by
    rw [getD_setB] at hi
    rcases (Bool.or_eq_true _ _).mp hi with q | q
    · rw [(of_decide_eq_true q).1]; exact hj
    · exact h.ok i q, fun i hi hc i2 hi2 => by
    rcases h.past i hi hc i2 hi2 with q | q
    · left; rw [getD_setB, q, Bool.or_true]
    · exact .inr q⟩
theorem S2.next {code : List In} {come : List Bool} {dep : List Int} {two : List Bool} {k : Nat} (h : S2 code come dep two k) (hk : come.getD k false = true → ∀ j ∈ succs code k, two.getD j false = true ∨ dep.getD j 0 = dep.getD k 0 + delta code k) : S2 code come dep two (k + 1) :=
  ⟨h.len, h.ok, fun i hi hc => by
    rcases Nat.lt_or_eq_of_le (Nat.le_of_lt_succ hi) with q | q
    · exact h.past i q hc
    · subst q; exact hk hc⟩

/-- The row of those marked below k. -/
structure Cf (m : List Bool) (row : List Nat) (k : Nat) : Prop where
  inn : ∀ i ∈ row, i < k ∧ m.getD i false = true
  all : ∀ i, i < k → m.getD i false = true → i ∈ row
  nd : row.Nodup
theorem Cf.start (m : List Bool) : Cf m [] 0 := ⟨(fun i h => by cases h), (fun i h => by omega), by simp⟩
theorem Cf.skip {m : List Bool} {row : List Nat} {k : Nat} (h : Cf m row k) (hk : m.getD k false = false) : Cf m row (k + 1) :=
  ⟨fun i hi => ⟨by have := (h.inn i hi).1; omega, (h.inn i hi).2⟩, fun i hi hm => h.all i (by
    rcases Nat.lt_or_eq_of_le (Nat.le_of_lt_succ hi) with q | q
    · exact q
    · rw [q, hk] at hm; cases hm) hm, h.nd⟩
theorem Cf.push {m : List Bool} {row : List Nat} {k : Nat} (h : Cf m row k) (hk : m.getD k false = true) : Cf m (row ++ [k]) (k + 1) :=
  ⟨fun i hi => by
    rcases List.mem_append.1 hi with q | q
    · exact ⟨by have := (h.inn i q).1; omega, (h.inn i q).2⟩
    · rw [List.mem_singleton.1 q]; exact ⟨Nat.lt_succ_self _, hk⟩, fun i hi hm => by
    rcases Nat.lt_or_eq_of_le (Nat.le_of_lt_succ hi) with q | q
    · exact List.mem_append_left _ (h.all i q hm)
    · exact List.mem_append_right _ (by simp [q]), by
    refine List.nodup_append.2 ⟨h.nd, by simp, fun a ha b hb e => ?_⟩
    rw [List.mem_singleton.1 hb] at e
    have := (h.inn a ha).1
    omega⟩
theorem Cf.bf {m : List Bool} {row : List Nat} {n : Nat} (h : Cf m row n) (hl : m.length = n) : Bf n m row :=
  ⟨hl, h.inn, fun i hi => h.all i (by
    rcases Nat.lt_or_ge i n with q | q
    · exact q
    · rw [List.getD, List.getElem?_eq_none (by omega)] at hi; cases hi) hi, h.nd⟩
theorem Cf.le {m : List Bool} {row : List Nat} {k : Nat} (h : Cf m row k) : row.length ≤ k := nodup_le k row h.nd (fun i hi => (h.inn i hi).1)

/-- All of it together. -/
theorem ref_ok {code : List In} (_ : Ways code) {come two : List Bool} {dep : List Int} {row row2 : List Nat} (h1 : S1 code come dep row) (hd : Done code come row row.length) (h2 : S2 code come dep two code.length) (hb : Bf code.length two row2) (hd2 : Done code two row2 row2.length) :
    RefOk code (fun k => come.getD k false) (fun k => two.getD k false) (fun k => dep.getD k 0) := by
  refine ⟨fun k _ => h1.wk k, fun k d hw => h1.all hd hw, fun k _ => h2.ok k, fun k d hw => ?_⟩
  induction hw with
  | zero => exact .inr h1.zd.symm
  | step hw hi hj ih =>
    rename_i i j d
    rcases ih with q | q
    · left
      obtain ⟨m, hm, e⟩ := List.getElem_of_mem (hb.all _ q)
      exact hd2 m hm _ (by rw [List.getD, List.getElem?_eq_getElem hm]; simpa [e] using hj)
    · rcases h2.past i hi (h1.all hd hw) j hj with q2 | q2
      · exact .inl q2
      · right; rw [q2, q]
end Cd
end Go.Proofs.YticaipedpcmhfaaGreatDoor
/- Layer 8, the document's answer: what an instruction takes, what it puts; the places behind one. -/
namespace Go.Proofs.YticaipedpcmhfaaGreatDoor
open Go.RowKit Hp
namespace Ck
variable {w w' : World}

set_option maxHeartbeats 4000000 in
theorem args_any (k : Nat) (h1 : 1 ≤ k) (h2 : k ≤ 22) : Calls Tryz.prog 132 #[.int .i64 k] w fun e w' => e = .returned (.int .i64 (Cd.takes k)) ∧ Same [] w w' := by
  have hk : k = 1 ∨ k = 2 ∨ k = 3 ∨ k = 4 ∨ k = 5 ∨ k = 6 ∨ k = 7 ∨ k = 8 ∨ k = 9 ∨ k = 10 ∨ k = 11 ∨ k = 12 ∨ k = 13 ∨ k = 14 ∨ k = 15 ∨ k = 16 ∨ k = 17 ∨ k = 18 ∨ k = 19 ∨ k = 20 ∨ k = 21 ∨ k = 22 := by omega
  clear h1 h2
  rcases hk with rfl | rfl | rfl | rfl | rfl | rfl | rfl | rfl | rfl | rfl | rfl | rfl | rfl | rfl | rfl | rfl | rfl | rfl | rfl | rfl | rfl | rfl
  all_goals
    go_enter Tryz.func132, Tryz.ntmps132
    go_wp2
    go_ret
    exact ⟨rfl, (Same.refl _ _).alloc _⟩

set_option maxHeartbeats 4000000 in
theorem took_r (i : Cd.In) (hop : 1 ≤ i.op ∧ i.op ≤ 18) (ha : i.op = 13 → 1 ≤ i.a ∧ i.a ≤ 22) (hl : -9223372036854775808 ≤ i.a) (hc : i.a ≤ 9223372036854775806) : Calls Tryz.prog 117 #[.agg #[.int .u8 i.op, .int .i64 i.a]] w fun e w' => e = .returned (.int .i64 (Cd.took i)) ∧ Same [] w w' := by
  obtain ⟨op, a⟩ := i
  dsimp only at *
  by_cases h13 : op = 13
  · subst h13
    obtain ⟨a1, a2⟩ := ha rfl
    obtain ⟨k, rfl⟩ : ∃ k : Nat, a = k := ⟨a.toNat, by omega⟩
    have ht := fun W => args_any (w := W) k (by omega) (by omega)
    have e : Cd.took ⟨13, (k : Int)⟩ = Cd.takes k := rfl
    rw [e]
    clear ha e
    go_enter Tryz.func117, Tryz.ntmps117
    go_wp2_with fail
    refine (ht _).mono ?_
    rintro e w2 ⟨rfl, hs⟩
    have HS := Lib.hid hs
    clear hs
    go_wp2_with fail
    go_ret
    exact ⟨rfl, ((Same.refl _ _).alloc _).trans HS.out⟩
  · clear ha
    rcases ops18 hop with rfl | rfl | rfl | rfl | rfl | rfl | rfl | rfl | rfl | rfl | rfl | rfl | rfl | rfl | rfl | rfl | rfl | rfl
    all_goals first
      | exact absurd rfl h13
      | (clear hop h13
         go_enter Tryz.func117, Tryz.ntmps117
         go_wp2
         go_ret
         exact ⟨rfl, (Same.refl _ _).alloc _⟩)

set_option maxHeartbeats 4000000 in
theorem puts_r (i : Cd.In) (hop : 1 ≤ i.op ∧ i.op ≤ 18) : Calls Tryz.prog 118 #[.agg #[.int .u8 i.op, .int .i64 i.a]] w fun e w' => e = .returned (.int .i64 (Cd.puts i)) ∧ Same [] w w' := by
  obtain ⟨op, a⟩ := i
  dsimp only at *
  rcases ops18 hop with rfl | rfl | rfl | rfl | rfl | rfl | rfl | rfl | rfl | rfl | rfl | rfl | rfl | rfl | rfl | rfl | rfl | rfl
  all_goals
    clear hop
    go_enter Tryz.func118, Tryz.ntmps118
    go_wp2
    go_ret
    exact ⟨rfl, (Same.refl _ _).alloc _⟩

/-- The places behind one, as the document lists them. -/
def succsR (code : List Cd.In) (i : Nat) : List Nat :=
  let x := code.getD i ⟨0, 0⟩
  if x.op = 12 ∨ x.op = 11 then [] else if x.op = 8 then [x.a.toNat] else if x.op = 9 then [i + 1, x.a.toNat] else [i + 1]
theorem succsR_mem (code : List Cd.In) (i j : Nat) : j ∈ succsR code i ↔ j ∈ Cd.succs code i := by
  unfold succsR Cd.succs
  dsimp only
  by_cases h8 : (code.getD i ⟨0, 0⟩).op = 8
  · rw [if_neg (by omega), if_pos h8, if_pos h8]
  · rw [if_neg h8, if_neg h8]
    by_cases h1 : (code.getD i ⟨0, 0⟩).op = 12 ∨ (code.getD i ⟨0, 0⟩).op = 11
    · rw [if_pos h1, if_pos h1]
    · rw [if_neg h1, if_neg h1]
      by_cases h9 : (code.getD i ⟨0, 0⟩).op = 9
      · rw [if_pos h9, if_pos h9]; simp only [List.mem_cons, List.not_mem_nil, or_false]; omega
      · rw [if_neg h9, if_neg h9]
theorem succsR_len (code : List Cd.In) (i : Nat) : (succsR code i).length ≤ 2 := by
  unfold succsR
  dsimp only
  repeat' split
  all_goals simp

/-- A list of numbers in a block of its own. -/
def LRow (w : World) (v : Value) (l : List Nat) (b : Nat) : Prop := (l = [] ∧ v = .slice none 0 0) ∨ (v = .slice (some ⟨b, 0, none⟩) l.length l.length ∧ Blk w b 3 (natsV l))
theorem LRow.frame {v : Value} {l : List Nat} {b : Nat} {F : List Nat} (h : LRow w v l b) (hs : Same F w w') (hn : b ∉ F) : LRow w' v l b := by
  rcases h with h | ⟨h1, h2⟩
  · exact .inl h
  · exact .inr ⟨h1, h2.frame hs hn⟩

theorem blk_end {W : World} {t b : Nat} {cs : List Value} (h : W.heap.size = b) : Blk (W.alloc (.cells cs.toArray t)) b t cs := h ▸ Blk.new W t cs

set_option maxHeartbeats 4000000 in
theorem behind_any (v : Value) (p : Cd.Pr) (hr : RPr w v p) (hf : ∀ i ∈ p.code, Cd.Fit p.code.length i) (k : Nat) (hk : k < p.code.length) (hm : p.code.length ≤ 4096) : Calls Tryz.prog 116 #[v, .int .i64 k] w fun e w' => ∃ lv b, e = .returned lv ∧ w.heap.size ≤ b ∧ b < w'.heap.size ∧ LRow w' lv (succsR p.code k) b ∧ Same [] w w' := by
  obtain ⟨kv, rfl, hk2⟩ := hr
  obtain ⟨A, cap, rfl, k1, k2, k3⟩ := hk2
  obtain ⟨b, off, rfl, hb, hc⟩ := k3 (by omega)
  unfold maxLen at k2
  have hfi := hf _ (Cd.getD_mem p.code k hk)
  have c0 := hc k 0 hk (by omega)
  have c1 := hc k 1 hk (by omega)
  rw [Nat.add_zero] at c0
  unfold fI at c0 c1
  rw [if_pos rfl] at c0
  rw [if_neg (by decide)] at c1
  obtain ⟨x, hx⟩ : ∃ x, p.code.getD k ⟨0, 0⟩ = x := ⟨_, rfl⟩
  have hS : succsR p.code k = if x.op = 12 ∨ x.op = 11 then [] else if x.op = 8 then [x.a.toNat] else if x.op = 9 then [k + 1, x.a.toNat] else [k + 1] := by unfold succsR; rw [hx]
  rw [hx] at c0 c1 hfi
  obtain ⟨ja, hja⟩ : ∃ ja : Nat, x.a = ja := ⟨x.a.toNat, by have := hfi.a; omega⟩
  rw [hja] at c1 hS
  rw [hS, Int.toNat_natCast]
  have hop := hfi.op
  obtain ⟨op, hop2⟩ : ∃ op, x.op = op := ⟨_, rfl⟩
  rw [hop2] at c0 hop ⊢
  obtain ⟨n, hn⟩ : ∃ n, p.code.length = n := ⟨_, rfl⟩
  rw [hn] at hk hm k1 ⊢
  clear hc hfi hx hS hja hop2 k3 hf hn
  rcases ops18 hop with rfl | rfl | rfl | rfl | rfl | rfl | rfl | rfl | rfl | rfl | rfl | rfl | rfl | rfl | rfl | rfl | rfl | rfl
  all_goals
    clear hop
    simp only [Int.reduceEq, or_self, or_false, or_true, reduceIte]
    go_enter Tryz.func116, Tryz.ntmps116
    go_wp2
    go_ret
    first
      | exact ⟨_, w.heap.size, rfl, Nat.le_refl _, by simp; omega, .inl ⟨rfl, rfl⟩, ((Same.refl _ _).alloc _).alloc _⟩
      | exact ⟨_, w.heap.size + 1 + 1, rfl, by omega, by simp, .inr ⟨rfl, blk_end (by simp)⟩, (((Same.refl _ _).alloc _).alloc _).alloc _⟩
end Ck
end Go.Proofs.YticaipedpcmhfaaGreatDoor
/- Layer 8, the document's answer on depths: what lies in memory while it is looked for. -/
namespace Go.Proofs.YticaipedpcmhfaaGreatDoor
open Go.RowKit Hp
namespace Ck
variable {w w' : World}

def boolsV (l : List Bool) : List Value := l.map Value.bool
def intsV (l : List Int) : List Value := l.map (Value.int .i64)

/-- The procedure's box, the three lists. -/
structure WR (w0 W : World) (P C T D : Nat) (ps : List Value) (come two : List Bool) (dep : List Int) : Prop where
  pb : Blk W P 68 ps
  cb : Blk W C 4 (boolsV come)
  tb : Blk W T 4 (boolsV two)
  db : Blk W D 3 (intsV dep)
  same : Same [] w0 W
  lo : w0.heap.size ≤ P ∧ P < C ∧ C < T ∧ T < D

theorem WR.frame {w0 : World} {P C T D : Nat} {ps : List Value} {come two : List Bool} {dep : List Int} (h : WR w0 w P C T D ps come two dep) {F : List Nat} (hs : Same F w w') (hF : ∀ x ∈ F, D < x) : WR w0 w' P C T D ps come two dep := by
  obtain ⟨l1, l2, l3, l4⟩ := h.lo
  exact ⟨h.pb.frame hs (fun m => by have := hF _ m; omega), h.cb.frame hs (fun m => by have := hF _ m; omega), h.tb.frame hs (fun m => by have := hF _ m; omega), h.db.frame hs (fun m => by have := hF _ m; omega),
    h.same.trans' hs (fun x hx => .inr (by have := hF x hx; omega)), h.lo⟩

theorem bools_at (l : List Bool) (i : Nat) (h : i < l.length) : (boolsV l)[i]? = some (.bool (l.getD i false)) := by
  unfold boolsV; rw [List.getElem?_map, List.getD, List.getElem?_eq_getElem h]; rfl
theorem ints_at' (l : List Int) (i : Nat) (h : i < l.length) : (intsV l)[i]? = some (.int .i64 (l.getD i 0)) := by
  unfold intsV; rw [List.getElem?_map, List.getD, List.getElem?_eq_getElem h]; rfl
theorem nats_at' (l : List Nat) (i : Nat) (h : i < l.length) : (natsV l)[i]? = some (.int .i64 (l.getD i 0 : Nat)) := by
  unfold natsV; rw [List.getElem?_map, List.getD, List.getElem?_eq_getElem h]; rfl

/-- come[j] = true. -/
theorem WR.setC {w0 : World} {P C T D : Nat} {ps : List Value} {come two : List Bool} {dep : List Int} (h : WR w0 w P C T D ps come two dep) (j : Nat) : WR w0 (w.setCell ⟨C, j, none⟩ (.bool true)) P C T D ps (come.set j true) two dep := by
  obtain ⟨l1, l2, l3, l4⟩ := h.lo
  refine ⟨h.pb.setOther (by dsimp only; omega) _, ?_, h.tb.setOther (by dsimp only; omega) _, h.db.setOther (by dsimp only; omega) _, h.same.setCell (.inr (by dsimp only; omega)) _, h.lo⟩
  have := h.cb.set j (.bool true)
  unfold boolsV at this ⊢
  rw [List.map_set]; exact this
theorem WR.setT {w0 : World} {P C T D : Nat} {ps : List Value} {come two : List Bool} {dep : List Int} (h : WR w0 w P C T D ps come two dep) (j : Nat) : WR w0 (w.setCell ⟨T, j, none⟩ (.bool true)) P C T D ps come (two.set j true) dep := by
  obtain ⟨l1, l2, l3, l4⟩ := h.lo
  refine ⟨h.pb.setOther (by dsimp only; omega) _, h.cb.setOther (by dsimp only; omega) _, ?_, h.db.setOther (by dsimp only; omega) _, h.same.setCell (.inr (by dsimp only; omega)) _, h.lo⟩
  have := h.tb.set j (.bool true)
  unfold boolsV at this ⊢
  rw [List.map_set]; exact this
theorem WR.setD {w0 : World} {P C T D : Nat} {ps : List Value} {come two : List Bool} {dep : List Int} (h : WR w0 w P C T D ps come two dep) (j : Nat) (d : Int) : WR w0 (w.setCell ⟨D, j, none⟩ (.int .i64 d)) P C T D ps come two (dep.set j d) := by
  obtain ⟨l1, l2, l3, l4⟩ := h.lo
  refine ⟨h.pb.setOther (by dsimp only; omega) _, h.cb.setOther (by dsimp only; omega) _, h.tb.setOther (by dsimp only; omega) _, ?_, h.same.setCell (.inr (by dsimp only; omega)) _, h.lo⟩
  have := h.db.set j (.int .i64 d)
  unfold intsV at this ⊢
  rw [List.map_set]; exact this

/-- The row of places, the list of those behind one: apart from all else. -/
structure RR (W : World) (D : Nat) (rv : Value) (row : List Nat) : Prop where
  row : Row W 3 1 rv row.length (natsV row)
  hi : ∀ b ∈ blk rv, D < b
theorem RR.frame {D : Nat} {rv : Value} {row : List Nat} (h : RR w D rv row) {F : List Nat} (hs : Same F w w') (hF : ∀ b ∈ blk rv, b ∉ F) : RR w' D rv row := ⟨h.row.frame hs hF, h.hi⟩

theorem LRow.form {v : Value} {l : List Nat} {b : Nat} (h : LRow w v l b) : ∃ A, v = .slice A l.length l.length := by
  rcases h with ⟨rfl, rfl⟩ | ⟨rfl, _⟩
  · exact ⟨none, rfl⟩
  · exact ⟨_, rfl⟩
theorem LRow.at_ {A : Option Addr} {c : Nat} {l : List Nat} {b : Nat} (h : LRow w (.slice A l.length c) l b) {m : Nat} (hm : m < l.length) : A = some ⟨b, 0, none⟩ ∧ w.cell? ⟨b, m, none⟩ = some (.int .i64 (l.getD m 0 : Nat)) := by
  rcases h with ⟨rfl, _⟩ | ⟨h, h2⟩
  · cases hm
  · injection h with h
    exact ⟨h, by rw [h2.cell, nats_at' _ _ hm]⟩

/-- A place more in the row. -/
theorem RR.push {D : Nat} {rv rv' : Value} {row : List Nat} {Z : Nat} (h : RR w D rv row) (hD : D < Z) (j : Nat) (hr : Row w' 3 1 rv' (row.length + 1) (natsV row ++ [.int .i64 j])) (hb : ∀ b ∈ blk rv', b ∈ blk rv ∨ Z ≤ b) : RR w' D rv' (row ++ [j]) :=
  ⟨by
    have e : natsV row ++ [.int .i64 (j : Int)] = natsV (row ++ [j]) := by simp [natsV]
    rw [e] at hr
    rw [List.length_append]; exact hr, fun b hm => by
    rcases hb b hm with h1 | h1
    · exact h.hi b h1
    · omega⟩

def Bd (M : Int) (dep : List Int) : Prop := ∀ i, -M ≤ dep.getD i 0 ∧ dep.getD i 0 ≤ M
theorem Bd.set {M : Int} {dep : List Int} (h : Bd M dep) (j : Nat) (d : Int) (hd : -M ≤ d ∧ d ≤ M) : Bd M (dep.set j d) := fun i => by
  rw [Cd.getD_set']
  split
  · exact hd
  · exact h i
theorem Bd.mono {M N : Int} {dep : List Int} (h : Bd M dep) (hm : M ≤ N) : Bd N dep := fun i => ⟨by have := (h i).1; omega, by have := (h i).2; omega⟩

theorem made_bools (n : Nat) : (madeCells #[.bool false] n).toList = boolsV (List.replicate n false) := by
  have h := madeCells_flat [.bool false] n (by simp)
  rw [show n * [Value.bool false].length = n from by simp] at h
  rw [h]
  unfold boolsV
  rw [List.map_replicate]
  clear h
  induction n with
  | zero => rfl
  | succ n ih => simp only [List.replicate_succ, List.flatMap_cons, ih]; rfl
theorem made_ints (n : Nat) : (madeCells #[.int .i64 0] n).toList = intsV (List.replicate n 0) := by
  have h := madeCells_flat [.int .i64 0] n (by simp)
  rw [show n * [Value.int .i64 0].length = n from by simp] at h
  rw [h]
  unfold intsV
  rw [List.map_replicate]
  clear h
  induction n with
  | zero => rfl
  | succ n ih => simp only [List.replicate_succ, List.flatMap_cons, ih]; rfl
theorem infoBool : (Tryz.prog.info? 4).map (fun i => (i.zero, i.size, i.bytes)) = some (some (.bool false), 1, 1) := by kernel_rfl
end Ck
end Go.Proofs.YticaipedpcmhfaaGreatDoor
