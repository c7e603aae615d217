/- Layer 8, the plain side: instructions, procedures, code; what Check looks at. Written ahead of any walk. -/
import Derived.WalkKit
import Derived.Lib.SlicesS
import Derived.Lib.ItoaNum
import Derived.Lib.ParseIntB
import Derived.Lib.IndexMore
import Derived.Lib.Strings
import Derived.Lib.ItoaLen
namespace Go.Proofs.YtkepcdbogeineaaGreatDoor
namespace Cd

structure In where
  op : Int
  a : Int
structure Pr where
  params : Int
  code : List In
structure Co where
  consts : List Int
  globals : List ByteArray
  procs : List Pr

/-- words.Of, of a word as a number from 0 to 2^64 - 1: its tag, its number, whether it is one. -/
def signed (w : Int) : Int := if w < 9223372036854775808 then w else w - 18446744073709551616
def least (t : Int) : Int := if t = 5 then -576460752303423488 else if t = 7 then 1 else 0
def most (t : Int) : Int := if t = 5 then 576460752303423487 else if t = 6 then 2147483647 else if t = 7 then 22 else if t = 8 then 2147483647 else 0
def may (t n : Int) : Bool := decide (least t ≤ n ∧ n ≤ most t)
def wordT (w : Int) : Int := w % 16
def wordN (w : Int) : Int := signed w / 16
def isWord (w : Int) : Bool := decide (1 ≤ wordT w ∧ wordT w ≤ 8) && may (wordT w) (wordN w)

def takesL : List Int := [0, 2, 1, 1, 2, 2, 1, 1, 2, 3, 2, 2, 1, 1, 1, 2, 2, 2, 2, 2, 2, 1, 1]
def takes (a : Int) : Int := takesL.getD a.toNat 0

/-- How many words an instruction takes, how many it puts. -/
def took (i : In) : Int :=
  if i.op = 1 ∨ i.op = 2 ∨ i.op = 4 ∨ i.op = 6 ∨ i.op = 18 then 0
  else if i.op = 3 ∨ i.op = 5 ∨ i.op = 14 ∨ i.op = 15 ∨ i.op = 16 ∨ i.op = 17 then 1
  else if i.op = 7 ∨ i.op = 9 ∨ i.op = 12 then 1
  else if i.op = 10 ∨ i.op = 11 then i.a + 1
  else if i.op = 13 then takes i.a else 0
def puts (i : In) : Int :=
  if i.op = 1 ∨ i.op = 2 ∨ i.op = 4 ∨ i.op = 6 ∨ i.op = 18 then 1
  else if i.op = 3 ∨ i.op = 5 ∨ i.op = 14 ∨ i.op = 15 ∨ i.op = 16 ∨ i.op = 17 then 1
  else if i.op = 10 ∨ i.op = 13 then 1 else 0

/-- What A is at least and at most; whether there is such an Op. -/
def lo (op : Int) : Int := if op = 13 then 1 else 0
def hi (c : Co) (op : Int) (many : Nat) : Int :=
  if op = 1 then c.consts.length - 1 else if op = 4 ∨ op = 5 then c.globals.length - 1 else if op = 6 then c.procs.length - 1
  else if op = 2 ∨ op = 3 ∨ op = 10 ∨ op = 11 then 256 else if op = 8 ∨ op = 9 then many - 1 else if op = 13 then 22 else 0
def isOp (op : Int) : Bool := decide (1 ≤ op ∧ op ≤ 18)
def fits (c : Co) (many : Nat) (i : In) : Bool := isOp i.op && decide (lo i.op ≤ i.a ∧ i.a ≤ hi c i.op many)

/-- What is known of a place: ways (0, 1, 2), depth. -/
structure De where
  ways : Nat
  deep : Int

/-- A way comes to a place. -/
def comes (s : List De × List Nat) (at_ : Nat) (d : De) : List De × List Nat :=
  let x := s.1.getD at_ ⟨2, 0⟩
  if x.ways = 0 then (s.1.set at_ d, s.2 ++ [at_])
  else if x.ways = 2 ∨ d.ways = 1 ∧ d.deep = x.deep then s
  else (s.1.set at_ ⟨2, x.deep⟩, s.2 ++ [at_])

/-- The last place of those to do is done. -/
def round (code : List In) (s : List De × List Nat) : List De × List Nat :=
  let at_ := s.2.getLastD 0
  let i := code.getD at_ ⟨0, 0⟩
  let d := s.1.getD at_ ⟨2, 0⟩
  let d' : De := ⟨d.ways, d.deep + (puts i - took i)⟩
  let s' := (s.1, s.2.dropLast)
  if i.op = 8 then comes s' i.a.toNat d'
  else if i.op = 12 ∨ i.op = 11 then s'
  else if i.op = 9 then comes (comes s' i.a.toNat d') (at_ + 1) d'
  else comes s' (at_ + 1) d'

def open_ (l : List De) : Nat := (l.map (fun d => 2 - d.ways)).sum
def weight (s : List De × List Nat) : Nat := 2 * open_ s.1 + s.2.length

theorem open_set (l : List De) (i : Nat) (x : De) (h : i < l.length) (hx : (l.getD i ⟨2, 0⟩).ways < x.ways) (h2 : x.ways ≤ 2) : open_ (l.set i x) + 1 ≤ open_ l := by
  induction l generalizing i with
  | nil => simp at h
  | cons a l ih =>
    cases i with
    | zero =>
      simp only [List.getD_cons_zero] at hx
      simp only [open_, List.set_cons_zero, List.map_cons, List.sum_cons]
      omega
    | succ i =>
      have := ih i (by simpa using h) (by simpa using hx)
      simp only [open_, List.set_cons_succ, List.map_cons, List.sum_cons] at this ⊢
      omega

/-- To come to a place weighs nothing more. -/
theorem comes_weight (s : List De × List Nat) (at_ : Nat) (d : De) (h : at_ < s.1.length) (hd : 1 ≤ d.ways ∧ d.ways ≤ 2) (hl : ∀ i, (s.1.getD i ⟨2, 0⟩).ways ≤ 2) : weight (comes s at_ d) ≤ weight s := by
  unfold comes
  dsimp only
  split
  · rename_i h0
    have := open_set s.1 at_ d h (by omega) hd.2
    simp only [weight, List.length_append, List.length_singleton]
    omega
  · split
    · exact Nat.le_refl _
    · rename_i h0 h1
      have hlt := hl at_
      have := open_set s.1 at_ ⟨2, (s.1.getD at_ ⟨2, 0⟩).deep⟩ h (by show _ < 2; omega) (Nat.le_refl _)
      simp only [weight, List.length_append, List.length_singleton]
      omega

def start (n : Nat) : List De × List Nat := ((⟨1, 0⟩ :: List.replicate (n - 1) ⟨0, 0⟩), [0])
def rounds (code : List In) : Nat → List De × List Nat → List De × List Nat
  | 0, s => s
  | k + 1, s => if s.2 = [] then s else rounds code k (round code s)
/-- What is known of each place in the end. -/
def depths (code : List In) : List De := (rounds code (4 * code.length + 2) (start code.length)).1

/-- Where a procedure may not be, and why: the error, the place. -/
def badAt (c : Co) (p : Pr) : Int × Nat :=
  if 4096 < p.code.length then (2, 0)
  else if p.params < 0 ∨ 256 < p.params ∨ p.code = [] then (80, 0)
  else match p.code.findIdx? (fun i => !fits c p.code.length i) with
    | some k => (80, k)
    | none =>
      let last := (p.code.getLastD ⟨0, 0⟩).op
      if last ≠ 12 ∧ last ≠ 11 ∧ last ≠ 8 then (80, p.code.length - 1)
      else match (List.range p.code.length).find? (fun k =>
          let d := (depths p.code).getD k ⟨2, 0⟩
          d.ways != 1 || decide (d.deep < took (p.code.getD k ⟨0, 0⟩)) || decide (256 ≤ d.deep)) with
        | some k => (80, k)
        | none => (0, 0)

/-- May constants and globals be? (sym: is a text a symbol?) -/
def named (sym : ByteArray → Bool) (c : Co) : Bool :=
  c.consts.all (fun w => isWord w && wordT w != 8) && c.globals.all sym && (List.range c.globals.length).all (fun i => !Lib.containsS (c.globals.take i) (c.globals.getD i ByteArray.empty))

def check (sym : ByteArray → Bool) (c : Co) : Int × Nat × Nat :=
  if 256 < c.procs.length ∨ 1024 < c.consts.length ∨ 64 < c.globals.length then (2, 0, 0)
  else if c.procs = [] ∨ named sym c = false then (80, 0, 0)
  else match (List.range c.procs.length).find? (fun k => (badAt c (c.procs.getD k ⟨0, []⟩)).1 != 0) with
    | some k => ((badAt c (c.procs.getD k ⟨0, []⟩)).1, k, (badAt c (c.procs.getD k ⟨0, []⟩)).2)
    | none => (0, 0, 0)
end Cd
end Go.Proofs.YtkepcdbogeineaaGreatDoor
/- Layer 8, the plain side: the rounds over the places of a procedure come to an end. -/
namespace Go.Proofs.YtkepcdbogeineaaGreatDoor
namespace Cd

theorem getD_set {α : Type} (l : List α) (i j : Nat) (x d : α) (h : i < l.length) : (l.set i x).getD j d = if j = i then x else l.getD j d := by
  by_cases e : j = i
  · subst e; simp [List.getD, h]
  · rw [if_neg e]; simp [List.getD, List.getElem?_set_ne (fun h => e h.symm)]

/-- Each place stays within the procedure: what a jump, a branch names; and the last place is none behind which one goes on. -/
structure Ways (code : List In) : Prop where
  jump : ∀ i, i < code.length → (code.getD i ⟨0, 0⟩).op = 8 ∨ (code.getD i ⟨0, 0⟩).op = 9 → (code.getD i ⟨0, 0⟩).a.toNat < code.length
  last : ∀ i, i < code.length → (code.getD i ⟨0, 0⟩).op ≠ 8 → (code.getD i ⟨0, 0⟩).op ≠ 11 → (code.getD i ⟨0, 0⟩).op ≠ 12 → i + 1 < code.length

structure Good (n : Nat) (s : List De × List Nat) : Prop where
  len : s.1.length = n
  todo : ∀ i ∈ s.2, i < n ∧ 1 ≤ (s.1.getD i ⟨2, 0⟩).ways
  le : ∀ i, (s.1.getD i ⟨2, 0⟩).ways ≤ 2

theorem comes_good {n : Nat} {s : List De × List Nat} (g : Good n s) (at_ : Nat) (d : De) (h : at_ < n) (hd : 1 ≤ d.ways ∧ d.ways ≤ 2) : Good n (comes s at_ d) := by
  have hl : at_ < s.1.length := by rw [g.len]; exact h
  unfold comes
  dsimp only
  split
  · refine ⟨by simpa using g.len, fun i hi => ?_, fun i => ?_⟩
    · dsimp only at hi ⊢
      rw [getD_set _ _ _ _ _ hl]
      rcases List.mem_append.1 hi with hi | hi
      · refine ⟨(g.todo i hi).1, ?_⟩
        split
        · exact hd.1
        · exact (g.todo i hi).2
      · rw [List.mem_singleton.1 hi, if_pos rfl]; exact ⟨h, hd.1⟩
    · dsimp only
      rw [getD_set _ _ _ _ _ hl]
      split
      · exact hd.2
      · exact g.le i
  · split
    · exact g
    · refine ⟨by simpa using g.len, fun i hi => ?_, fun i => ?_⟩
      · dsimp only at hi ⊢
        rw [getD_set _ _ _ _ _ hl]
        rcases List.mem_append.1 hi with hi | hi
        · refine ⟨(g.todo i hi).1, ?_⟩
          split
          · exact Nat.le_succ 1
          · exact (g.todo i hi).2
        · rw [List.mem_singleton.1 hi, if_pos rfl]; exact ⟨h, Nat.le_succ 1⟩
      · dsimp only
        rw [getD_set _ _ _ _ _ hl]
        split
        · exact Nat.le_refl 2
        · exact g.le i

theorem comes_both {n : Nat} {s : List De × List Nat} (g : Good n s) (at_ : Nat) (d : De) (h : at_ < n) (hd : 1 ≤ d.ways ∧ d.ways ≤ 2) : Good n (comes s at_ d) ∧ weight (comes s at_ d) ≤ weight s :=
  ⟨comes_good g at_ d h hd, comes_weight s at_ d (by rw [g.len]; exact h) hd g.le⟩

theorem round_good {code : List In} (w : Ways code) {s : List De × List Nat} (g : Good code.length s) (hne : s.2 ≠ []) : Good code.length (round code s) ∧ weight (round code s) + 1 ≤ weight s := by
  obtain ⟨at_, hat⟩ : ∃ a, a = s.2.getLastD 0 := ⟨_, rfl⟩
  have hmem : at_ ∈ s.2 := by
    rw [hat, List.getLastD_eq_getLast?, List.getLast?_eq_some_getLast hne]; exact List.getLast_mem hne
  obtain ⟨h1, h2⟩ := g.todo at_ hmem
  have h3 := g.le at_
  have g' : Good code.length (s.1, s.2.dropLast) := ⟨g.len, fun i hi => g.todo i ((List.dropLast_sublist s.2).subset hi), g.le⟩
  have hw : weight (s.1, s.2.dropLast) + 1 = weight s := by
    have : 1 ≤ s.2.length := by
      cases hs : s.2 with
      | nil => exact absurd hs hne
      | cons a b => simp
    simp only [weight, List.length_dropLast]; omega
  have hj := w.jump at_ h1
  have hla := w.last at_ h1
  unfold round
  rw [← hat]
  dsimp only
  split
  · rename_i c
    have := comes_both g' (code.getD at_ ⟨0, 0⟩).a.toNat ⟨(s.1.getD at_ ⟨2, 0⟩).ways, (s.1.getD at_ ⟨2, 0⟩).deep + (puts (code.getD at_ ⟨0, 0⟩) - took (code.getD at_ ⟨0, 0⟩))⟩ (hj (.inl c)) ⟨h2, h3⟩
    exact ⟨this.1, by have := this.2; omega⟩
  · rename_i c8
    split
    · exact ⟨g', by omega⟩
    · rename_i c
      split
      · rename_i c9
        have q1 := comes_both g' (code.getD at_ ⟨0, 0⟩).a.toNat ⟨(s.1.getD at_ ⟨2, 0⟩).ways, (s.1.getD at_ ⟨2, 0⟩).deep + (puts (code.getD at_ ⟨0, 0⟩) - took (code.getD at_ ⟨0, 0⟩))⟩ (hj (.inr c9)) ⟨h2, h3⟩
        have q2 := comes_both q1.1 (at_ + 1) ⟨(s.1.getD at_ ⟨2, 0⟩).ways, (s.1.getD at_ ⟨2, 0⟩).deep + (puts (code.getD at_ ⟨0, 0⟩) - took (code.getD at_ ⟨0, 0⟩))⟩ (hla c8 (fun e => c (.inr e)) (fun e => c (.inl e))) ⟨h2, h3⟩
        exact ⟨q2.1, by have := q1.2; have := q2.2; omega⟩
      · have q := comes_both g' (at_ + 1) ⟨(s.1.getD at_ ⟨2, 0⟩).ways, (s.1.getD at_ ⟨2, 0⟩).deep + (puts (code.getD at_ ⟨0, 0⟩) - took (code.getD at_ ⟨0, 0⟩))⟩ (hla c8 (fun e => c (.inr e)) (fun e => c (.inl e))) ⟨h2, h3⟩
        exact ⟨q.1, by have := q.2; omega⟩

theorem rounds_end {code : List In} (w : Ways code) : ∀ (k : Nat) (s : List De × List Nat), Good code.length s → weight s ≤ k → (rounds code k s).2 = [] ∧ Good code.length (rounds code k s)
  | 0, s, g, h => by
    have : s.2 = [] := List.eq_nil_of_length_eq_zero (by simp only [weight] at h; omega)
    exact ⟨this, g⟩
  | k + 1, s, g, h => by
    unfold rounds
    split
    · rename_i e; exact ⟨e, g⟩
    · rename_i e
      obtain ⟨g1, h1⟩ := round_good w g e
      exact rounds_end w k _ g1 (by omega)

theorem start_good {n : Nat} (hn : 1 ≤ n) : Good n (start n) := by
  refine ⟨by simp [start]; omega, fun i hi => ?_, fun i => ?_⟩
  · have : i = 0 := by simpa [start] using hi
    subst this
    exact ⟨by omega, by simp [start]⟩
  · simp only [start]
    cases i with
    | zero => simp
    | succ i =>
      simp only [List.getD_eq_getElem?_getD, List.getElem?_cons_succ, List.getElem?_replicate]
      split <;> simp

theorem open_rep (n : Nat) : open_ (List.replicate n ⟨0, 0⟩) = 2 * n := by
  induction n with
  | zero => rfl
  | succ n ih => simp only [open_, List.replicate_succ, List.map_cons, List.sum_cons] at ih ⊢; omega

/-- So the rounds are enough. -/
theorem depths_done {code : List In} (w : Ways code) (hn : 1 ≤ code.length) : (rounds code (4 * code.length + 2) (start code.length)).2 = [] := by
  refine (rounds_end w _ _ (start_good hn) ?_).1
  have h := open_rep (code.length - 1)
  simp only [open_] at h
  simp only [weight, start, open_, List.map_cons, List.sum_cons, List.length_singleton]
  omega

/-- More rounds change nothing. -/
theorem rounds_more (code : List In) : ∀ (k d : Nat) (s : List De × List Nat), (rounds code k s).2 = [] → rounds code (k + d) s = rounds code k s
  | 0, d, s, h => by
    cases d with
    | zero => rfl
    | succ d =>
      rw [show 0 + (d + 1) = d + 1 from by omega]
      unfold rounds
      have h' : s.2 = [] := h
      rw [if_pos h']
  | k + 1, d, s, h => by
    rw [show k + 1 + d = (k + d) + 1 from by omega]
    unfold rounds at h ⊢
    split
    · rfl
    · rename_i e
      rw [if_neg e] at h
      exact rounds_more code k d _ h
end Cd
end Go.Proofs.YtkepcdbogeineaaGreatDoor
/- Layer 8, the plain side: in the end each place hands its depth on to those behind it. -/
namespace Go.Proofs.YtkepcdbogeineaaGreatDoor
namespace Cd

def succs (code : List In) (i : Nat) : List Nat :=
  let x := code.getD i ⟨0, 0⟩
  if x.op = 8 then [x.a.toNat] else if x.op = 12 ∨ x.op = 11 then [] else if x.op = 9 then [x.a.toNat, i + 1] else [i + 1]
def delta (code : List In) (i : Nat) : Int := puts (code.getD i ⟨0, 0⟩) - took (code.getD i ⟨0, 0⟩)
/-- Place j is told what comes from place i. -/
def Told (code : List In) (l : List De) (i j : Nat) : Prop :=
  (l.getD j ⟨2, 0⟩).ways = 2 ∨ (l.getD i ⟨2, 0⟩).ways = 1 ∧ (l.getD j ⟨2, 0⟩).ways = 1 ∧ (l.getD j ⟨2, 0⟩).deep = (l.getD i ⟨2, 0⟩).deep + delta code i
theorem Told.came {code : List In} {l : List De} {i j : Nat} (h : Told code l i j) : (l.getD j ⟨2, 0⟩).ways ≠ 0 := by
  rcases h with h | ⟨_, h, _⟩ <;> omega

/-- Whoever is done has told all behind it. -/
def Inv (code : List In) (s : List De × List Nat) (skip : Nat → Prop) : Prop :=
  ∀ i, i < code.length → 1 ≤ (s.1.getD i ⟨2, 0⟩).ways → i ∉ s.2 → ¬ skip i → ∀ j ∈ succs code i, Told code s.1 i j

theorem comes_told {code : List In} {s : List De × List Nat} {at_ : Nat} {d : De} {i j : Nat} (hl : at_ < s.1.length) (hi : i ∉ (comes s at_ d).2) (h : Told code s.1 i j) : Told code (comes s at_ d).1 i j := by
  have hc := h.came
  unfold comes at hi ⊢
  dsimp only at hi ⊢
  split at hi
  · rename_i h0
    rw [if_pos h0]
    have e1 : i ≠ at_ := fun e => hi (by simp [e])
    have e2 : j ≠ at_ := fun e => hc (by rw [e]; exact h0)
    unfold Told
    rw [getD_set _ _ _ _ _ hl, getD_set _ _ _ _ _ hl, if_neg e1, if_neg e2]
    exact h
  · rename_i h0
    rw [if_neg h0]
    split at hi
    · rename_i h1; rw [if_pos h1]; exact h
    · rename_i h1
      rw [if_neg h1]
      have e1 : i ≠ at_ := fun e => hi (by simp [e])
      unfold Told
      rw [getD_set _ _ _ _ _ hl, getD_set _ _ _ _ _ hl, if_neg e1]
      by_cases e2 : j = at_
      · left; rw [if_pos e2]
      · rw [if_neg e2]; exact h

/-- What a way leaves as it was. -/
theorem comes_keep {s : List De × List Nat} {at_ : Nat} {d : De} {i : Nat} (hl : at_ < s.1.length) (hi : i ∉ (comes s at_ d).2) : (comes s at_ d).1.getD i ⟨2, 0⟩ = s.1.getD i ⟨2, 0⟩ ∧ i ∉ s.2 := by
  unfold comes at hi ⊢
  dsimp only at hi ⊢
  split at hi
  · rename_i h0
    rw [if_pos h0]
    have e1 : i ≠ at_ := fun e => hi (by simp [e])
    exact ⟨by rw [getD_set _ _ _ _ _ hl, if_neg e1], fun h => hi (by simp [h])⟩
  · rename_i h0
    rw [if_neg h0]
    split at hi
    · rename_i h1; rw [if_pos h1]; exact ⟨rfl, hi⟩
    · rename_i h1
      rw [if_neg h1]
      have e1 : i ≠ at_ := fun e => hi (by simp [e])
      exact ⟨by rw [getD_set _ _ _ _ _ hl, if_neg e1], fun h => hi (by simp [h])⟩

/-- The place that hands its depth on tells it. -/
theorem comes_tells {code : List In} {s : List De × List Nat} {at_ cur : Nat} {d : De} (hl : at_ < s.1.length) (hle : (s.1.getD at_ ⟨2, 0⟩).ways ≤ 2) (hd : d = ⟨(s.1.getD cur ⟨2, 0⟩).ways, (s.1.getD cur ⟨2, 0⟩).deep + delta code cur⟩)
    (hw : 1 ≤ d.ways ∧ d.ways ≤ 2) (hc : cur ∉ (comes s at_ d).2) : Told code (comes s at_ d).1 cur at_ := by
  have hk := (comes_keep hl hc).1
  have hdw : d.ways = (s.1.getD cur ⟨2, 0⟩).ways := by rw [hd]
  have hdd : d.deep = (s.1.getD cur ⟨2, 0⟩).deep + delta code cur := by rw [hd]
  unfold Told
  rw [hk]
  unfold comes
  dsimp only
  split
  · rw [getD_set _ _ _ _ _ hl, if_pos rfl]
    rcases (show d.ways = 1 ∨ d.ways = 2 by omega) with h | h
    · exact .inr ⟨by omega, h, hdd⟩
    · exact .inl h
  · rename_i h0
    split
    · rename_i h1
      rcases h1 with h1 | ⟨h1, h2⟩
      · exact .inl h1
      · by_cases h3 : (s.1.getD at_ ⟨2, 0⟩).ways = 2
        · exact .inl h3
        · exact .inr ⟨by omega, by omega, by omega⟩
    · left; rw [getD_set _ _ _ _ _ hl, if_pos rfl]
end Cd
end Go.Proofs.YtkepcdbogeineaaGreatDoor
/- Layer 8, the plain side: the rounds keep it: who is done has told all behind it. -/
namespace Go.Proofs.YtkepcdbogeineaaGreatDoor
namespace Cd

theorem comes_inv {code : List In} {s : List De × List Nat} {at_ : Nat} {d : De} {skip : Nat → Prop} (hl : at_ < s.1.length) (h : Inv code s skip) : Inv code (comes s at_ d) skip := fun i hi hw ht hs j hj => by
  obtain ⟨e, hm⟩ := comes_keep hl ht
  rw [e] at hw
  exact comes_told hl ht (h i hi hw hm hs j hj)

theorem Inv.whole {code : List In} {s : List De × List Nat} {cur : Nat} (h : Inv code s (fun i => i = cur)) (hc : cur ∉ s.2 → ∀ j ∈ succs code cur, Told code s.1 cur j) : Inv code s (fun _ => False) := fun i hi hw ht _ j hj => by
  by_cases e : i = cur
  · subst e; exact hc ht j hj
  · exact h i hi hw ht e j hj

theorem round_inv {code : List In} (w : Ways code) {s : List De × List Nat} (g : Good code.length s) (hne : s.2 ≠ []) (h : Inv code s (fun _ => False)) : Inv code (round code s) (fun _ => False) := by
  obtain ⟨cur, hcur⟩ : ∃ a, a = s.2.getLastD 0 := ⟨_, rfl⟩
  have hlast : s.2.getLast hne = cur := by
    rw [hcur, List.getLastD_eq_getLast?, List.getLast?_eq_some_getLast hne]; rfl
  have hsplit : s.2.dropLast ++ [cur] = s.2 := by rw [← hlast]; exact List.dropLast_concat_getLast hne
  have hmem : cur ∈ s.2 := by rw [← hsplit]; simp
  obtain ⟨h1, h2⟩ := g.todo cur hmem
  have h3 := g.le cur
  have g' : Good code.length (s.1, s.2.dropLast) := ⟨g.len, fun i hi => g.todo i ((List.dropLast_sublist s.2).subset hi), g.le⟩
  have hi0 : Inv code (s.1, s.2.dropLast) (fun i => i = cur) := fun i hi hw ht hs j hj => h i hi hw (fun hm => by
    rw [← hsplit] at hm
    rcases List.mem_append.1 hm with hm | hm
    · exact ht hm
    · exact hs (List.mem_singleton.1 hm)) (fun f => f) j hj
  have hj := w.jump cur h1
  have hla := w.last cur h1
  obtain ⟨d, hd⟩ : ∃ d : De, d = ⟨(s.1.getD cur ⟨2, 0⟩).ways, (s.1.getD cur ⟨2, 0⟩).deep + delta code cur⟩ := ⟨_, rfl⟩
  have hdw : 1 ≤ d.ways ∧ d.ways ≤ 2 := by rw [hd]; exact ⟨h2, h3⟩
  have hl : ∀ {k}, k < code.length → k < s.1.length := fun hk => by rw [g.len]; exact hk
  unfold round
  rw [← hcur]
  dsimp only
  rw [show (⟨(s.1.getD cur ⟨2, 0⟩).ways, (s.1.getD cur ⟨2, 0⟩).deep + (puts (code.getD cur ⟨0, 0⟩) - took (code.getD cur ⟨0, 0⟩))⟩ : De) = d from hd.symm]
  split
  · rename_i c
    have ha := hj (.inl c)
    refine (comes_inv (s := (s.1, s.2.dropLast)) (hl ha) hi0).whole (fun hn j hjs => ?_)
    have : j = (code.getD cur ⟨0, 0⟩).a.toNat := by
      simp only [succs] at hjs; rw [if_pos c] at hjs; exact List.mem_singleton.1 hjs
    rw [this]
    exact comes_tells (s := (s.1, s.2.dropLast)) (hl ha) (g.le _) hd hdw hn
  · rename_i c8
    split
    · rename_i c
      refine hi0.whole (fun hn j hjs => ?_)
      simp only [succs] at hjs
      rw [if_neg c8, if_pos c] at hjs
      cases hjs
    · rename_i c
      have hb := hla c8 (fun e => c (.inr e)) (fun e => c (.inl e))
      split
      · rename_i c9
        have ha := hj (.inr c9)
        have g1 := comes_good g' (code.getD cur ⟨0, 0⟩).a.toNat d ha hdw
        have hl1 : cur + 1 < (comes (s.1, s.2.dropLast) (code.getD cur ⟨0, 0⟩).a.toNat d).1.length := by rw [g1.len]; exact hb
        have hi1 := comes_inv (d := d) (s := (s.1, s.2.dropLast)) (hl ha) hi0
        refine (comes_inv hl1 hi1).whole (fun hn j hjs => ?_)
        obtain ⟨k1, k2⟩ := comes_keep hl1 hn
        obtain ⟨k3, k4⟩ := comes_keep (s := (s.1, s.2.dropLast)) (hl ha) k2
        simp only [succs] at hjs
        rw [if_neg c8, if_neg c, if_pos c9] at hjs
        rcases List.mem_cons.1 hjs with e | e
        · rw [e]
          exact comes_told hl1 hn (comes_tells (s := (s.1, s.2.dropLast)) (hl ha) (g.le _) hd hdw k2)
        · rw [List.mem_singleton.1 e]
          exact comes_tells hl1 (g1.le _) (by rw [k3]; exact hd) hdw hn
      · rename_i c9
        refine (comes_inv (s := (s.1, s.2.dropLast)) (hl hb) hi0).whole (fun hn j hjs => ?_)
        have : j = cur + 1 := by
          simp only [succs] at hjs; rw [if_neg c8, if_neg c, if_neg c9] at hjs; exact List.mem_singleton.1 hjs
        rw [this]
        exact comes_tells (s := (s.1, s.2.dropLast)) (hl hb) (g.le _) hd hdw hn

theorem rounds_inv {code : List In} (w : Ways code) : ∀ (k : Nat) (s : List De × List Nat), Good code.length s → Inv code s (fun _ => False) → Inv code (rounds code k s) (fun _ => False)
  | 0, _, _, h => h
  | k + 1, s, g, h => by
    unfold rounds
    split
    · exact h
    · rename_i e
      exact rounds_inv w k _ (round_good w g e).1 (round_inv w g e h)

theorem start_inv {code : List In} (hn : 1 ≤ code.length) : Inv code (start code.length) (fun _ => False) := fun i hi hw ht _ j hj => by
  exfalso
  have h0 : i ≠ 0 := fun e => ht (by rw [e]; simp [start])
  obtain ⟨i', rfl⟩ : ∃ i', i = i' + 1 := ⟨i - 1, by omega⟩
  simp only [start, List.getD_eq_getElem?_getD, List.getElem?_cons_succ, List.getElem?_replicate] at hw
  rw [if_pos (by omega)] at hw
  simp at hw

/-- In the end: each place to which a way comes has told all that are behind it. -/
theorem depths_told {code : List In} (w : Ways code) (hn : 1 ≤ code.length) (i : Nat) (hi : i < code.length) (hw : 1 ≤ ((depths code).getD i ⟨2, 0⟩).ways) : ∀ j ∈ succs code i, Told code (depths code) i j :=
  rounds_inv w _ _ (start_good hn) (start_inv hn) i hi hw (by rw [depths_done w hn]; simp) (fun f => f)
end Cd
end Go.Proofs.YtkepcdbogeineaaGreatDoor
/- Layer 8, the plain side: the rounds one by one, what is left of them, how deep it gets. -/
namespace Go.Proofs.YtkepcdbogeineaaGreatDoor
namespace Cd

/-- Instructions that may be, one by one, in a procedure of so many. -/
structure Fit (n : Nat) (i : In) : Prop where
  op : 1 ≤ i.op ∧ i.op ≤ 18
  a : 0 ≤ i.a ∧ i.a ≤ 4096
  prim : i.op = 13 → 1 ≤ i.a ∧ i.a ≤ 22
  jump : i.op = 8 ∨ i.op = 9 → i.a < n

theorem takes_le (a : Int) : 0 ≤ takes a ∧ takes a ≤ 3 := by
  unfold takes
  have : ∀ x ∈ takesL, 0 ≤ x ∧ x ≤ 3 := by decide
  rcases Nat.lt_or_ge a.toNat takesL.length with h | h
  · rw [List.getD, List.getElem?_eq_getElem h]; exact this _ (List.getElem_mem _)
  · rw [List.getD, List.getElem?_eq_none h]; decide

theorem took_le {n : Nat} {i : In} (h : Fit n i) : 0 ≤ took i ∧ took i ≤ 4097 := by
  have := takes_le i.a
  have := h.a
  unfold took
  repeat' split
  all_goals omega
theorem puts_le (i : In) : 0 ≤ puts i ∧ puts i ≤ 1 := by
  unfold puts
  repeat' split
  all_goals omega

def Deep (M : Int) (s : List De × List Nat) : Prop := ∀ i, -M ≤ (s.1.getD i ⟨2, 0⟩).deep ∧ (s.1.getD i ⟨2, 0⟩).deep ≤ M

theorem comes_deep {M : Int} {s : List De × List Nat} (h : Deep M s) (at_ : Nat) (d : De) (hl : at_ < s.1.length) (hd : -M ≤ d.deep ∧ d.deep ≤ M) : Deep M (comes s at_ d) := by
  intro i
  unfold comes
  dsimp only
  split
  · dsimp only; rw [getD_set _ _ _ _ _ hl]; split
    · exact hd
    · exact h i
  · split
    · exact h i
    · dsimp only; rw [getD_set _ _ _ _ _ hl]; split
      · exact h at_
      · exact h i

theorem Deep.mono {M N : Int} {s : List De × List Nat} (h : Deep M s) (hm : M ≤ N) : Deep N s := fun i => ⟨by have := (h i).1; omega, by have := (h i).2; omega⟩

/-- m rounds are done. -/
structure Run (code : List In) (m : Nat) (s : List De × List Nat) : Prop where
  good : Good code.length s
  left : m + weight s ≤ 4 * code.length
  fin : rounds code (4 * code.length + 2 - m) s = rounds code (4 * code.length + 2) (start code.length)
  deep : Deep (5000 * m) s

theorem Run.start {code : List In} (hn : 1 ≤ code.length) : Run code 0 (start code.length) := by
  refine ⟨start_good hn, ?_, rfl, fun i => ?_⟩
  · have h := open_rep (code.length - 1)
    simp only [open_] at h
    simp only [weight, Cd.start, open_, List.map_cons, List.sum_cons, List.length_singleton]
    omega
  · simp only [Cd.start]
    cases i with
    | zero => simp
    | succ i =>
      simp only [List.getD_eq_getElem?_getD, List.getElem?_cons_succ, List.getElem?_replicate]
      split <;> simp

theorem getD_mem (code : List In) (i : Nat) (h : i < code.length) : code.getD i ⟨0, 0⟩ ∈ code := by
  rw [List.getD, List.getElem?_eq_getElem h]; exact List.getElem_mem _

/-- Each place stays within. -/
theorem ways_of {code : List In} (hf : ∀ i ∈ code, Fit code.length i) (hl : (code.getLastD ⟨0, 0⟩).op = 8 ∨ (code.getLastD ⟨0, 0⟩).op = 11 ∨ (code.getLastD ⟨0, 0⟩).op = 12) : Ways code := by
  refine ⟨fun i hi h => ?_, fun i hi h8 h11 h12 => ?_⟩
  · have f := hf _ (getD_mem code i hi)
    have h1 := f.jump h
    have h2 := f.a
    omega
  · rcases Nat.lt_or_ge (i + 1) code.length with h | h
    · exact h
    · have e : code.getLastD ⟨0, 0⟩ = code.getD i ⟨0, 0⟩ := by
        rw [List.getLastD_eq_getLast?, List.getLast?_eq_getElem?, List.getD]
        rw [show code.length - 1 = i by omega]
      rw [e] at hl
      rcases hl with h | h | h
      · exact absurd h h8
      · exact absurd h h11
      · exact absurd h h12

theorem Run.last {code : List In} {m : Nat} {s : List De × List Nat} (r : Run code m s) (hne : s.2 ≠ []) : s.2.getLastD 0 < code.length ∧ 1 ≤ (s.1.getD (s.2.getLastD 0) ⟨2, 0⟩).ways ∧ (s.1.getD (s.2.getLastD 0) ⟨2, 0⟩).ways ≤ 2 := by
  have hmem : s.2.getLastD 0 ∈ s.2 := by
    rw [List.getLastD_eq_getLast?, List.getLast?_eq_some_getLast hne]; exact List.getLast_mem hne
  obtain ⟨h1, h2⟩ := r.good.todo _ hmem
  exact ⟨h1, h2, r.good.le _⟩

theorem Run.step {code : List In} (hf : ∀ i ∈ code, Fit code.length i) (w : Ways code) {m : Nat} {s : List De × List Nat} (r : Run code m s) (hne : s.2 ≠ []) : Run code (m + 1) (round code s) := by
  obtain ⟨g, hw⟩ := round_good w r.good hne
  have hleft := r.left
  refine ⟨g, by omega, ?_, ?_⟩
  · rw [← r.fin]
    obtain ⟨k, hk⟩ : ∃ k, 4 * code.length + 2 - m = k + 1 := ⟨4 * code.length + 1 - m, by omega⟩
    rw [show 4 * code.length + 2 - (m + 1) = k by omega, hk]
    conv => rhs; unfold rounds
    rw [if_neg hne]
  · obtain ⟨h1, h2, h3⟩ := r.last hne
    have hfit := hf _ (getD_mem code _ h1)
    have ht := took_le hfit
    have hp := puts_le (code.getD (s.2.getLastD 0) ⟨0, 0⟩)
    have hd := r.deep (s.2.getLastD 0)
    have hD : Deep (5000 * ((m + 1 : Nat) : Int)) (s.1, s.2.dropLast) := r.deep.mono (by omega)
    have hlen : s.1.length = code.length := r.good.len
    have hnext := w.last _ h1
    have hjump := w.jump _ h1
    have hdd : -(5000 * ((m + 1 : Nat) : Int)) ≤ (s.1.getD (s.2.getLastD 0) ⟨2, 0⟩).deep + (puts (code.getD (s.2.getLastD 0) ⟨0, 0⟩) - took (code.getD (s.2.getLastD 0) ⟨0, 0⟩)) ∧ (s.1.getD (s.2.getLastD 0) ⟨2, 0⟩).deep + (puts (code.getD (s.2.getLastD 0) ⟨0, 0⟩) - took (code.getD (s.2.getLastD 0) ⟨0, 0⟩)) ≤ 5000 * ((m + 1 : Nat) : Int) := by omega
    unfold round
    dsimp only
    split
    · rename_i h8
      exact comes_deep hD _ _ (by rw [hlen]; exact hjump (.inl h8)) hdd
    · split
      · exact hD
      · split
        · rename_i h8 h12 h9
          have hj : (code.getD (s.2.getLastD 0) ⟨0, 0⟩).a.toNat < (s.1, s.2.dropLast).1.length := by rw [hlen]; exact hjump (.inr h9)
          refine comes_deep (comes_deep hD _ _ hj hdd) _ _ ?_ hdd
          have hh : (comes (s.1, s.2.dropLast) (code.getD (s.2.getLastD 0) ⟨0, 0⟩).a.toNat ⟨(s.1.getD (s.2.getLastD 0) ⟨2, 0⟩).ways, (s.1.getD (s.2.getLastD 0) ⟨2, 0⟩).deep + (puts (code.getD (s.2.getLastD 0) ⟨0, 0⟩) - took (code.getD (s.2.getLastD 0) ⟨0, 0⟩))⟩).1.length = s.1.length := by
            unfold comes; dsimp only; repeat' split
            all_goals simp
          rw [hh, hlen]
          exact hnext h8 (fun e => h12 (.inr e)) (fun e => h12 (.inl e))
        · rename_i h8 h12 h9
          exact comes_deep hD _ _ (by rw [hlen]; exact hnext h8 (fun e => h12 (.inr e)) (fun e => h12 (.inl e))) hdd

theorem Run.done {code : List In} {m : Nat} {s : List De × List Nat} (r : Run code m s) (h : s.2 = []) : s.1 = depths code := by
  have e := r.fin
  have h' : ∀ k, rounds code k s = s := fun k => by
    cases k with
    | zero => rfl
    | succ k => unfold rounds; rw [if_pos h]
  rw [h'] at e
  unfold depths
  rw [← e]
/-- The table of the end. -/
theorem depths_good {code : List In} (w : Ways code) (hn : 1 ≤ code.length) : Good code.length (rounds code (4 * code.length + 2) (start code.length)) := by
  refine (rounds_end w _ _ (start_good hn) ?_).2
  have := (Run.start hn).left
  omega
end Cd
end Go.Proofs.YtkepcdbogeineaaGreatDoor
/- Layer 8, the plain side: what is wrong with a procedure, step by step. -/
namespace Go.Proofs.YtkepcdbogeineaaGreatDoor
namespace Cd

theorem find_range (n : Nat) (p : Nat → Bool) (k : Nat) (hk : k < n) (h0 : ∀ j, j < k → p j = false) (h1 : p k = true) : (List.range n).find? p = some k := by
  rw [List.find?_eq_some_iff_getElem]
  refine ⟨h1, k, by simpa using hk, by simp, fun j hj => ?_⟩
  simp [h0 j hj]
theorem find_range_none (n : Nat) (p : Nat → Bool) (h0 : ∀ j, j < n → p j = false) : (List.range n).find? p = none := by
  rw [List.find?_eq_none]
  intro x hx
  simp [h0 x (List.mem_range.1 hx)]
theorem findIdx_some (l : List In) (p : In → Bool) (k : Nat) (hk : k < l.length) (h0 : ∀ j, j < k → p (l.getD j ⟨0, 0⟩) = false) (h1 : p (l.getD k ⟨0, 0⟩) = true) : l.findIdx? p = some k := by
  rw [List.findIdx?_eq_some_iff_getElem]
  have e : ∀ j (h : j < l.length), l.getD j ⟨0, 0⟩ = l[j] := fun j h => by rw [List.getD, List.getElem?_eq_getElem h]; rfl
  refine ⟨hk, by rw [← e k hk]; exact h1, fun j hj => ?_⟩
  rw [← e j (by omega), h0 j hj]; simp
theorem findIdx_none (l : List In) (p : In → Bool) (h0 : ∀ j, j < l.length → p (l.getD j ⟨0, 0⟩) = false) : l.findIdx? p = none := by
  rw [List.findIdx?_eq_none_iff]
  intro x hx
  obtain ⟨j, hj, rfl⟩ := List.getElem_of_mem hx
  have := h0 j hj
  rwa [List.getD, List.getElem?_eq_getElem hj] at this

/-- Is a place wrong by its depths? -/
def badD (code : List In) (k : Nat) : Bool :=
  let d := (depths code).getD k ⟨2, 0⟩
  d.ways != 1 || decide (d.deep < took (code.getD k ⟨0, 0⟩)) || decide (256 ≤ d.deep)

section
variable {c : Co} {p : Pr}
theorem bad_much (h : 4096 < p.code.length) : badAt c p = (2, 0) := by unfold badAt; rw [if_pos h]
theorem bad_form (h : p.code.length ≤ 4096) (h2 : p.params < 0 ∨ 256 < p.params ∨ p.code = []) : badAt c p = (80, 0) := by unfold badAt; rw [if_neg (by omega), if_pos h2]
theorem bad_fit (h : p.code.length ≤ 4096) (h2 : ¬ (p.params < 0 ∨ 256 < p.params ∨ p.code = [])) (k : Nat) (hk : k < p.code.length) (h0 : ∀ j, j < k → fits c p.code.length (p.code.getD j ⟨0, 0⟩) = true) (h1 : fits c p.code.length (p.code.getD k ⟨0, 0⟩) = false) : badAt c p = (80, k) := by
  unfold badAt
  rw [if_neg (by omega), if_neg h2, findIdx_some p.code _ k hk (fun j hj => by rw [h0 j hj]; rfl) (by rw [h1]; rfl)]
theorem bad_last (h : p.code.length ≤ 4096) (h2 : ¬ (p.params < 0 ∨ 256 < p.params ∨ p.code = [])) (h0 : ∀ j, j < p.code.length → fits c p.code.length (p.code.getD j ⟨0, 0⟩) = true) (hl : (p.code.getLastD ⟨0, 0⟩).op ≠ 12 ∧ (p.code.getLastD ⟨0, 0⟩).op ≠ 11 ∧ (p.code.getLastD ⟨0, 0⟩).op ≠ 8) : badAt c p = (80, p.code.length - 1) := by
  unfold badAt
  rw [if_neg (by omega), if_neg h2, findIdx_none p.code _ (fun j hj => by rw [h0 j hj]; rfl)]
  dsimp only
  rw [if_pos hl]
theorem bad_deep (h : p.code.length ≤ 4096) (h2 : ¬ (p.params < 0 ∨ 256 < p.params ∨ p.code = [])) (h0 : ∀ j, j < p.code.length → fits c p.code.length (p.code.getD j ⟨0, 0⟩) = true) (hl : ¬ ((p.code.getLastD ⟨0, 0⟩).op ≠ 12 ∧ (p.code.getLastD ⟨0, 0⟩).op ≠ 11 ∧ (p.code.getLastD ⟨0, 0⟩).op ≠ 8))
    (k : Nat) (hk : k < p.code.length) (hb : ∀ j, j < k → badD p.code j = false) (h1 : badD p.code k = true) : badAt c p = (80, k) := by
  unfold badAt
  rw [if_neg (by omega), if_neg h2, findIdx_none p.code _ (fun j hj => by rw [h0 j hj]; rfl)]
  dsimp only
  rw [if_neg hl]
  have := find_range p.code.length (badD p.code) k hk hb h1
  unfold badD at this
  rw [this]
theorem bad_not (h : p.code.length ≤ 4096) (h2 : ¬ (p.params < 0 ∨ 256 < p.params ∨ p.code = [])) (h0 : ∀ j, j < p.code.length → fits c p.code.length (p.code.getD j ⟨0, 0⟩) = true) (hl : ¬ ((p.code.getLastD ⟨0, 0⟩).op ≠ 12 ∧ (p.code.getLastD ⟨0, 0⟩).op ≠ 11 ∧ (p.code.getLastD ⟨0, 0⟩).op ≠ 8))
    (hb : ∀ j, j < p.code.length → badD p.code j = false) : badAt c p = (0, 0) := by
  unfold badAt
  rw [if_neg (by omega), if_neg h2, findIdx_none p.code _ (fun j hj => by rw [h0 j hj]; rfl)]
  dsimp only
  rw [if_neg hl]
  have := find_range_none p.code.length (badD p.code) hb
  unfold badD at this
  rw [this]

theorem fit_of (hc : c.consts.length ≤ 1024 ∧ c.globals.length ≤ 64 ∧ c.procs.length ≤ 256) (h : p.code.length ≤ 4096) (h0 : ∀ j, j < p.code.length → fits c p.code.length (p.code.getD j ⟨0, 0⟩) = true) : ∀ i ∈ p.code, Fit p.code.length i := by
  intro i him
  obtain ⟨j, hj, rfl⟩ := List.getElem_of_mem him
  have := h0 j hj
  rw [List.getD, List.getElem?_eq_getElem hj] at this
  simp only [Option.getD_some] at this
  generalize p.code[j] = x at this
  unfold fits isOp lo Cd.hi at this
  simp only [Bool.and_eq_true, decide_eq_true_eq] at this
  obtain ⟨ho, h1, h2⟩ := this
  refine ⟨ho, ?_, fun e => ?_, fun e => ?_⟩
  · split at h1 <;> (repeat' split at h2) <;> omega
  · rw [if_pos e] at h1
    rw [if_neg (by omega), if_neg (by omega), if_neg (by omega), if_neg (by omega), if_neg (by omega), if_pos e] at h2
    exact ⟨h1, h2⟩
  · rw [if_neg (by omega), if_neg (by omega), if_neg (by omega), if_neg (by omega), if_pos e] at h2
    omega
end
end Cd
end Go.Proofs.YtkepcdbogeineaaGreatDoor
/- Layer 8, the plain side: how code is written, how a text is read. -/
namespace Go.Proofs.YtkepcdbogeineaaGreatDoor
namespace Cd

def calledL : List (List UInt8) := [[],
  [99, 111, 110, 115, 116, 32],
  [118, 97, 114, 32],
  [115, 101, 116, 118, 97, 114, 32],
  [103, 108, 111, 98, 97, 108, 32],
  [115, 101, 116, 103, 108, 111, 98, 97, 108, 32],
  [99, 108, 111, 115, 117, 114, 101, 32],
  [112, 111, 112],
  [106, 117, 109, 112, 32],
  [98, 114, 97, 110, 99, 104, 32],
  [99, 97, 108, 108, 32],
  [116, 97, 105, 108, 32],
  [114, 101, 116, 117, 114, 110],
  [112, 114, 105, 109, 32],
  [115, 112, 97, 119, 110],
  [106, 111, 105, 110],
  [108, 111, 99, 107],
  [117, 110, 108, 111, 99, 107],
  [121, 105, 101, 108, 100]]
def tagL : List (List UInt8) := [[],
  [110, 105, 108],
  [102, 97, 108, 115, 101],
  [116, 114, 117, 101],
  [110, 111, 110, 101],
  [105, 110, 116, 32],
  [115, 121, 109, 98, 111, 108, 32],
  [112, 114, 105, 109, 32]]
def constB : List UInt8 := [99, 111, 110, 115, 116, 32]
def globalB : List UInt8 := [103, 108, 111, 98, 97, 108, 32]
def procB : List UInt8 := [112, 114, 111, 99, 32]

/-- Does it end with a blank? -/
def sp (l : List UInt8) : Bool := Lib.hasSuffix l [32]
def nameI (op : Int) : List UInt8 := calledL.getD op.toNat []
def nameT (t : Int) : List UInt8 := tagL.getD t.toNat []
def numd (s : List UInt8) (n : Int) : List UInt8 := if sp s then s ++ Lib.itoa n else s
/-- Lines, without their ends. -/
def instrT (i : In) : List UInt8 := numd (32 :: nameI i.op) i.a
def constT (w : Int) : List UInt8 := numd (constB ++ nameT (wordT w)) (wordN w)
def globalT (s : ByteArray) : List UInt8 := globalB ++ s.data.toList
def headT (p : Pr) : List UInt8 := procB ++ Lib.itoa p.params
def joinL (ls : List (List UInt8)) : List UInt8 := ls.flatMap (fun l => l ++ [10])
def procT (p : Pr) : List UInt8 := joinL [headT p] ++ joinL (p.code.map instrT)
def textT (c : Co) : List UInt8 := joinL (c.consts.map constT) ++ (joinL (c.globals.map globalT) ++ c.procs.flatMap procT)

/-- A number as it is written; a place. -/
def longT (s : List UInt8) : Option Int := match Lib.parseIntB 64 s with
  | .ok n => if Lib.itoa n = s then some n else none
  | _ => none
def placeT (s : List UInt8) : Option Int := match longT s with
  | some n => if 0 ≤ n ∧ n ≤ 2147483647 then some n else none
  | none => none
def wordOf (t n : Int) : Int := (n * 16 + t) % 18446744073709551616
/-- words.Make. -/
def makeW (t n : Int) : Option Int := if 1 ≤ t ∧ t ≤ 8 ∧ may t n = true then some (wordOf t n) else none

def constFrom : List Nat → List UInt8 → Option Int
  | [], _ => none
  | t :: ts, s =>
    if sp (tagL.getD t []) then
      if Lib.hasPrefix s (tagL.getD t []) then (match longT (s.drop (tagL.getD t []).length) with | some n => makeW t n | none => none)
      else constFrom ts s
    else if s = tagL.getD t [] then some (wordOf t 0) else constFrom ts s
def constR (s : List UInt8) : Option Int := constFrom [1, 2, 3, 4, 5, 6, 7] s

def instrFrom : List Nat → List UInt8 → Option In
  | [], _ => none
  | o :: os, s =>
    if sp (calledL.getD o []) then
      if Lib.hasPrefix s (calledL.getD o []) then (match placeT (s.drop (calledL.getD o []).length) with | some n => some ⟨o, n⟩ | none => none)
      else instrFrom os s
    else if s = calledL.getD o [] then some ⟨o, 0⟩ else instrFrom os s
def instrR (s : List UInt8) : Option In := instrFrom [1, 2, 3, 4, 5, 6, 7, 8, 9, 10, 11, 12, 13, 14, 15, 16, 17, 18] s

/-- The last procedure has an instruction more. -/
def addI : List Pr → In → List Pr
  | [], _ => []
  | [p], i => [⟨p.params, p.code ++ [i]⟩]
  | p :: q :: l, i => p :: addI (q :: l) i

/-- A line more. -/
def lineR (c : Co) (s : List UInt8) : Option Co :=
  if Lib.hasPrefix s [32] then (match instrR (s.drop 1) with
    | some i => if c.procs = [] then none else some { c with procs := addI c.procs i }
    | none => none)
  else if Lib.hasPrefix s constB then (match constR (s.drop constB.length) with
    | some w => if c.globals = [] ∧ c.procs = [] then some { c with consts := c.consts ++ [w] } else none
    | none => none)
  else if Lib.hasPrefix s globalB then (if c.procs = [] then some { c with globals := c.globals ++ [⟨(s.drop globalB.length).toArray⟩] } else none)
  else if Lib.hasPrefix s procB then (match placeT (s.drop procB.length) with
    | some n => some { c with procs := c.procs ++ [⟨n, []⟩] }
    | none => none)
  else none

/-- All lines: the code, or the line at which it ends. -/
def readT : Nat → List UInt8 → Co → Nat → Co × Bool × Nat
  | 0, _, c, at_ => (c, true, at_)
  | k + 1, s, c, at_ =>
    if s = [] then (c, true, at_)
    else if (Lib.cut s [10]).2.2 = false then (c, false, at_ + 1)
    else match lineR c (Lib.cut s [10]).1 with
      | none => (c, false, at_ + 1)
      | some d => readT k (Lib.cut s [10]).2.1 d (at_ + 1)

def none_ : Co := ⟨[], [], []⟩
def parseT (sym : ByteArray → Bool) (s : List UInt8) : Co × Int × Nat :=
  match readT (s.length + 1) s none_ 0 with
  | (c, true, _) => if (check sym c).1 ≠ 0 then (none_, (check sym c).1, 0) else (c, 0, 0)
  | (_, false, at_) => (none_, 81, at_)
end Cd
end Go.Proofs.YtkepcdbogeineaaGreatDoor

/- Layer 5, the plain side: what a symbol is. -/
namespace Go.Proofs.YtkepcdbogeineaaGreatDoor
namespace Cd
def isWordN (n : Nat) : Bool := decide (33 ≤ n) && (decide (n ≤ 126) && (decide (n ≠ 40) && (decide (n ≠ 41) && (decide (n ≠ 39) && (decide (n ≠ 59) && decide (n ≠ 34))))))
def isDigN (n : Nat) : Bool := decide (48 ≤ n) && decide (n ≤ 57)
/-- lex.digits -/
def allDig (l : List UInt8) : Bool := l.all (fun b => isDigN b.toNat) && !l.isEmpty
def bare (l : List UInt8) : List UInt8 := Lib.trimPrefix l [45]
/-- Does lex.word answer a symbol? -/
def wordSym (l : List UInt8) : Bool :=
  decide (l ≠ [46]) && (decide (l ≠ [35, 116]) && (decide (l ≠ [35, 102]) && (!allDig (bare l) && (!(decide ((l.getD 0 0).toNat = 35) || ((!(bare l).isEmpty && isDigN ((bare l).getD 0 0).toNat) || decide (32 < l.length)))))))
def isSym (l : List UInt8) : Bool := l.all (fun b => isWordN b.toNat) && (!l.isEmpty && wordSym l)
def sym (s : ByteArray) : Bool := isSym s.data.toList
end Cd
end Go.Proofs.YtkepcdbogeineaaGreatDoor
/- Layer 8, the plain side: what is known of code that Check takes; how long its text is. -/
namespace Go.Proofs.YtkepcdbogeineaaGreatDoor
namespace Cd

theorem badAt_cases (c : Co) (p : Pr) : (badAt c p).1 = 2 ∨ (badAt c p).1 = 80 ∨ badAt c p = (0, 0) := by
  unfold badAt
  split
  · exact .inl rfl
  · split
    · exact .inr (.inl rfl)
    · split
      · exact .inr (.inl rfl)
      · dsimp only
        split
        · exact .inr (.inl rfl)
        · split
          · exact .inr (.inl rfl)
          · exact .inr (.inr rfl)

/-- A procedure in which nothing is wrong. -/
structure GoodP (c : Co) (p : Pr) : Prop where
  len : p.code.length ≤ 4096
  params : 0 ≤ p.params ∧ p.params ≤ 256
  some : p.code ≠ []
  fit : ∀ j, j < p.code.length → fits c p.code.length (p.code.getD j ⟨0, 0⟩) = true
  last : (p.code.getLastD ⟨0, 0⟩).op = 12 ∨ (p.code.getLastD ⟨0, 0⟩).op = 11 ∨ (p.code.getLastD ⟨0, 0⟩).op = 8
  deep : ∀ j, j < p.code.length → badD p.code j = false

theorem goodP_of {c : Co} {p : Pr} (h : (badAt c p).1 = 0) : GoodP c p := by
  unfold badAt at h
  by_cases h1 : 4096 < p.code.length
  · rw [if_pos h1] at h; cases h
  · rw [if_neg h1] at h
    by_cases h2 : p.params < 0 ∨ 256 < p.params ∨ p.code = []
    · rw [if_pos h2] at h; cases h
    · rw [if_neg h2] at h
      cases h3 : p.code.findIdx? (fun i => !fits c p.code.length i) with
      | some k => rw [h3] at h; cases h
      | none =>
        rw [h3] at h
        dsimp only at h
        by_cases h4 : (p.code.getLastD ⟨0, 0⟩).op ≠ 12 ∧ (p.code.getLastD ⟨0, 0⟩).op ≠ 11 ∧ (p.code.getLastD ⟨0, 0⟩).op ≠ 8
        · rw [if_pos h4] at h; cases h
        · rw [if_neg h4] at h
          have h5 : (List.range p.code.length).find? (badD p.code) = none := by
            cases h6 : (List.range p.code.length).find? (badD p.code) with
            | none => rfl
            | some k =>
              unfold badD at h6
              rw [h6] at h; cases h
          refine ⟨by omega, by omega, fun e => h2 (.inr (.inr e)), fun j hj => ?_, by omega, fun j hj => ?_⟩
          · have := (List.findIdx?_eq_none_iff).1 h3 (p.code.getD j ⟨0, 0⟩) (getD_mem p.code j hj)
            simpa using this
          · have := List.find?_eq_none.1 h5 j (List.mem_range.2 hj)
            simpa using this

theorem GoodP.fitAll {c : Co} {p : Pr} (hc : c.consts.length ≤ 1024 ∧ c.globals.length ≤ 64 ∧ c.procs.length ≤ 256) (h : GoodP c p) : ∀ i ∈ p.code, Fit p.code.length i := fit_of hc h.len h.fit

/-- Code that Check takes. -/
structure GoodC (c : Co) : Prop where
  lens : c.consts.length ≤ 1024 ∧ c.globals.length ≤ 64 ∧ c.procs.length ≤ 256
  some : c.procs ≠ []
  consts : ∀ x ∈ c.consts, isWord x = true ∧ wordT x ≠ 8
  globals : ∀ s ∈ c.globals, sym s = true
  apart : ∀ i, i < c.globals.length → Lib.containsS (c.globals.take i) (c.globals.getD i ByteArray.empty) = false
  procs : ∀ p ∈ c.procs, GoodP c p

theorem goodC_of {c : Co} (h : (check sym c).1 = 0) : GoodC c := by
  unfold check at h
  by_cases h1 : 256 < c.procs.length ∨ 1024 < c.consts.length ∨ 64 < c.globals.length
  · rw [if_pos h1] at h; cases h
  · rw [if_neg h1] at h
    by_cases h2 : c.procs = [] ∨ named sym c = false
    · rw [if_pos h2] at h; cases h
    · rw [if_neg h2] at h
      have hn : named sym c = true := by
        cases e : named sym c with
        | true => rfl
        | false => exact absurd (.inr e) h2
      unfold named at hn
      simp only [Bool.and_eq_true] at hn
      obtain ⟨⟨n1, n2⟩, n3⟩ := hn
      refine ⟨by omega, fun e => h2 (.inl e), fun x hx => ?_, fun s hs => List.all_eq_true.1 n2 s hs, fun i hi => ?_, fun p hp => ?_⟩
      · have := List.all_eq_true.1 n1 x hx
        rw [Bool.and_eq_true] at this
        exact ⟨this.1, by simpa using this.2⟩
      · have := List.all_eq_true.1 n3 i (List.mem_range.2 hi)
        simpa using this
      · obtain ⟨k, hk, rfl⟩ := List.getElem_of_mem hp
        cases h3 : (List.range c.procs.length).find? (fun k => (badAt c (c.procs.getD k ⟨0, []⟩)).1 != 0) with
        | some j =>
          rw [h3] at h
          have := List.find?_some h3
          dsimp only at h
          rw [h] at this
          cases this
        | none =>
          have := List.find?_eq_none.1 h3 k (List.mem_range.2 hk)
          rw [List.getD, List.getElem?_eq_getElem hk] at this
          exact goodP_of (by simpa using this)

theorem sym_short {s : ByteArray} (h : sym s = true) : s.data.toList.length ≤ 32 := by
  unfold sym isSym wordSym at h
  simp only [Bool.and_eq_true, Bool.not_eq_true', Bool.or_eq_false_iff, decide_eq_false_iff_not] at h
  omega

theorem joinL_app (a b : List (List UInt8)) : joinL (a ++ b) = joinL a ++ joinL b := by simp [joinL]
theorem joinL_one (l : List UInt8) : joinL [l] = l ++ [10] := by simp [joinL]
theorem joinL_le (ls : List (List UInt8)) (m : Nat) (h : ∀ x ∈ ls, x.length ≤ m) : (joinL ls).length ≤ (m + 1) * ls.length := by
  induction ls with
  | nil => simp [joinL]
  | cons a l ih =>
    have h1 := ih (fun x hx => h x (List.mem_cons_of_mem _ hx))
    have h2 := h a (List.mem_cons_self ..)
    have e : (joinL (a :: l)).length = a.length + 1 + (joinL l).length := by simp [joinL]; omega
    rw [e, List.length_cons, Nat.mul_add]; omega

theorem numd_le (s : List UInt8) (n : Int) (h : -9223372036854775808 ≤ n ∧ n ≤ 9223372036854775807) : (numd s n).length ≤ s.length + 21 := by
  unfold numd
  split
  · rw [List.length_append]; have := Lib.itoa_length_le n h.1 h.2; omega
  · omega
theorem name_short (o : Nat) : (calledL.getD o []).length ≤ 11 := by
  rcases Nat.lt_or_ge o calledL.length with h | h
  · have : ∀ x ∈ calledL, x.length ≤ 11 := by decide
    rw [List.getD, List.getElem?_eq_getElem h]; exact this _ (List.getElem_mem _)
  · rw [List.getD, List.getElem?_eq_none h]; simp
theorem nameT_short (o : Nat) : (tagL.getD o []).length ≤ 11 := by
  rcases Nat.lt_or_ge o tagL.length with h | h
  · have : ∀ x ∈ tagL, x.length ≤ 11 := by decide
    rw [List.getD, List.getElem?_eq_getElem h]; exact this _ (List.getElem_mem _)
  · rw [List.getD, List.getElem?_eq_none h]; simp
theorem instrT_le (i : In) (h : -9223372036854775808 ≤ i.a ∧ i.a ≤ 9223372036854775807) : (instrT i).length ≤ 33 := by
  have := numd_le (32 :: nameI i.op) i.a h
  have h1 := name_short i.op.toNat
  unfold instrT
  unfold nameI at *
  rw [List.length_cons] at this
  omega
theorem wordN_in (x : Int) (hx : 0 ≤ x ∧ x < 18446744073709551616) : -9223372036854775808 ≤ wordN x ∧ wordN x ≤ 9223372036854775807 := by
  have : wordN x = signed x / 16 := rfl
  rw [this]
  unfold signed
  split <;> omega
theorem constT_le (x : Int) (hx : 0 ≤ x ∧ x < 18446744073709551616) : (constT x).length ≤ 39 := by
  have := numd_le (constB ++ nameT (wordT x)) (wordN x) (wordN_in x hx)
  have h1 := nameT_short (wordT x).toNat
  have h2 : constB.length = 6 := rfl
  unfold constT
  unfold nameT at *
  rw [List.length_append] at this
  omega
theorem globalT_le {s : ByteArray} (h : sym s = true) : (globalT s).length ≤ 39 := by
  have := sym_short h
  have h2 : globalB.length = 7 := rfl
  unfold globalT
  rw [List.length_append]; omega
theorem headT_le (p : Pr) (h : -9223372036854775808 ≤ p.params ∧ p.params ≤ 9223372036854775807) : (headT p).length ≤ 26 := by
  have h2 : procB.length = 5 := rfl
  have := Lib.itoa_length_le p.params h.1 h.2
  unfold headT
  rw [List.length_append]; omega
end Cd
end Go.Proofs.YtkepcdbogeineaaGreatDoor
/- Layer 8, the plain side: through a procedure that may be each way keeps the depths that Check has found. -/
namespace Go.Proofs.YtkepcdbogeineaaGreatDoor
namespace Cd

theorem getD_set' {α : Type} (l : List α) (i j : Nat) (x d : α) : (l.set i x).getD j d = if j = i ∧ i < l.length then x else l.getD j d := by
  by_cases h : i < l.length
  · rw [getD_set l i j x d h]
    by_cases e : j = i
    · rw [if_pos e, if_pos ⟨e, h⟩]
    · rw [if_neg e, if_neg (fun h => e h.1)]
  · rw [List.set_eq_of_length_le (by omega), if_neg (fun hh => h hh.2)]

/-- Place 0 has depth 0 at all times. -/
def Zero (l : List De) : Prop := 1 ≤ (l.getD 0 ⟨2, 0⟩).ways ∧ (l.getD 0 ⟨2, 0⟩).deep = 0
theorem comes_zero {s : List De × List Nat} (h : Zero s.1) (a : Nat) (d : De) : Zero (comes s a d).1 := by
  unfold comes
  dsimp only
  split
  · rename_i h0
    unfold Zero
    dsimp only
    rw [getD_set']
    by_cases e : a = 0
    · subst e; have := h.1; omega
    · rw [if_neg (fun hh => e hh.1.symm)]; exact h
  · split
    · exact h
    · unfold Zero
      dsimp only
      rw [getD_set']
      by_cases e : a = 0
      · subst e
        split
        · exact ⟨Nat.le_succ 1, h.2⟩
        · exact h
      · rw [if_neg (fun hh => e hh.1.symm)]; exact h
theorem round_zero {code : List In} {s : List De × List Nat} (h : Zero s.1) : Zero (round code s).1 := by
  unfold round
  dsimp only
  have h' : Zero ((s.1, s.2.dropLast) : List De × List Nat).1 := h
  split
  · exact comes_zero h' _ _
  · split
    · exact h
    · split
      · exact comes_zero (comes_zero h' _ _) _ _
      · exact comes_zero h' _ _
theorem rounds_zero {code : List In} : ∀ (k : Nat) (s : List De × List Nat), Zero s.1 → Zero (rounds code k s).1
  | 0, _, h => h
  | k + 1, s, h => by
    unfold rounds
    split
    · exact h
    · exact rounds_zero k _ (round_zero h)
theorem depths_zero (code : List In) : Zero (depths code) := rounds_zero _ _ ⟨by simp [start], by simp [start]⟩

/-- A way stands at a place of code with so many words. -/
structure At (code : List In) (a : Nat) (d : Int) : Prop where
  lt : a < code.length
  deep : ((depths code).getD a ⟨2, 0⟩).deep = d
  ways : ((depths code).getD a ⟨2, 0⟩).ways = 1

section
variable {c : Co} {p : Pr}
theorem GoodP.ways (hc : c.consts.length ≤ 1024 ∧ c.globals.length ≤ 64 ∧ c.procs.length ≤ 256) (g : GoodP c p) : Ways p.code := ways_of (g.fitAll hc) (by have := g.last; omega)
theorem GoodP.pos (g : GoodP c p) : 1 ≤ p.code.length := by
  have := g.some
  cases h : p.code with
  | nil => exact absurd h this
  | cons a l => simp
theorem GoodP.at (g : GoodP c p) (a : Nat) (h : a < p.code.length) : ((depths p.code).getD a ⟨2, 0⟩).ways = 1 ∧ took (p.code.getD a ⟨0, 0⟩) ≤ ((depths p.code).getD a ⟨2, 0⟩).deep ∧ ((depths p.code).getD a ⟨2, 0⟩).deep ≤ 255 := by
  have := g.deep a h
  unfold badD at this
  simp only [Bool.or_eq_false_iff, bne_eq_false_iff_eq, decide_eq_false_iff_not] at this
  omega
theorem At.start (g : GoodP c p) : At p.code 0 0 := ⟨g.pos, (depths_zero p.code).2, (g.at 0 g.pos).1⟩
theorem succs_lt (w : Ways p.code) {a : Nat} (h : a < p.code.length) : ∀ j ∈ succs p.code a, j < p.code.length := fun j hj => by
  simp only [succs] at hj
  split at hj
  · rename_i e; rw [List.mem_singleton.1 hj]; exact w.jump a h (.inl e)
  · rename_i e8
    split at hj
    · cases hj
    · rename_i e
      have hl := w.last a h e8 (fun x => e (.inr x)) (fun x => e (.inl x))
      split at hj
      · rename_i e9
        rcases List.mem_cons.1 hj with hj | hj
        · rw [hj]; exact w.jump a h (.inr e9)
        · rw [List.mem_singleton.1 hj]; exact hl
      · rw [List.mem_singleton.1 hj]; exact hl
theorem At.next (hc : c.consts.length ≤ 1024 ∧ c.globals.length ≤ 64 ∧ c.procs.length ≤ 256) (g : GoodP c p) {a : Nat} {d : Int} (h : At p.code a d) {j : Nat} (hj : j ∈ succs p.code a) : At p.code j (d - took (p.code.getD a ⟨0, 0⟩) + puts (p.code.getD a ⟨0, 0⟩)) := by
  have hl := succs_lt (g.ways hc) h.lt j hj
  have hw := (g.at j hl).1
  have ht := depths_told (g.ways hc) g.pos a h.lt (by rw [h.ways]; omega) j hj
  rcases ht with ht | ⟨_, _, h3⟩
  · omega
  · refine ⟨hl, ?_, hw⟩
    rw [h3, h.deep]
    unfold delta
    omega
end
end Cd
end Go.Proofs.YtkepcdbogeineaaGreatDoor
