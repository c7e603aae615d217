/- Layer 8, the plain side: lines as they are written are read as what they say, and the other way round. -/
import Derived.Test.YticaipedpcmhfaaGreatDoorCdK1
import Derived.Lib.IndexMore
namespace Go.Proofs.YticaipedpcmhfaaGreatDoor
namespace Cd
open Go.Lib

/-- What constants' names, instructions' names have: their numbers. -/
theorem constFrom_back : ∀ (l : List Nat) (s : List UInt8) (w : Int), (∀ t ∈ l, 1 ≤ t ∧ t ≤ 7) → constFrom l s = some w → ∃ t ∈ l, wordT w = t ∧ 0 ≤ w ∧ s = if sp (tagL.getD t []) then tagL.getD t [] ++ itoa (wordN w) else tagL.getD t []
  | [], _, _, _, h => by cases h
  | t :: ts, s, w, hl, h => by
    have ht := hl t (by simp)
    unfold constFrom at h
    split at h
    · rename_i hs
      split at h
      · rename_i hp
        split at h
        · rename_i n hn
          unfold makeW at h
          split at h
          · rename_i hm
            injection h with h
            obtain ⟨e1, e2⟩ := word_of (t : Int) n (by omega) hm.2.2
            refine ⟨t, by simp, by rw [← h]; exact e1, by rw [← h]; unfold wordOf; omega, ?_⟩
            rw [if_pos hs, ← h, e2, ← longT_back hn]
            obtain ⟨r, hr⟩ := List.isPrefixOf_iff_prefix.1 hp
            rw [← hr, List.drop_left]
          · cases h
        · cases h
      · obtain ⟨t', h1, h2⟩ := constFrom_back ts s w (fun t ht => hl t (by simp [ht])) h
        exact ⟨t', by simp [h1], h2⟩
    · rename_i hs
      split at h
      · rename_i e
        injection h with h
        have hm : may (t : Int) 0 = true := by
          have h7 : t = 1 ∨ t = 2 ∨ t = 3 ∨ t = 4 ∨ t = 5 ∨ t = 6 ∨ t = 7 := by omega
          rcases h7 with rfl | rfl | rfl | rfl | rfl | rfl | rfl
          · decide
          · decide
          · decide
          · decide
          · decide
          · decide
          · exact absurd (by decide) hs
        obtain ⟨e1, e2⟩ := word_of (t : Int) 0 (by omega) hm
        exact ⟨t, by simp, by rw [← h]; exact e1, by rw [← h]; unfold wordOf; omega, by rw [if_neg hs]; exact e⟩
      · obtain ⟨t', h1, h2⟩ := constFrom_back ts s w (fun t ht => hl t (by simp [ht])) h
        exact ⟨t', by simp [h1], h2⟩

theorem instrFrom_back : ∀ (l : List Nat) (s : List UInt8) (i : In), instrFrom l s = some i → ∃ o ∈ l, i.op = o ∧ (s = if sp (calledL.getD o []) then calledL.getD o [] ++ itoa i.a else calledL.getD o [])
  | [], _, _, h => by cases h
  | o :: os, s, i, h => by
    unfold instrFrom at h
    split at h
    · rename_i hs
      split at h
      · rename_i hp
        split at h
        · rename_i n hn
          injection h with h
          refine ⟨o, by simp, by rw [← h], ?_⟩
          rw [if_pos hs, ← h, ← (placeT_back hn).1]
          obtain ⟨r, hr⟩ := List.isPrefixOf_iff_prefix.1 hp
          rw [← hr, List.drop_left]
        · cases h
      · obtain ⟨t', h1, h2⟩ := instrFrom_back os s i h
        exact ⟨t', by simp [h1], h2⟩
    · rename_i hs
      split at h
      · rename_i e
        injection h with h
        exact ⟨o, by simp, by rw [← h], by rw [if_neg hs]; exact e⟩
      · obtain ⟨t', h1, h2⟩ := instrFrom_back os s i h
        exact ⟨t', by simp [h1], h2⟩

theorem sp_tag : ∀ t, t < 8 → sp (constB ++ tagL.getD t []) = (decide (t = 0) || sp (tagL.getD t [])) := by decide
theorem sp_name : ∀ o, o < 19 → sp (32 :: calledL.getD o []) = (decide (o = 0) || sp (calledL.getD o [])) := by decide

/-- How a constant's line, an instruction's line read. -/
theorem constT_of (w : Int) (t : Nat) (ht : 1 ≤ t ∧ t ≤ 7) (hw : wordT w = t) : constT w = constB ++ (if sp (tagL.getD t []) then tagL.getD t [] ++ itoa (wordN w) else tagL.getD t []) := by
  unfold constT numd nameT
  rw [hw, Int.toNat_natCast, sp_tag t (by omega), decide_eq_false (by omega), Bool.false_or]
  split
  · rw [List.append_assoc]
  · rfl
theorem instrT_of (i : In) (o : Nat) (ho : 1 ≤ o ∧ o ≤ 18) (hi : i.op = o) : instrT i = 32 :: (if sp (calledL.getD o []) then calledL.getD o [] ++ itoa i.a else calledL.getD o []) := by
  unfold instrT numd nameI
  rw [hi, Int.toNat_natCast, sp_name o (by omega), decide_eq_false (by omega), Bool.false_or]
  split <;> rfl

theorem constR_back {s : List UInt8} {w : Int} (h : constR s = some w) : constT w = constB ++ s := by
  obtain ⟨t, ht, hw, _, hs⟩ := constFrom_back [1, 2, 3, 4, 5, 6, 7] s w (by decide) h
  have ht' : 1 ≤ t ∧ t ≤ 7 := (by decide : ∀ t ∈ [1, 2, 3, 4, 5, 6, 7], 1 ≤ t ∧ t ≤ 7) t ht
  rw [constT_of w t ht' hw, ← hs]
theorem instrR_back {s : List UInt8} {i : In} (h : instrR s = some i) : instrT i = 32 :: s := by
  obtain ⟨o, ho, hi, hs⟩ := instrFrom_back _ s i h
  have ho' : 1 ≤ o ∧ o ≤ 18 := (by decide : ∀ t ∈ [1, 2, 3, 4, 5, 6, 7, 8, 9, 10, 11, 12, 13, 14, 15, 16, 17, 18], 1 ≤ t ∧ t ≤ 18) o ho
  rw [instrT_of i o ho' hi, ← hs]

theorem prefix_app (p r : List UInt8) : hasPrefix (p ++ r) p = true := List.isPrefixOf_iff_prefix.2 ⟨r, rfl⟩

def differ (X Y : List UInt8) : Bool := (List.range 4).any (fun j => decide (j < X.length ∧ j < Y.length ∧ X.getD j 0 ≠ Y.getD j 0))
theorem app_skip (X Y r : List UInt8) (hk : differ X Y = true) (x : List UInt8) : X ++ r ≠ Y ++ x := fun e => by
  obtain ⟨j, _, hj⟩ := List.any_eq_true.1 hk
  obtain ⟨h1, h2, h3⟩ := of_decide_eq_true hj
  have e1 : (X ++ r)[j]? = X[j]? := List.getElem?_append_left h1
  have e2 : (Y ++ x)[j]? = Y[j]? := List.getElem?_append_left h2
  rw [e, e2] at e1
  exact h3 (by rw [List.getD, List.getD, e1])

/-- No name begins with an earlier one that stands where a number follows; none is an earlier one. -/
theorem constFrom_skip (t' t : Nat) (ts : List Nat) (ht' : 1 ≤ t' ∧ t' < t) (ht : t ≤ 7) (r : List UInt8) (_hr : sp (tagL.getD t []) = false → r = []) : constFrom (t' :: ts) (tagL.getD t [] ++ r) = constFrom ts (tagL.getD t [] ++ r) := by
  have key : ∀ t', t' < 8 → ∀ t, t < 8 → ¬ (1 ≤ t' ∧ t' < t) ∨ differ (tagL.getD t []) (tagL.getD t' []) = true := by decide
  have hne := app_skip (tagL.getD t []) (tagL.getD t' []) r ((key t' (by omega) t (by omega)).resolve_left (fun h => h ht'))
  conv => lhs; unfold constFrom
  split
  · rw [if_neg]
    intro hp
    obtain ⟨x, hx⟩ := List.isPrefixOf_iff_prefix.1 hp
    exact hne x hx.symm
  · rw [if_neg]
    intro e
    exact hne [] (by rw [e, List.append_nil])
theorem constFrom_at (w : Int) (t : Nat) (ht : 1 ≤ t ∧ t ≤ 7) (hw0 : 0 ≤ w ∧ w < 18446744073709551616) (hw : wordT w = t) (hm : may t (wordN w) = true) : ∀ (d : Nat) (k : Nat), k + d = t → 1 ≤ k → ∀ ts, constFrom ((List.range' k (d + 1)) ++ ts) (if sp (tagL.getD t []) then tagL.getD t [] ++ itoa (wordN w) else tagL.getD t []) = some w
  | 0, k, hk, _, ts => by
    obtain rfl : k = t := by omega
    have hb := wordOf_back w hw0
    rw [hw] at hb
    have hN := wordN_in w hw0
    rw [show List.range' k (0 + 1) ++ ts = k :: ts from rfl]
    unfold constFrom
    split
    · rename_i hs
      rw [if_pos (prefix_app _ _), List.drop_left, longT_itoa _ hN]
      dsimp only
      unfold makeW
      rw [if_pos ⟨by omega, by omega, hm⟩, hb]
    · rename_i hs
      rw [if_pos rfl]
      have h4 : k = 1 ∨ k = 2 ∨ k = 3 ∨ k = 4 ∨ k = 5 ∨ k = 6 ∨ k = 7 := by omega
      have hz : wordN w = 0 := by
        unfold may least most at hm
        have hm := of_decide_eq_true hm
        rcases h4 with rfl | rfl | rfl | rfl | rfl | rfl | rfl
        · simp at hm; omega
        · simp at hm; omega
        · simp at hm; omega
        · simp at hm; omega
        · exact absurd (by decide) hs
        · exact absurd (by decide) hs
        · exact absurd (by decide) hs
      rw [hz] at hb
      rw [hb]
  | d + 1, k, hk, h1, ts => by
    have hskip : ∀ (ts : List Nat), constFrom (k :: ts) (if sp (tagL.getD t []) then tagL.getD t [] ++ itoa (wordN w) else tagL.getD t []) = constFrom ts (if sp (tagL.getD t []) then tagL.getD t [] ++ itoa (wordN w) else tagL.getD t []) := fun ts => by
      by_cases hs : sp (tagL.getD t []) = true
      · rw [if_pos hs]
        exact constFrom_skip k t ts ⟨h1, by omega⟩ ht.2 _ (fun h => by rw [hs] at h; cases h)
      · rw [if_neg hs]
        have := constFrom_skip k t ts ⟨h1, by omega⟩ ht.2 [] (fun _ => rfl)
        rwa [List.append_nil] at this
    rw [show List.range' k (d + 1 + 1) = k :: List.range' (k + 1) (d + 1) from rfl, List.cons_append, hskip]
    exact constFrom_at w t ht hw0 hw hm d (k + 1) (by omega) (by omega) ts

/-- A constant's line is read as the constant. -/
theorem constR_of (w : Int) (hw0 : 0 ≤ w ∧ w < 18446744073709551616) (hw : isWord w = true) (h8 : wordT w ≠ 8) : ∃ s, constT w = constB ++ s ∧ constR s = some w := by
  unfold isWord at hw
  rw [Bool.and_eq_true] at hw
  have h1 := of_decide_eq_true hw.1
  obtain ⟨t, ht⟩ : ∃ t : Nat, wordT w = t := ⟨(wordT w).toNat, by omega⟩
  have hm := hw.2
  rw [ht] at h1 h8 hm
  have ht' : 1 ≤ t ∧ t ≤ 7 := by omega
  refine ⟨_, constT_of w t ht' ht, ?_⟩
  have := constFrom_at w t ht' hw0 ht hm (t - 1) 1 (by omega) (Nat.le_refl _) (List.range' (t + 1) (7 - t))
  unfold constR
  rw [show [1, 2, 3, 4, 5, 6, 7] = List.range' 1 (t - 1 + 1) ++ List.range' (t + 1) (7 - t) from ?_]
  · exact this
  · have : t = 1 ∨ t = 2 ∨ t = 3 ∨ t = 4 ∨ t = 5 ∨ t = 6 ∨ t = 7 := by omega
    rcases this with rfl | rfl | rfl | rfl | rfl | rfl | rfl <;> rfl

theorem instrFrom_skip (o' o : Nat) (os : List Nat) (ho' : 1 ≤ o' ∧ o' < o) (ho : o ≤ 18) (r : List UInt8) (_hr : sp (calledL.getD o []) = false → r = []) : instrFrom (o' :: os) (calledL.getD o [] ++ r) = instrFrom os (calledL.getD o [] ++ r) := by
  have key : ∀ o', o' < 19 → ∀ o, o < 19 → ¬ (1 ≤ o' ∧ o' < o) ∨ differ (calledL.getD o []) (calledL.getD o' []) = true := by decide
  have hne := app_skip (calledL.getD o []) (calledL.getD o' []) r ((key o' (by omega) o (by omega)).resolve_left (fun h => h ho'))
  conv => lhs; unfold instrFrom
  split
  · rw [if_neg]
    intro hp
    obtain ⟨x, hx⟩ := List.isPrefixOf_iff_prefix.1 hp
    exact hne x hx.symm
  · rw [if_neg]
    intro e
    exact hne [] (by rw [e, List.append_nil])
theorem instrFrom_at (i : In) (o : Nat) (ho : 1 ≤ o ∧ o ≤ 18) (hi : i.op = o) (ha : 0 ≤ i.a ∧ i.a ≤ 4096) (hz : sp (calledL.getD o []) = false → i.a = 0) : ∀ (d : Nat) (k : Nat), k + d = o → 1 ≤ k → ∀ os, instrFrom ((List.range' k (d + 1)) ++ os) (if sp (calledL.getD o []) then calledL.getD o [] ++ itoa i.a else calledL.getD o []) = some i
  | 0, k, hk, _, ts => by
    obtain rfl : k = o := by omega
    rw [show List.range' k (0 + 1) ++ ts = k :: ts from rfl]
    unfold instrFrom
    split
    · rename_i hs
      rw [if_pos (prefix_app _ _), List.drop_left, placeT_itoa _ (by omega)]
      dsimp only
      rw [← hi]
    · rename_i hs
      rw [if_pos rfl, ← hi, ← hz (by simpa using hs)]
  | d + 1, k, hk, h1, ts => by
    have hskip : ∀ (ts : List Nat), instrFrom (k :: ts) (if sp (calledL.getD o []) then calledL.getD o [] ++ itoa i.a else calledL.getD o []) = instrFrom ts (if sp (calledL.getD o []) then calledL.getD o [] ++ itoa i.a else calledL.getD o []) := fun ts => by
      by_cases hs : sp (calledL.getD o []) = true
      · rw [if_pos hs]
        exact instrFrom_skip k o ts ⟨h1, by omega⟩ ho.2 _ (fun h => by rw [hs] at h; cases h)
      · rw [if_neg hs]
        have := instrFrom_skip k o ts ⟨h1, by omega⟩ ho.2 [] (fun _ => rfl)
        rwa [List.append_nil] at this
    rw [show List.range' k (d + 1 + 1) = k :: List.range' (k + 1) (d + 1) from rfl, List.cons_append, hskip]
    exact instrFrom_at i o ho hi ha hz d (k + 1) (by omega) (by omega) ts

/-- An instruction's line is read as the instruction. -/
theorem instrR_of (c : Co) (n : Nat) (i : In) (hn : n ≤ 4096) (hc : c.consts.length ≤ 1024 ∧ c.globals.length ≤ 64 ∧ c.procs.length ≤ 256) (hf : fits c n i = true) : ∃ s, instrT i = 32 :: s ∧ instrR s = some i := by
  have hf' := hf
  unfold fits isOp at hf
  rw [Bool.and_eq_true] at hf
  have h1 := of_decide_eq_true hf.1
  have h2 := of_decide_eq_true hf.2
  obtain ⟨o, ho⟩ : ∃ o : Nat, i.op = o := ⟨i.op.toNat, by omega⟩
  rw [ho] at h1 h2
  have ho' : 1 ≤ o ∧ o ≤ 18 := by omega
  have ha : 0 ≤ i.a ∧ i.a ≤ 4096 := by
    unfold lo hi at h2
    obtain ⟨h3, h4⟩ := h2
    constructor
    · split at h3 <;> omega
    · repeat' split at h4
      all_goals omega
  have hz : sp (calledL.getD o []) = false → i.a = 0 := fun hs => by
    have hd : o = 7 ∨ o = 12 ∨ o = 14 ∨ o = 15 ∨ o = 16 ∨ o = 17 ∨ o = 18 := (by decide : ∀ o, o < 19 → 1 ≤ o → sp (calledL.getD o []) = false → o = 7 ∨ o = 12 ∨ o = 14 ∨ o = 15 ∨ o = 16 ∨ o = 17 ∨ o = 18) o (by omega) ho'.1 hs
    unfold lo hi at h2
    rcases hd with rfl | rfl | rfl | rfl | rfl | rfl | rfl <;> simp at h2 <;> omega
  refine ⟨_, instrT_of i o ho' ho, ?_⟩
  have := instrFrom_at i o ho' ho ha hz (o - 1) 1 (by omega) (Nat.le_refl _) (List.range' (o + 1) (18 - o))
  unfold instrR
  rw [show [1, 2, 3, 4, 5, 6, 7, 8, 9, 10, 11, 12, 13, 14, 15, 16, 17, 18] = List.range' 1 (o - 1 + 1) ++ List.range' (o + 1) (18 - o) from ?_]
  · exact this
  · rcases (show o = 1 ∨ o = 2 ∨ o = 3 ∨ o = 4 ∨ o = 5 ∨ o = 6 ∨ o = 7 ∨ o = 8 ∨ o = 9 ∨ o = 10 ∨ o = 11 ∨ o = 12 ∨ o = 13 ∨ o = 14 ∨ o = 15 ∨ o = 16 ∨ o = 17 ∨ o = 18 by omega) with rfl | rfl | rfl | rfl | rfl | rfl | rfl | rfl | rfl | rfl | rfl | rfl | rfl | rfl | rfl | rfl | rfl | rfl <;> rfl
end Cd
end Go.Proofs.YticaipedpcmhfaaGreatDoor
