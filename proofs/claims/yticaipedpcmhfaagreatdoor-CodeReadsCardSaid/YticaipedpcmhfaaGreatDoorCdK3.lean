/- Layer 8, the plain side: numbers, words, instructions as they are written are read as they were, and the other way round. -/
import Derived.Test.YticaipedpcmhfaaGreatDoorCd
import Derived.Lib.ItoaMem
import Derived.Lib.IndexMore
namespace Go.Proofs.YticaipedpcmhfaaGreatDoor
namespace Cd
open Go.Lib

theorem digit_byte (d : Nat) (h : d < 10) : (UInt8.ofNat (48 + d)).toNat = 48 + d := by
  rw [UInt8.toNat_ofNat']; omega
theorem decDigits_all (u : Nat) : ∀ b ∈ decDigits u, 48 ≤ b.toNat ∧ b.toNat ≤ 57 := by
  induction u using Nat.strongRecOn with
  | _ u ih =>
    intro b hb
    rw [decDigits] at hb
    split at hb
    · rename_i h
      rw [List.mem_singleton.1 hb, digit_byte u h]; omega
    · rename_i h
      rcases List.mem_append.1 hb with hb | hb
      · exact ih (u / 10) (by omega) b hb
      · rw [List.mem_singleton.1 hb, digit_byte (u % 10) (by omega)]; omega
theorem decDigits_ne (u : Nat) : decDigits u ≠ [] := by
  rw [decDigits]
  split <;> simp

theorem parseM_app (M : Nat) : ∀ (l r : List UInt8) (acc a : Nat), parseUintM M acc l = .ok a → parseUintM M acc (l ++ r) = parseUintM M a r
  | [], r, acc, a, h => by
    rw [parseUintM] at h
    injection h with h
    rw [h]; rfl
  | c :: l, r, acc, a, h => by
    rw [parseUintM] at h
    rw [List.cons_append, parseUintM]
    split at h
    · rename_i h1
      rw [if_pos h1]
      split at h
      · cases h
      · rename_i h2
        rw [if_neg h2]
        split at h
        · cases h
        · rename_i h3
          rw [if_neg h3]
          exact parseM_app M l r _ a h
    · cases h
theorem parseM_digits (M : Nat) (hM : M ≤ 18446744073709551615) (u : Nat) (hu : u ≤ M) : parseUintM M 0 (decDigits u) = .ok u := by
  induction u using Nat.strongRecOn with
  | _ u ih =>
    rw [decDigits]
    split
    · rename_i h
      rw [parseUintM, digit_byte u h, if_pos (by omega), if_neg (by omega), if_neg (by omega), parseUintM]
      congr 1
      omega
    · rename_i h
      rw [parseM_app M _ _ 0 _ (ih (u / 10) (by omega) (by omega)), parseUintM, digit_byte (u % 10) (by omega), if_pos (by omega), if_neg (by omega), if_neg (by omega), parseUintM]
      congr 1
      omega

theorem parse_itoa (n : Int) (h : -9223372036854775808 ≤ n ∧ n ≤ 9223372036854775807) : parseIntB 64 (itoa n) = .ok n := by
  by_cases hn : n < 0
  · obtain ⟨u, rfl⟩ : ∃ u : Nat, n = -(u : Int) := ⟨n.natAbs, by omega⟩
    rw [itoa_neg u (by omega)]
    have hp : parseUintB 64 (decDigits u) = .ok u := by
      unfold parseUintB
      rw [if_neg (decDigits_ne u)]
      exact parseM_digits _ (by decide) u (by omega)
    unfold parseIntB
    dsimp only
    rw [if_pos (.inr (by decide)), hp]
    dsimp only
    rw [if_neg (by simp), if_neg (by simp; omega), if_pos (by decide)]
  · obtain ⟨u, rfl⟩ : ∃ u : Nat, n = (u : Int) := ⟨n.toNat, by omega⟩
    rw [itoa_nonneg u]
    have hp : parseUintB 64 (decDigits u) = .ok u := by
      unfold parseUintB
      rw [if_neg (decDigits_ne u)]
      exact parseM_digits _ (by decide) u (by omega)
    cases hd : decDigits u with
    | nil => exact absurd hd (decDigits_ne u)
    | cons c r =>
      have hc := decDigits_all u c (by rw [hd]; simp)
      unfold parseIntB
      dsimp only
      rw [if_neg (by omega), ← hd, hp]
      dsimp only
      rw [if_neg (by intro h1; have := h1.2; simp at this; omega), if_neg (by omega), if_neg (by omega)]

theorem longT_itoa (n : Int) (h : -9223372036854775808 ≤ n ∧ n ≤ 9223372036854775807) : longT (itoa n) = some n := by
  unfold longT
  rw [parse_itoa n h]
  dsimp only
  rw [if_pos rfl]
theorem placeT_itoa (n : Int) (h : 0 ≤ n ∧ n ≤ 2147483647) : placeT (itoa n) = some n := by
  unfold placeT
  rw [longT_itoa n (by omega)]
  dsimp only
  rw [if_pos h]
theorem longT_back {s : List UInt8} {n : Int} (h : longT s = some n) : s = itoa n := by
  unfold longT at h
  split at h
  · split at h
    · rename_i e
      injection h with h
      rw [← h]; exact e.symm
    · cases h
  · cases h
theorem placeT_back {s : List UInt8} {n : Int} (h : placeT s = some n) : s = itoa n ∧ 0 ≤ n ∧ n ≤ 2147483647 := by
  unfold placeT at h
  split at h
  · rename_i m hm
    split at h
    · rename_i c
      injection h with h
      subst h
      exact ⟨longT_back hm, c⟩
    · cases h
  · cases h

/-- No line's end in what is written. -/
theorem itoa_no10 (n : Int) : (10 : UInt8) ∉ itoa n := fun hm => by
  unfold itoa at hm
  split at hm
  · rcases List.mem_cons.1 hm with h | h
    · exact absurd h (by decide)
    · have := decDigits_all _ _ h
      simp at this
  · have := decDigits_all _ _ hm
    simp at this

/-- Words. -/
theorem signed_in (w : Int) (h : 0 ≤ w ∧ w < 18446744073709551616) : signed w % 16 = w % 16 ∧ signed w % 18446744073709551616 = w := by
  unfold signed
  split <;> omega
theorem wordOf_back (w : Int) (h : 0 ≤ w ∧ w < 18446744073709551616) : wordOf (wordT w) (wordN w) = w := by
  obtain ⟨h1, h2⟩ := signed_in w h
  unfold wordOf wordT wordN
  have : signed w / 16 * 16 + w % 16 = signed w := by omega
  rw [this, h2]
theorem word_of (t n : Int) (ht : 1 ≤ t ∧ t ≤ 8) (hn : may t n = true) : wordT (wordOf t n) = t ∧ wordN (wordOf t n) = n := by
  have hb : -576460752303423488 ≤ n ∧ n ≤ 576460752303423487 := by
    unfold may at hn
    have h := of_decide_eq_true hn
    unfold least most at h
    obtain ⟨h1, h2⟩ := h
    split at h1 <;> split at h2 <;> (try split at h1) <;> (try split at h2) <;> (try split at h2) <;> (try split at h2) <;> omega
  unfold wordT wordN wordOf signed
  constructor
  · omega
  · split <;> omega
end Cd
end Go.Proofs.YticaipedpcmhfaaGreatDoor
/- Layer 8, the plain side: lines as they are written are read as what they say, and the other way round. -/
namespace Go.Proofs.YticaipedpcmhfaaGreatDoor
namespace Cd
open Go.Lib

/-- What constants' names, instructions' names have: their numbers. -/
theorem constFrom_back : ∀ (l : List Nat) (s : List UInt8) (w : Int), (∀ t ∈ l, 1 ≤ t ∧ t ≤ 7) → constFrom l s = some w → ∃ t ∈ l, wordT w = t ∧ 0 ≤ w ∧ s = if sp (tagL.getD t []) then tagL.getD t [] ++ itoa (wordN w) else tagL.getD t []
  | [], _, _, _, h => by cases h
  | t :: ts, s, w, hl, h => by
    have ht := hl t (by simp)
    unfold constFrom at h
    split at h
    · rename_i hs
      split at h
      · rename_i hp
        split at h
        · rename_i n hn
          unfold makeW at h
          split at h
          · rename_i hm
            injection h with h
            obtain ⟨e1, e2⟩ := word_of (t : Int) n (by omega) hm.2.2
            refine ⟨t, by simp, by rw [← h]; exact e1, by rw [← h]; unfold wordOf; omega, ?_⟩
            rw [if_pos hs, ← h, e2, ← longT_back hn]
            obtain ⟨r, hr⟩ := List.isPrefixOf_iff_prefix.1 hp
            rw [← hr, List.drop_left]
          · cases h
        · cases h
      · obtain ⟨t', h1, h2⟩ := constFrom_back ts s w (fun t ht => hl t (by simp [ht])) h
        exact ⟨t', by simp [h1], h2⟩
    · rename_i hs
      split at h
      · rename_i e
        injection h with h
        have hm : may (t : Int) 0 = true := by
          have h7 : t = 1 ∨ t = 2 ∨ t = 3 ∨ t = 4 ∨ t = 5 ∨ t = 6 ∨ t = 7 := by omega
          rcases h7 with rfl | rfl | rfl | rfl | rfl | rfl | rfl
          · decide
          · decide
          · decide
          · decide
          · decide
          · decide
          · exact absurd (by decide) hs
        obtain ⟨e1, e2⟩ := word_of (t : Int) 0 (by omega) hm
        exact ⟨t, by simp, by rw [← h]; exact e1, by rw [← h]; unfold wordOf; omega, by rw [if_neg hs]; exact e⟩
      · obtain ⟨t', h1, h2⟩ := constFrom_back ts s w (fun t ht => hl t (by simp [ht])) h
        exact ⟨t', by simp [h1], h2⟩

theorem instrFrom_back : ∀ (l : List Nat) (s : List UInt8) (i : In), instrFrom l s = some i → ∃ o ∈ l, i.op = o ∧ (s = if sp (calledL.getD o []) then calledL.getD o [] ++ itoa i.a else calledL.getD o [])
  | [], _, _, h => by cases h
  | o :: os, s, i, h => by
    unfold instrFrom at h
    split at h
    · rename_i hs
      split at h
      · rename_i hp
        split at h
        · rename_i n hn
          injection h with h
          refine ⟨o, by simp, by rw [← h], ?_⟩
          rw [if_pos hs, ← h, ← (placeT_back hn).1]
          obtain ⟨r, hr⟩ := List.isPrefixOf_iff_prefix.1 hp
          rw [← hr, List.drop_left]
        · cases h
      · obtain ⟨t', h1, h2⟩ := instrFrom_back os s i h
        exact ⟨t', by simp [h1], h2⟩
    · rename_i hs
      split at h
      · rename_i e
        injection h with h
        exact ⟨o, by simp, by rw [← h], by rw [if_neg hs]; exact e⟩
      · obtain ⟨t', h1, h2⟩ := instrFrom_back os s i h
        exact ⟨t', by simp [h1], h2⟩

theorem sp_tag : ∀ t, t < 8 → sp (constB ++ tagL.getD t []) = (decide (t = 0) || sp (tagL.getD t [])) := by decide
theorem sp_name : ∀ o, o < 19 → sp (32 :: calledL.getD o []) = (decide (o = 0) || sp (calledL.getD o [])) := by decide

/-- How a constant's line, an instruction's line read. -/
theorem constT_of (w : Int) (t : Nat) (ht : 1 ≤ t ∧ t ≤ 7) (hw : wordT w = t) : constT w = constB ++ (if sp (tagL.getD t []) then tagL.getD t [] ++ itoa (wordN w) else tagL.getD t []) := by
  unfold constT numd nameT
  rw [hw, Int.toNat_natCast, sp_tag t (by omega), decide_eq_false (by omega), Bool.false_or]
  split
  · rw [List.append_assoc]
  · rfl
theorem instrT_of (i : In) (o : Nat) (ho : 1 ≤ o ∧ o ≤ 18) (hi : i.op = o) : instrT i = 32 :: (if sp (calledL.getD o []) then calledL.getD o [] ++ itoa i.a else calledL.getD o []) := by
  unfold instrT numd nameI
  rw [hi, Int.toNat_natCast, sp_name o (by omega), decide_eq_false (by omega), Bool.false_or]
  split <;> rfl

theorem constR_back {s : List UInt8} {w : Int} (h : constR s = some w) : constT w = constB ++ s := by
  obtain ⟨t, ht, hw, _, hs⟩ := constFrom_back [1, 2, 3, 4, 5, 6, 7] s w (by decide) h
  have ht' : 1 ≤ t ∧ t ≤ 7 := (by decide : ∀ t ∈ [1, 2, 3, 4, 5, 6, 7], 1 ≤ t ∧ t ≤ 7) t ht
  rw [constT_of w t ht' hw, ← hs]
theorem instrR_back {s : List UInt8} {i : In} (h : instrR s = some i) : instrT i = 32 :: s := by
  obtain ⟨o, ho, hi, hs⟩ := instrFrom_back _ s i h
  have ho' : 1 ≤ o ∧ o ≤ 18 := (by decide : ∀ t ∈ [1, 2, 3, 4, 5, 6, 7, 8, 9, 10, 11, 12, 13, 14, 15, 16, 17, 18], 1 ≤ t ∧ t ≤ 18) o ho
  rw [instrT_of i o ho' hi, ← hs]

theorem prefix_app (p r : List UInt8) : hasPrefix (p ++ r) p = true := List.isPrefixOf_iff_prefix.2 ⟨r, rfl⟩

def differ (X Y : List UInt8) : Bool := (List.range 4).any (fun j => decide (j < X.length ∧ j < Y.length ∧ X.getD j 0 ≠ Y.getD j 0))
theorem app_skip (X Y r : List UInt8) (hk : differ X Y = true) (x : List UInt8) : X ++ r ≠ Y ++ x := fun e => by
  obtain ⟨j, _, hj⟩ := List.any_eq_true.1 hk
  obtain ⟨h1, h2, h3⟩ := of_decide_eq_true hj
  have e1 : (X ++ r)[j]? = X[j]? := List.getElem?_append_left h1
  have e2 : (Y ++ x)[j]? = Y[j]? := List.getElem?_append_left h2
  rw [e, e2] at e1
  exact h3 (by rw [List.getD, List.getD, e1])

/-- No name begins with an earlier one that stands where a number follows; none is an earlier one. -/
theorem constFrom_skip (t' t : Nat) (ts : List Nat) (ht' : 1 ≤ t' ∧ t' < t) (ht : t ≤ 7) (r : List UInt8) (_hr : sp (tagL.getD t []) = false → r = []) : constFrom (t' :: ts) (tagL.getD t [] ++ r) = constFrom ts (tagL.getD t [] ++ r) := by
  have key : ∀ t', t' < 8 → ∀ t, t < 8 → ¬ (1 ≤ t' ∧ t' < t) ∨ differ (tagL.getD t []) (tagL.getD t' []) = true := by decide
  have hne := app_skip (tagL.getD t []) (tagL.getD t' []) r ((key t' (by omega) t (by omega)).resolve_left (fun h => h ht'))
  conv => lhs; unfold constFrom
  split
  · rw [if_neg]
    intro hp
    obtain ⟨x, hx⟩ := List.isPrefixOf_iff_prefix.1 hp
    exact hne x hx.symm
  · rw [if_neg]
    intro e
    exact hne [] (by rw [e, List.append_nil])
theorem constFrom_at (w : Int) (t : Nat) (ht : 1 ≤ t ∧ t ≤ 7) (hw0 : 0 ≤ w ∧ w < 18446744073709551616) (hw : wordT w = t) (hm : may t (wordN w) = true) : ∀ (d : Nat) (k : Nat), k + d = t → 1 ≤ k → ∀ ts, constFrom ((List.range' k (d + 1)) ++ ts) (if sp (tagL.getD t []) then tagL.getD t [] ++ itoa (wordN w) else tagL.getD t []) = some w
  | 0, k, hk, _, ts => by
    obtain rfl : k = t := by omega
    have hb := wordOf_back w hw0
    rw [hw] at hb
    have hN := wordN_in w hw0
    rw [show List.range' k (0 + 1) ++ ts = k :: ts from rfl]
    unfold constFrom
    split
    · rename_i hs
      rw [if_pos (prefix_app _ _), List.drop_left, longT_itoa _ hN]
      dsimp only
      unfold makeW
      rw [if_pos ⟨by omega, by omega, hm⟩, hb]
    · rename_i hs
      rw [if_pos rfl]
      have h4 : k = 1 ∨ k = 2 ∨ k = 3 ∨ k = 4 ∨ k = 5 ∨ k = 6 ∨ k = 7 := by omega
      have hz : wordN w = 0 := by
        unfold may least most at hm
        have hm := of_decide_eq_true hm
        rcases h4 with rfl | rfl | rfl | rfl | rfl | rfl | rfl
        · simp at hm; omega
        · simp at hm; omega
        · simp at hm; omega
        · simp at hm; omega
        · exact absurd (by decide) hs
        · exact absurd (by decide) hs
        · exact absurd (by decide) hs
      rw [hz] at hb
      rw [hb]
  | d + 1, k, hk, h1, ts => by
    have hskip : ∀ (ts : List Nat), constFrom (k :: ts) (if sp (tagL.getD t []) then tagL.getD t [] ++ itoa (wordN w) else tagL.getD t []) = constFrom ts (if sp (tagL.getD t []) then tagL.getD t [] ++ itoa (wordN w) else tagL.getD t []) := fun ts => by
      by_cases hs : sp (tagL.getD t []) = true
      · rw [if_pos hs]
        exact constFrom_skip k t ts ⟨h1, by omega⟩ ht.2 _ (fun h => by rw [hs] at h; cases h)
      · rw [if_neg hs]
        have := constFrom_skip k t ts ⟨h1, by omega⟩ ht.2 [] (fun _ => rfl)
        rwa [List.append_nil] at this
    rw [show List.range' k (d + 1 + 1) = k :: List.range' (k + 1) (d + 1) from rfl, List.cons_append, hskip]
    exact constFrom_at w t ht hw0 hw hm d (k + 1) (by omega) (by omega) ts

/-- A constant's line is read as the constant. -/
theorem constR_of (w : Int) (hw0 : 0 ≤ w ∧ w < 18446744073709551616) (hw : isWord w = true) (h8 : wordT w ≠ 8) : ∃ s, constT w = constB ++ s ∧ constR s = some w := by
  unfold isWord at hw
  rw [Bool.and_eq_true] at hw
  have h1 := of_decide_eq_true hw.1
  obtain ⟨t, ht⟩ : ∃ t : Nat, wordT w = t := ⟨(wordT w).toNat, by omega⟩
  have hm := hw.2
  rw [ht] at h1 h8 hm
  have ht' : 1 ≤ t ∧ t ≤ 7 := by omega
  refine ⟨_, constT_of w t ht' ht, ?_⟩
  have := constFrom_at w t ht' hw0 ht hm (t - 1) 1 (by omega) (Nat.le_refl _) (List.range' (t + 1) (7 - t))
  unfold constR
  rw [show [1, 2, 3, 4, 5, 6, 7] = List.range' 1 (t - 1 + 1) ++ List.range' (t + 1) (7 - t) from ?_]
  · exact this
  · have : t = 1 ∨ t = 2 ∨ t = 3 ∨ t = 4 ∨ t = 5 ∨ t = 6 ∨ t = 7 := by omega
    rcases this with rfl | rfl | rfl | rfl | rfl | rfl | rfl <;> rfl

theorem instrFrom_skip (o' o : Nat) (os : List Nat) (ho' : 1 ≤ o' ∧ o' < o) (ho : o ≤ 18) (r : List UInt8) (_hr : sp (calledL.getD o []) = false → r = []) : instrFrom (o' :: os) (calledL.getD o [] ++ r) = instrFrom os (calledL.getD o [] ++ r) := by
  have key : ∀ o', o' < 19 → ∀ o, o < 19 → ¬ (1 ≤ o' ∧ o' < o) ∨ differ (calledL.getD o []) (calledL.getD o' []) = true := by decide
  have hne := app_skip (calledL.getD o []) (calledL.getD o' []) r ((key o' (by omega) o (by omega)).resolve_left (fun h => h ho'))
  conv => lhs; unfold instrFrom
  split
  · rw [if_neg]
    intro hp
    obtain ⟨x, hx⟩ := List.isPrefixOf_iff_prefix.1 hp
    exact hne x hx.symm
  · rw [if_neg]
    intro e
    exact hne [] (by rw [e, List.append_nil])
theorem instrFrom_at (i : In) (o : Nat) (ho : 1 ≤ o ∧ o ≤ 18) (hi : i.op = o) (ha : 0 ≤ i.a ∧ i.a ≤ 4096) (hz : sp (calledL.getD o []) = false → i.a = 0) : ∀ (d : Nat) (k : Nat), k + d = o → 1 ≤ k → ∀ os, instrFrom ((List.range' k (d + 1)) ++ os) (if sp (calledL.getD o []) then calledL.getD o [] ++ itoa i.a else calledL.getD o []) = some i
  | 0, k, hk, _, ts => by
    obtain rfl : k = o := by omega
    rw [show List.range' k (0 + 1) ++ ts = k :: ts from rfl]
    unfold instrFrom
    split
    · rename_i hs
      rw [if_pos (prefix_app _ _), List.drop_left, placeT_itoa _ (by omega)]
      dsimp only
      rw [← hi]
    · rename_i hs
      rw [if_pos rfl, ← hi, ← hz (by simpa using hs)]
  | d + 1, k, hk, h1, ts => by
    have hskip : ∀ (ts : List Nat), instrFrom (k :: ts) (if sp (calledL.getD o []) then calledL.getD o [] ++ itoa i.a else calledL.getD o []) = instrFrom ts (if sp (calledL.getD o []) then calledL.getD o [] ++ itoa i.a else calledL.getD o []) := fun ts => by
      by_cases hs : sp (calledL.getD o []) = true
      · rw [if_pos hs]
        exact instrFrom_skip k o ts ⟨h1, by omega⟩ ho.2 _ (fun h => by rw [hs] at h; cases h)
      · rw [if_neg hs]
        have := instrFrom_skip k o ts ⟨h1, by omega⟩ ho.2 [] (fun _ => rfl)
        rwa [List.append_nil] at this
    rw [show List.range' k (d + 1 + 1) = k :: List.range' (k + 1) (d + 1) from rfl, List.cons_append, hskip]
    exact instrFrom_at i o ho hi ha hz d (k + 1) (by omega) (by omega) ts

/-- An instruction's line is read as the instruction. -/
theorem instrR_of (c : Co) (n : Nat) (i : In) (hn : n ≤ 4096) (hc : c.consts.length ≤ 1024 ∧ c.globals.length ≤ 64 ∧ c.procs.length ≤ 256) (hf : fits c n i = true) : ∃ s, instrT i = 32 :: s ∧ instrR s = some i := by
  have hf' := hf
  unfold fits isOp at hf
  rw [Bool.and_eq_true] at hf
  have h1 := of_decide_eq_true hf.1
  have h2 := of_decide_eq_true hf.2
  obtain ⟨o, ho⟩ : ∃ o : Nat, i.op = o := ⟨i.op.toNat, by omega⟩
  rw [ho] at h1 h2
  have ho' : 1 ≤ o ∧ o ≤ 18 := by omega
  have ha : 0 ≤ i.a ∧ i.a ≤ 4096 := by
    unfold lo hi at h2
    obtain ⟨h3, h4⟩ := h2
    constructor
    · split at h3 <;> omega
    · repeat' split at h4
      all_goals omega
  have hz : sp (calledL.getD o []) = false → i.a = 0 := fun hs => by
    have hd : o = 7 ∨ o = 12 ∨ o = 14 ∨ o = 15 ∨ o = 16 ∨ o = 17 ∨ o = 18 := (by decide : ∀ o, o < 19 → 1 ≤ o → sp (calledL.getD o []) = false → o = 7 ∨ o = 12 ∨ o = 14 ∨ o = 15 ∨ o = 16 ∨ o = 17 ∨ o = 18) o (by omega) ho'.1 hs
    unfold lo hi at h2
    rcases hd with rfl | rfl | rfl | rfl | rfl | rfl | rfl <;> simp at h2 <;> omega
  refine ⟨_, instrT_of i o ho' ho, ?_⟩
  have := instrFrom_at i o ho' ho ha hz (o - 1) 1 (by omega) (Nat.le_refl _) (List.range' (o + 1) (18 - o))
  unfold instrR
  rw [show [1, 2, 3, 4, 5, 6, 7, 8, 9, 10, 11, 12, 13, 14, 15, 16, 17, 18] = List.range' 1 (o - 1 + 1) ++ List.range' (o + 1) (18 - o) from ?_]
  · exact this
  · rcases (show o = 1 ∨ o = 2 ∨ o = 3 ∨ o = 4 ∨ o = 5 ∨ o = 6 ∨ o = 7 ∨ o = 8 ∨ o = 9 ∨ o = 10 ∨ o = 11 ∨ o = 12 ∨ o = 13 ∨ o = 14 ∨ o = 15 ∨ o = 16 ∨ o = 17 ∨ o = 18 by omega) with rfl | rfl | rfl | rfl | rfl | rfl | rfl | rfl | rfl | rfl | rfl | rfl | rfl | rfl | rfl | rfl | rfl | rfl <;> rfl
end Cd
end Go.Proofs.YticaipedpcmhfaaGreatDoor
/- Layer 8, the plain side: there and back: what Text writes, Parse reads; what Parse reads, Text writes. -/
namespace Go.Proofs.YticaipedpcmhfaaGreatDoor
namespace Cd
open Go.Lib

theorem has_cons {a b : UInt8} {s p : List UInt8} : hasPrefix (a :: s) (b :: p) = (decide (a = b) && hasPrefix s p) := by
  unfold hasPrefix
  rw [List.isPrefixOf_cons_cons]
  congr 1
  by_cases h : a = b
  · subst h; simp
  · rw [decide_eq_false h]; simp; exact fun e => h e.symm

theorem line_const {c : Co} (w : Int) (hw0 : 0 ≤ w ∧ w < 18446744073709551616) (hw : isWord w = true) (h8 : wordT w ≠ 8) (h1 : c.globals = []) (h2 : c.procs = []) : lineR c (constT w) = some { c with consts := c.consts ++ [w] } := by
  obtain ⟨s, e, hs⟩ := constR_of w hw0 hw h8
  rw [e]
  unfold lineR
  rw [if_neg (by rw [show constB ++ s = 99 :: ([111, 110, 115, 116, 32] ++ s) from rfl, has_cons]; simp), if_pos (prefix_app _ _), List.drop_left, hs]
  dsimp only
  rw [if_pos ⟨h1, h2⟩]
theorem line_global {c : Co} (s : ByteArray) (h2 : c.procs = []) : lineR c (globalT s) = some { c with globals := c.globals ++ [s] } := by
  unfold globalT lineR
  rw [if_neg (by rw [show globalB ++ s.data.toList = 103 :: ([108, 111, 98, 97, 108, 32] ++ s.data.toList) from rfl, has_cons]; simp),
    if_neg (by rw [show globalB ++ s.data.toList = 103 :: ([108, 111, 98, 97, 108, 32] ++ s.data.toList) from rfl, show constB = 99 :: [111, 110, 115, 116, 32] from rfl, has_cons]; simp), if_pos (prefix_app _ _), List.drop_left, if_pos h2]
theorem line_head {c : Co} (p : Pr) (h : 0 ≤ p.params ∧ p.params ≤ 2147483647) : lineR c (headT p) = some { c with procs := c.procs ++ [⟨p.params, []⟩] } := by
  unfold headT lineR
  rw [if_neg (by rw [show procB ++ itoa p.params = 112 :: ([114, 111, 99, 32] ++ itoa p.params) from rfl, has_cons]; simp),
    if_neg (by rw [show procB ++ itoa p.params = 112 :: ([114, 111, 99, 32] ++ itoa p.params) from rfl, show constB = 99 :: [111, 110, 115, 116, 32] from rfl, has_cons]; simp),
    if_neg (by rw [show procB ++ itoa p.params = 112 :: ([114, 111, 99, 32] ++ itoa p.params) from rfl, show globalB = 103 :: [108, 111, 98, 97, 108, 32] from rfl, has_cons]; simp), if_pos (prefix_app _ _), List.drop_left, placeT_itoa _ h]
theorem line_instr {c : Co} {i : In} {s : List UInt8} (h : instrT i = 32 :: s) (hs : instrR s = some i) (hp : c.procs ≠ []) : lineR c (instrT i) = some { c with procs := addI c.procs i } := by
  rw [h]
  unfold lineR
  rw [if_pos (by rw [has_cons]; rfl), show (32 :: s).drop 1 = s from rfl, hs]
  dsimp only
  rw [if_neg hp]

theorem addI_snoc : ∀ (l : List Pr) (p : Pr) (i : In), addI (l ++ [p]) i = l ++ [⟨p.params, p.code ++ [i]⟩]
  | [], _, _ => rfl
  | [q], p, i => rfl
  | q :: r :: l, p, i => by
    have := addI_snoc (r :: l) p i
    rw [List.cons_append, List.cons_append, List.cons_append] at *
    rw [addI, this]; rfl

/-- Lines one behind the other lead from code to code. -/
inductive Chain : Co → List (List UInt8) → Co → Prop
  | nil (c : Co) : Chain c [] c
  | cons {c d e : Co} {l : List UInt8} {ls : List (List UInt8)} (h1 : (10 : UInt8) ∉ l) (h2 : lineR c l = some d) (h3 : Chain d ls e) : Chain c (l :: ls) e
theorem Chain.append {c d e : Co} {l1 l2 : List (List UInt8)} (h1 : Chain c l1 d) (h2 : Chain d l2 e) : Chain c (l1 ++ l2) e := by
  induction h1 with
  | nil c => exact h2
  | cons a b _ ih => exact .cons a b (ih h2)

theorem index_line : ∀ (l r : List UInt8), (10 : UInt8) ∉ l → index (l ++ 10 :: r) [10] = l.length
  | [], r, _ => by
    rw [List.nil_append, index, if_pos (by simp [List.isPrefixOf])]; rfl
  | a :: l, r, h => by
    have ih := index_line l r (fun hm => h (by simp [hm]))
    have ha : a ≠ 10 := fun e => h (by simp [e])
    rw [List.cons_append, index, if_neg (by simp [List.isPrefixOf]; exact fun e => ha e.symm), ih, if_neg (by simp)]
    simp
theorem cut_line (l r : List UInt8) (h : (10 : UInt8) ∉ l) : cut (l ++ 10 :: r) [10] = (l, r, true) := by
  unfold cut
  rw [index_line l r h, if_pos (by omega)]
  simp

theorem readT_chain {c d : Co} {ls : List (List UInt8)} (h : Chain c ls d) : ∀ (k n : Nat) (r : List UInt8), readT (k + ls.length) (joinL ls ++ r) c n = readT k r d (n + ls.length) := by
  induction h with
  | nil c => intro k n r; rfl
  | cons h1 h2 _ ih =>
    rename_i l ls _
    intro k n r
    have e : joinL (l :: ls) ++ r = l ++ 10 :: (joinL ls ++ r) := by simp [joinL]
    rw [e, List.length_cons, show k + (ls.length + 1) = (k + ls.length) + 1 by omega, readT, if_neg (by simp), cut_line l _ h1]
    dsimp only
    rw [if_neg (by simp), h2]
    dsimp only
    rw [ih]
    congr 1
    omega

def linesT (c : Co) : List (List UInt8) := c.consts.map constT ++ (c.globals.map globalT ++ c.procs.flatMap (fun p => headT p :: p.code.map instrT))
theorem joinL_procs : ∀ l : List Pr, l.flatMap procT = joinL (l.flatMap (fun p => headT p :: p.code.map instrT))
  | [] => rfl
  | p :: l => by
    rw [List.flatMap_cons, List.flatMap_cons, joinL_app, joinL_procs l]
    congr 1
    unfold procT
    rw [← joinL_app]; rfl
theorem textT_lines (c : Co) : textT c = joinL (linesT c) := by
  unfold textT linesT
  rw [joinL_app, joinL_app, joinL_procs]

theorem no10_numd (s : List UInt8) (n : Int) (h : (10 : UInt8) ∉ s) : (10 : UInt8) ∉ numd s n := by
  unfold numd
  split
  · intro hm
    rcases List.mem_append.1 hm with hm | hm
    · exact h hm
    · exact itoa_no10 n hm
  · exact h
theorem no10_tag : ∀ t, t < 8 → (10 : UInt8) ∉ constB ++ tagL.getD t [] := by decide
theorem no10_name : ∀ o, o < 19 → (10 : UInt8) ∉ 32 :: calledL.getD o [] := by decide
theorem getD_over {α : Type} (l : List α) (i : Nat) (d : α) (h : l.length ≤ i) : l.getD i d = d := by
  rw [List.getD, List.getElem?_eq_none h]; rfl
theorem no10_const (w : Int) : (10 : UInt8) ∉ constT w := by
  unfold constT nameT
  refine no10_numd _ _ ?_
  rcases Nat.lt_or_ge (wordT w).toNat 8 with h | h
  · exact no10_tag _ h
  · rw [getD_over _ _ _ h]; decide
theorem no10_instr (i : In) : (10 : UInt8) ∉ instrT i := by
  unfold instrT nameI
  refine no10_numd _ _ ?_
  rcases Nat.lt_or_ge i.op.toNat 19 with h | h
  · exact no10_name _ h
  · rw [getD_over _ _ _ h]; decide
theorem no10_head (p : Pr) : (10 : UInt8) ∉ headT p := by
  unfold headT
  intro hm
  rcases List.mem_append.1 hm with hm | hm
  · exact absurd hm (by decide)
  · exact itoa_no10 _ hm
theorem no10_global {s : ByteArray} (h : sym s = true) : (10 : UInt8) ∉ globalT s := by
  unfold globalT
  intro hm
  rcases List.mem_append.1 hm with hm | hm
  · exact absurd hm (by decide)
  · unfold sym isSym at h
    rw [Bool.and_eq_true] at h
    have := List.all_eq_true.1 h.1 _ hm
    exact absurd this (by decide)

theorem chain_consts (gc : ∀ w : Int, Prop) (hg : ∀ w, gc w → (0 ≤ w ∧ w < 18446744073709551616) ∧ isWord w = true ∧ wordT w ≠ 8) : ∀ (ws cs : List Int), (∀ w ∈ ws, gc w) → Chain ⟨cs, [], []⟩ (ws.map constT) ⟨cs ++ ws, [], []⟩
  | [], cs, _ => by rw [List.append_nil]; exact .nil _
  | w :: ws, cs, h => by
    obtain ⟨h0, h1, h2⟩ := hg w (h w (by simp))
    have := chain_consts gc hg ws (cs ++ [w]) (fun x hx => h x (by simp [hx]))
    rw [List.append_assoc] at this
    exact .cons (no10_const w) (line_const w h0 h1 h2 rfl rfl) this
theorem chain_globals (cs : List Int) : ∀ (l gs : List ByteArray), (∀ s ∈ l, sym s = true) → Chain ⟨cs, gs, []⟩ (l.map globalT) ⟨cs, gs ++ l, []⟩
  | [], gs, _ => by rw [List.append_nil]; exact .nil _
  | s :: l, gs, h => by
    have := chain_globals cs l (gs ++ [s]) (fun x hx => h x (by simp [hx]))
    rw [List.append_assoc] at this
    exact .cons (no10_global (h s (by simp))) (line_global s rfl) this
theorem chain_instrs (cs : List Int) (gs : List ByteArray) (ps : List Pr) (a : Int) : ∀ (l code : List In), (∀ i ∈ l, ∃ s, instrT i = 32 :: s ∧ instrR s = some i) → Chain ⟨cs, gs, ps ++ [⟨a, code⟩]⟩ (l.map instrT) ⟨cs, gs, ps ++ [⟨a, code ++ l⟩]⟩
  | [], code, _ => by rw [List.append_nil]; exact .nil _
  | i :: l, code, h => by
    obtain ⟨s, h1, h2⟩ := h i (by simp)
    have := chain_instrs cs gs ps a l (code ++ [i]) (fun x hx => h x (by simp [hx]))
    rw [List.append_assoc] at this
    refine .cons (no10_instr i) (line_instr h1 h2 (by simp)) ?_
    rw [addI_snoc]
    exact this
theorem chain_procs (cs : List Int) (gs : List ByteArray) : ∀ (l ps : List Pr), (∀ p ∈ l, (0 ≤ p.params ∧ p.params ≤ 2147483647) ∧ ∀ i ∈ p.code, ∃ s, instrT i = 32 :: s ∧ instrR s = some i) → Chain ⟨cs, gs, ps⟩ (l.flatMap (fun p => headT p :: p.code.map instrT)) ⟨cs, gs, ps ++ l⟩
  | [], ps, _ => by rw [List.append_nil]; exact .nil _
  | p :: l, ps, h => by
    obtain ⟨h1, h2⟩ := h p (by simp)
    have := chain_procs cs gs l (ps ++ [p]) (fun x hx => h x (by simp [hx]))
    rw [List.append_assoc] at this
    rw [List.flatMap_cons]
    have hi := chain_instrs cs gs ps p.params p.code [] h2
    rw [List.nil_append] at hi
    exact Chain.append (.cons (no10_head p) (line_head p h1) hi) this

/-- Lines with their ends are at least as many bytes. -/
theorem joinL_len (ls : List (List UInt8)) : ls.length ≤ (joinL ls).length := by
  induction ls with
  | nil => simp [joinL]
  | cons l ls ih => simp [joinL] at *; omega

/-- THERE AND BACK, one way: the text of code that Check takes is read as that code. -/
theorem parse_text {c : Co} (hw : ∀ w ∈ c.consts, 0 ≤ w ∧ w < 18446744073709551616) (hc : (check sym c).1 = 0) : parseT sym (textT c) = (c, 0, 0) := by
  have g := goodC_of hc
  have h1 := chain_consts (fun w => w ∈ c.consts) (fun w hm => ⟨hw w hm, g.consts w hm⟩) c.consts [] (fun w h => h)
  have h2 := chain_globals c.consts c.globals [] g.globals
  have h3 := chain_procs c.consts c.globals c.procs [] (fun p hp => by
    have gp := g.procs p hp
    refine ⟨by have := gp.params; omega, fun i hi => ?_⟩
    obtain ⟨j, hj, rfl⟩ := List.getElem_of_mem hi
    have hf := gp.fit j hj
    rw [List.getD, List.getElem?_eq_getElem hj] at hf
    exact instrR_of c p.code.length _ gp.len g.lens hf)
  rw [List.nil_append] at h1 h2 h3
  have hch : Chain none_ (linesT c) c := Chain.append h1 (Chain.append h2 h3)
  have hl := joinL_len (linesT c)
  have e := readT_chain hch ((joinL (linesT c)).length + 1 - (linesT c).length) 0 []
  rw [show (joinL (linesT c)).length + 1 - (linesT c).length + (linesT c).length = (joinL (linesT c)).length + 1 by omega, List.append_nil] at e
  unfold parseT
  rw [textT_lines, e]
  have hr : ∀ k n, readT k [] c n = (c, true, n) := fun k n => by cases k <;> rfl
  rw [hr]
  dsimp only
  rw [if_neg (by rw [hc]; simp)]

theorem addI_text : ∀ (l : List Pr) (i : In), l ≠ [] → (addI l i).flatMap procT = l.flatMap procT ++ (instrT i ++ [10])
  | [], _, h => absurd rfl h
  | [p], i, _ => by
    simp [addI, procT, joinL, headT]
  | p :: q :: l, i, _ => by
    have := addI_text (q :: l) i (by simp)
    rw [addI, List.flatMap_cons, this]
    simp [List.flatMap_cons, List.append_assoc]

/-- A line more is a line more. -/
theorem line_back {c d : Co} {s : List UInt8} (h : lineR c s = some d) : textT d = textT c ++ (s ++ [10]) := by
  unfold lineR at h
  split at h
  · rename_i hp
    obtain ⟨r, hr⟩ := List.isPrefixOf_iff_prefix.1 hp
    split at h
    · rename_i i hi
      split at h
      · cases h
      · rename_i hne
        injection h with h
        have hi' : instrR r = some i := by rw [← hr] at hi; exact hi
        have := instrR_back hi'
        rw [← h]
        unfold textT
        dsimp only
        rw [addI_text _ _ hne, this, ← hr]
        simp [List.append_assoc]
    · cases h
  · split at h
    · rename_i hp
      obtain ⟨r, hr⟩ := List.isPrefixOf_iff_prefix.1 hp
      split at h
      · rename_i w hw
        split at h
        · rename_i he
          injection h with h
          have hw' : constR r = some w := by rw [← hr, List.drop_left] at hw; exact hw
          have := constR_back hw'
          rw [← h]
          unfold textT
          dsimp only
          rw [he.1, he.2, List.map_append, joinL_app, List.map_singleton, joinL_one, this, ← hr]
          simp [joinL, List.append_assoc]
        · cases h
      · cases h
    · split at h
      · rename_i hp
        obtain ⟨r, hr⟩ := List.isPrefixOf_iff_prefix.1 hp
        split at h
        · rename_i he
          injection h with h
          rw [← h, ← hr, List.drop_left]
          unfold textT
          dsimp only
          rw [he, List.map_append, joinL_app, List.map_singleton, joinL_one]
          simp [globalT, List.append_assoc]
        · cases h
      · split at h
        · rename_i hp
          obtain ⟨r, hr⟩ := List.isPrefixOf_iff_prefix.1 hp
          split at h
          · rename_i n hn
            injection h with h
            have hn' : placeT r = some n := by rw [← hr, List.drop_left] at hn; exact hn
            have := (placeT_back hn').1
            rw [← h, ← hr]
            unfold textT
            dsimp only
            rw [List.flatMap_append, List.flatMap_singleton]
            simp [procT, headT, joinL, ← this, List.append_assoc]
          · cases h
        · cases h

theorem cut_back {s : List UInt8} (h : (cut s [10]).2.2 = true) : s = (cut s [10]).1 ++ 10 :: (cut s [10]).2.1 := by
  unfold cut at h ⊢
  split at h
  · rename_i h0
    rw [if_pos h0]
    dsimp only
    rcases index_spec s [10] with ⟨h1, _⟩ | ⟨i, h1, h2, h3, _⟩
    · omega
    · rw [h1, Int.toNat_natCast]
      unfold occAt at h3
      obtain ⟨r, hr⟩ := List.isPrefixOf_iff_prefix.1 h3
      have : s.drop (i + ([10] : List UInt8).length) = r := by rw [← List.drop_drop, ← hr]; rfl
      rw [this]
      conv => lhs; rw [← List.take_append_drop i s, ← hr]
      rfl
  · cases h
theorem readT_back : ∀ (k : Nat) (s : List UInt8) (c d : Co) (n m : Nat), s.length < k → readT k s c n = (d, true, m) → textT d = textT c ++ s
  | 0, _, _, _, _, _, h, _ => absurd h (Nat.not_lt_zero _)
  | k + 1, s, c, d, n, m, hk, h => by
    rw [readT] at h
    split at h
    · rename_i e
      injection h with h _
      rw [h, e, List.append_nil]
    · split at h
      · injection h with _ h
        injection h with h _
        cases h
      · rename_i h2
        have hb := cut_back (s := s) (by simpa using h2)
        split at h
        · injection h with _ h
          injection h with h _
          cases h
        · rename_i e he
          have hlen : (cut s [10]).2.1.length < k := by
            have := congrArg List.length hb
            rw [List.length_append, List.length_cons] at this
            omega
          rw [readT_back k _ e d _ m hlen h, line_back he]
          conv => rhs; rw [hb]
          simp [List.append_assoc]

/-- .. and the other way: of what is read, the text is what was read. -/
theorem text_parse {s : List UInt8} {d : Co} {e : Int} {n : Nat} (h : parseT sym s = (d, e, n)) (he : e = 0) : textT d = s ∧ (check sym d).1 = 0 ∧ n = 0 := by
  unfold parseT at h
  split at h
  · rename_i c m hr
    split at h
    · rename_i h0
      injection h with _ h
      injection h with h _
      rw [he] at h
      exact absurd h h0
    · rename_i h0
      injection h with h1 h
      injection h with _ h2
      have := readT_back _ _ _ _ _ _ (Nat.lt_succ_self _) hr
      rw [← h1]
      exact ⟨by rw [this]; rfl, by simpa using h0, h2.symm⟩
  · injection h with _ h
    injection h with h _
    rw [he] at h; cases h

/-- With an error there is no code; the line is told just with 81. -/
theorem parse_err {s : List UInt8} {d : Co} {e : Int} {n : Nat} (h : parseT sym s = (d, e, n)) (he : e ≠ 0) : d = none_ ∧ (e = 81 ↔ 0 < n) := by
  unfold parseT at h
  split at h
  · rename_i c m hr
    split at h
    · rename_i h0
      injection h with h1 h
      injection h with h2 h3
      refine ⟨h1.symm, fun h4 => ?_, fun h4 => by omega⟩
      rw [← h2] at h4
      have hc : ∀ (x : Co), (check sym x).1 = 2 ∨ (check sym x).1 = 80 ∨ (check sym x).1 = 0 := fun x => by
        unfold check
        split
        · exact .inl rfl
        · split
          · exact .inr (.inl rfl)
          · split
            · rename_i k _
              rcases badAt_cases x (x.procs.getD k ⟨0, []⟩) with h | h | h
              · exact .inl h
              · exact .inr (.inl h)
              · right; right; rw [h]
            · exact .inr (.inr rfl)
      rcases hc c with h5 | h5 | h5 <;> omega
    · injection h with _ h
      injection h with h _
      exact absurd h.symm he
  · rename_i c m hr
    injection h with h1 h
    injection h with h2 h3
    refine ⟨h1.symm, fun _ => ?_, fun _ => h2.symm⟩
    have key : ∀ (k : Nat) (s : List UInt8) (c d : Co) (n m : Nat), readT k s c n = (d, false, m) → 0 < m := by
      intro k
      induction k with
      | zero => intro s c d n m h; rw [readT] at h; injection h with _ h; injection h with h _; cases h
      | succ k ih =>
        intro s c d n m h
        rw [readT] at h
        split at h
        · injection h with _ h; injection h with h _; cases h
        · split at h
          · injection h with _ h; injection h with _ h; omega
          · split at h
            · injection h with _ h; injection h with _ h; omega
            · exact ih _ _ _ _ _ h
    rw [← h3]
    exact key _ _ _ _ _ _ hr
end Cd
end Go.Proofs.YticaipedpcmhfaaGreatDoor
