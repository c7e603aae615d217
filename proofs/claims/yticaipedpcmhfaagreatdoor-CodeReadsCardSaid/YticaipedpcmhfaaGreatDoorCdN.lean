/- Layer 8, the plain side: numbers as the document reads them. -/
import Derived.Test.YticaipedpcmhfaaGreatDoorCd
import Derived.Test.YticaipedpcmhfaaGreatDoorCdK3
import Derived.Lib.ParseIntBTie
namespace Go.Proofs.YticaipedpcmhfaaGreatDoor
namespace Cd
open Go.Lib

def numF : List UInt8 → Nat → Option Nat
  | [], a => some a
  | c :: l, a => if c.toNat < 48 ∨ 57 < c.toNat ∨ 576460752303423488 < a then none else numF l (10 * a + (c.toNat - 48))
def numT (s : List UInt8) : Option Nat := if s = [] ∨ 19 < s.length ∨ (s.getD 0 0).toNat = 48 ∧ 1 < s.length then none else numF s 0

theorem numF_app : ∀ (l r : List UInt8) (a : Nat), numF (l ++ r) a = (numF l a).bind (numF r)
  | [], r, a => rfl
  | c :: l, r, a => by
    simp only [List.cons_append, numF]
    split
    · rfl
    · exact numF_app l r _

/-- Digits of a number, read from the left. -/
theorem numF_dec (n : Nat) (h : n / 10 ≤ 576460752303423488) : numF (decDigits n) 0 = some n := by
  induction n using Nat.strongRecOn with
  | _ n ih =>
    by_cases h10 : n < 10
    · rw [decDigits, dif_pos h10]
      have := digit_byte n h10
      simp only [numF, this]
      rw [if_neg (by omega)]
      congr 1; omega
    · rw [decDigits, dif_neg h10, numF_app, ih (n / 10) (by omega) (by omega)]
      have := digit_byte (n % 10) (by omega)
      simp only [Option.bind, numF, this]
      rw [if_neg (by omega)]
      congr 1; omega

theorem numF_back : ∀ (k : Nat) (l : List UInt8) (n : Nat), l.length = k → l ≠ [] → ((l.getD 0 0).toNat = 48 → l.length = 1) → numF l 0 = some n → l = decDigits n ∧ n ≤ 5764607523034234889
  | 0, l, n, hk, hne, _, _ => absurd (List.eq_nil_of_length_eq_zero hk) hne
  | k + 1, l, n, hk, hne, h0, hf => by
    obtain ⟨t, c, rfl⟩ : ∃ t c, l = t ++ [c] := ⟨l.dropLast, l.getLast hne, (List.dropLast_concat_getLast hne).symm⟩
    rw [numF_app] at hf
    cases hm : numF t 0 with
    | none => rw [hm] at hf; cases hf
    | some m =>
      rw [hm] at hf
      simp only [Option.bind, numF] at hf
      split at hf
      · cases hf
      · rename_i hc
        injection hf with hf
        have hcd : 48 ≤ c.toNat ∧ c.toNat ≤ 57 ∧ m ≤ 576460752303423488 := by omega
        have hb : UInt8.ofNat (48 + (c.toNat - 48)) = c := by rw [show 48 + (c.toNat - 48) = c.toNat by omega]; simp
        by_cases ht : t = []
        · subst ht
          simp only [numF] at hm
          injection hm with hm
          subst hm
          have hn : n = c.toNat - 48 := by omega
          refine ⟨?_, by omega⟩
          rw [hn, decDigits, dif_pos (by omega), hb]; rfl
        · have hlt : t.length = k := by simpa using hk
          have hz : (t.getD 0 0).toNat ≠ 48 := fun e => by
            have : (t ++ [c]).getD 0 0 = t.getD 0 0 := by
              cases t with
              | nil => exact absurd rfl ht
              | cons a t => rfl
            have h1 := h0 (by rw [this]; exact e)
            have : t.length ≠ 0 := fun e => ht (List.eq_nil_of_length_eq_zero e)
            simp at h1
            exact ht h1
          obtain ⟨i1, _⟩ := numF_back k t m hlt ht (fun e => absurd e hz) hm
          have hm0 : m ≠ 0 := fun e => by
            rw [e] at i1
            rw [i1] at hz
            exact hz (by decide +kernel)
          have hn1 : ¬ n < 10 := by omega
          have hq : n / 10 = m := by omega
          have hr : n % 10 = c.toNat - 48 := by omega
          refine ⟨?_, by omega⟩
          rw [decDigits, dif_neg hn1, hq, hr, hb, ← i1]

theorem numT_back {s : List UInt8} {n : Nat} (h : numT s = some n) : s = decDigits n ∧ n ≤ 5764607523034234889 := by
  unfold numT at h
  split at h
  · cases h
  · rename_i hc
    refine numF_back s.length s n rfl (fun e => hc (.inl e)) (fun e => ?_) h
    have h1 : ¬ 1 < s.length := fun h1 => hc (.inr (.inr ⟨e, h1⟩))
    have : s.length ≠ 0 := fun e => hc (.inl (List.eq_nil_of_length_eq_zero e))
    omega

theorem dec_head (n : Nat) : ((decDigits n).getD 0 0).toNat = 48 → n = 0 := by
  induction n using Nat.strongRecOn with
  | _ n ih =>
    intro h
    by_cases h10 : n < 10
    · rw [decDigits, dif_pos h10] at h
      have := digit_byte n h10
      have e : ([UInt8.ofNat (48 + n)].getD 0 0) = UInt8.ofNat (48 + n) := rfl
      rw [e, this] at h
      omega
    · rw [decDigits, dif_neg h10] at h
      have hne := decDigits_ne (n / 10)
      have e : (decDigits (n / 10) ++ [UInt8.ofNat (48 + n % 10)]).getD 0 0 = (decDigits (n / 10)).getD 0 0 := by
        cases hd : decDigits (n / 10) with
        | nil => exact absurd hd hne
        | cons a t => rfl
      rw [e] at h
      have := ih (n / 10) (by omega) h
      omega

theorem nDig_le : ∀ (k n : Nat), n < 10 ^ (k + 1) → nDigits n ≤ k + 1
  | 0, n, h => by rw [nDigits_small (by simpa using h)]; exact Nat.le_refl _
  | k + 1, n, h => by
    by_cases h10 : n < 10
    · rw [nDigits_small h10]; omega
    · rw [nDigits_big h10]
      have := nDig_le k (n / 10) (by rw [Nat.div_lt_iff_lt_mul (by omega)]; rwa [Nat.pow_succ] at h)
      omega
theorem dec_inj {a b : Nat} (ha : a ≤ 18446744073709551615) (hb : b ≤ 18446744073709551615) (h : decDigits a = decDigits b) : a = b := by
  have h1 := parseM_digits 18446744073709551615 (Nat.le_refl _) a ha
  rw [h, parseM_digits 18446744073709551615 (Nat.le_refl _) b hb] at h1
  injection h1 with h1
  exact h1.symm

theorem numT_dec (n : Nat) (h : n / 10 ≤ 576460752303423488) : numT (decDigits n) = some n := by
  unfold numT
  have hl : (decDigits n).length ≤ 19 := by
    rw [decDigits_length]
    exact nDig_le 18 n (by omega)
  rw [if_neg (fun hc => ?_)]
  · exact numF_dec n h
  · rcases hc with hc | hc | ⟨hc, hc2⟩
    · exact decDigits_ne n hc
    · omega
    · have := dec_head n hc
      subst this
      revert hc2
      decide +kernel

def smallT (s : List UInt8) : Option Int := match numT s with
  | some n => if n ≤ 2147483647 then some (n : Int) else none
  | none => none
theorem smallT_eq (s : List UInt8) : smallT s = placeT s := by
  cases hp : placeT s with
  | some v =>
    obtain ⟨h1, h2, h3⟩ := placeT_back hp
    obtain ⟨n, rfl⟩ : ∃ n : Nat, v = n := ⟨v.toNat, by omega⟩
    rw [itoa_nonneg] at h1
    unfold smallT
    rw [h1, numT_dec n (by omega)]
    dsimp only
    rw [if_pos (by omega)]
  | none =>
    unfold smallT
    cases hn : numT s with
    | none => rfl
    | some n =>
      dsimp only
      obtain ⟨h1, _⟩ := numT_back hn
      by_cases h : n ≤ 2147483647
      · have := placeT_itoa (n : Int) ⟨by omega, by omega⟩
        rw [itoa_nonneg, ← h1, hp] at this
        cases this
      · rw [if_neg h]

/-- A constant's number, as the document reads it. -/
def wordNT (t : Int) (s : List UInt8) : Option Int :=
  match numT (if hasPrefix s [45] then s.drop 1 else s) with
  | none => none
  | some n => if hasPrefix s [45] = true ∧ n = 0 then none else makeW t (if hasPrefix s [45] then -(n : Int) else n)
theorem longT_in {s : List UInt8} {v : Int} (h : longT s = some v) : -9223372036854775808 ≤ v ∧ v ≤ 9223372036854775807 := by
  unfold longT at h
  cases hp : parseIntB 64 s with
  | ok n =>
    rw [hp] at h
    dsimp only at h
    split at h
    · injection h with h
      subst h
      have := parseIntB_bounds hp
      simp at this
      omega
    · cases h
  | _ => rw [hp] at h; cases h
theorem itoa_inj {a b : Int} (ha : -9223372036854775808 ≤ a ∧ a ≤ 9223372036854775807) (hb : -9223372036854775808 ≤ b ∧ b ≤ 9223372036854775807) (h : itoa a = itoa b) : a = b := by
  have h1 := longT_itoa a ha
  rw [h, longT_itoa b hb] at h1
  exact (Option.some.inj h1).symm
theorem no_minus (n : Nat) : hasPrefix (decDigits n) [45] = false := by
  cases hd : decDigits n with
  | nil => rfl
  | cons a t =>
    have := decDigits_all n a (by rw [hd]; simp)
    have hne : ¬ (45 : UInt8) = a := fun e => by
      rw [← e] at this
      have : (45 : UInt8).toNat = 45 := rfl
      omega
    simp [hasPrefix, List.isPrefixOf, hne]
theorem wordNT_eq (t : Int) (ht : t = 5 ∨ t = 6 ∨ t = 7) (s : List UInt8) : wordNT t s = (match longT s with | some n => makeW t n | none => none) := by
  have hbig : ∀ v : Int, (v < -576460752303423488 ∨ 576460752303423488 < v) → makeW t v = none := fun v hv => by
    unfold makeW may least most
    rw [if_neg]
    rintro ⟨_, _, h⟩
    have := of_decide_eq_true h
    rcases ht with rfl | rfl | rfl <;> simp at this <;> omega
  cases hl : longT s with
  | some v =>
    have hb := longT_back hl
    have hin := longT_in hl
    dsimp only
    by_cases hv : v < 0
    · obtain ⟨n, rfl⟩ : ∃ n : Nat, v = -(n : Int) := ⟨v.natAbs, by omega⟩
      rw [itoa_neg n (by omega)] at hb
      have hp : hasPrefix s [45] = true := by rw [hb]; rfl
      have hd : s.drop 1 = decDigits n := by rw [hb]; rfl
      unfold wordNT
      rw [hp, if_pos rfl, hd]
      cases hn : numT (decDigits n) with
      | none =>
        dsimp only
        refine (hbig _ ?_).symm
        left
        rcases Nat.lt_or_ge 576460752303423488 (n / 10) with h | h
        · omega
        · rw [numT_dec n h] at hn; cases hn
      | some m =>
        dsimp only
        obtain ⟨h1, h2⟩ := numT_back hn
        have : n = m := dec_inj (by omega) (by omega) h1
        subst this
        rw [if_neg (by omega), if_pos rfl]
    · obtain ⟨n, rfl⟩ : ∃ n : Nat, v = n := ⟨v.toNat, by omega⟩
      rw [itoa_nonneg] at hb
      have hp : hasPrefix s [45] = false := by rw [hb]; exact no_minus n
      unfold wordNT
      rw [hp, if_neg (by simp), hb]
      cases hn : numT (decDigits n) with
      | none =>
        dsimp only
        refine (hbig _ ?_).symm
        right
        rcases Nat.lt_or_ge 576460752303423488 (n / 10) with h | h
        · omega
        · rw [numT_dec n h] at hn; cases hn
      | some m =>
        dsimp only
        obtain ⟨h1, h2⟩ := numT_back hn
        have : n = m := dec_inj (by omega) (by omega) h1
        subst this
        rw [if_neg (by simp), if_neg (by simp)]
  | none =>
    dsimp only
    unfold wordNT
    cases hp : hasPrefix s [45] with
    | true =>
      rw [if_pos rfl]
      cases hn : numT (s.drop 1) with
      | none => rfl
      | some n =>
        dsimp only
        obtain ⟨h1, h2⟩ := numT_back hn
        by_cases h0 : n = 0
        · rw [if_pos ⟨rfl, h0⟩]
        · exfalso
          have hs : s = 45 :: s.drop 1 := by
            cases s with
            | nil => cases hp
            | cons a r =>
              have : (45 : UInt8) = a := by simpa [hasPrefix] using hp
              rw [← this]; rfl
          rw [h1] at hs
          have := longT_itoa (-(n : Int)) (by omega)
          rw [itoa_neg n (by omega), ← hs, hl] at this
          cases this
    | false =>
      rw [if_neg (by simp)]
      cases hn : numT s with
      | none => rfl
      | some n =>
        dsimp only
        obtain ⟨h1, h2⟩ := numT_back hn
        have := longT_itoa (n : Int) (by omega)
        rw [itoa_nonneg, ← h1, hl] at this
        cases this
end Cd
end Go.Proofs.YticaipedpcmhfaaGreatDoor
