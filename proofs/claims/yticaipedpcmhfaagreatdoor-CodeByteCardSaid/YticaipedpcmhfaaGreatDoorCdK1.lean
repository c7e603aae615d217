/- Layer 8, the plain side: numbers, words, instructions as they are written are read as they were, and the other way round. -/
import Derived.Test.YticaipedpcmhfaaGreatDoorCd
import Derived.Lib.ItoaMem
namespace Go.Proofs.YticaipedpcmhfaaGreatDoor
namespace Cd
open Go.Lib

theorem digit_byte (d : Nat) (h : d < 10) : (UInt8.ofNat (48 + d)).toNat = 48 + d := by
  rw [UInt8.toNat_ofNat']; omega
theorem decDigits_all (u : Nat) : ∀ b ∈ decDigits u, 48 ≤ b.toNat ∧ b.toNat ≤ 57 := by
  induction u using Nat.strongRecOn with
  | _ u ih =>
    intro b hb
    rw [decDigits] at hb
    split at hb
    · rename_i h
      rw [List.mem_singleton.1 hb, digit_byte u h]; omega
    · rename_i h
      rcases List.mem_append.1 hb with hb | hb
      · exact ih (u / 10) (by omega) b hb
      · rw [List.mem_singleton.1 hb, digit_byte (u % 10) (by omega)]; omega
theorem decDigits_ne (u : Nat) : decDigits u ≠ [] := by
  rw [decDigits]
  split <;> simp

theorem parseM_app (M : Nat) : ∀ (l r : List UInt8) (acc a : Nat), parseUintM M acc l = .ok a → parseUintM M acc (l ++ r) = parseUintM M a r
  | [], r, acc, a, h => by
    rw [parseUintM] at h
    injection h with h
    rw [h]; rfl
  | c :: l, r, acc, a, h => by
    rw [parseUintM] at h
    rw [List.cons_append, parseUintM]
    split at h
    · rename_i h1
      rw [if_pos h1]
      split at h
      · cases h
      · rename_i h2
        rw [if_neg h2]
        split at h
        · cases h
        · rename_i h3
          rw [if_neg h3]
          exact parseM_app M l r _ a h
    · cases h
theorem parseM_digits (M : Nat) (hM : M ≤ 18446744073709551615) (u : Nat) (hu : u ≤ M) : parseUintM M 0 (decDigits u) = .ok u := by
  induction u using Nat.strongRecOn with
  | _ u ih =>
    rw [decDigits]
    split
    · rename_i h
      rw [parseUintM, digit_byte u h, if_pos (by omega), if_neg (by omega), if_neg (by omega), parseUintM]
      congr 1
      omega
    · rename_i h
      rw [parseM_app M _ _ 0 _ (ih (u / 10) (by omega) (by omega)), parseUintM, digit_byte (u % 10) (by omega), if_pos (by omega), if_neg (by omega), if_neg (by omega), parseUintM]
      congr 1
      omega

theorem parse_itoa (n : Int) (h : -9223372036854775808 ≤ n ∧ n ≤ 9223372036854775807) : parseIntB 64 (itoa n) = .ok n := by
  by_cases hn : n < 0
  · obtain ⟨u, rfl⟩ : ∃ u : Nat, n = -(u : Int) := ⟨n.natAbs, by omega⟩
    rw [itoa_neg u (by omega)]
    have hp : parseUintB 64 (decDigits u) = .ok u := by
      unfold parseUintB
      rw [if_neg (decDigits_ne u)]
      exact parseM_digits _ (by decide) u (by omega)
    unfold parseIntB
    dsimp only
    rw [if_pos (.inr (by decide)), hp]
    dsimp only
    rw [if_neg (by simp), if_neg (by simp; omega), if_pos (by decide)]
  · obtain ⟨u, rfl⟩ : ∃ u : Nat, n = (u : Int) := ⟨n.toNat, by omega⟩
    rw [itoa_nonneg u]
    have hp : parseUintB 64 (decDigits u) = .ok u := by
      unfold parseUintB
      rw [if_neg (decDigits_ne u)]
      exact parseM_digits _ (by decide) u (by omega)
    cases hd : decDigits u with
    | nil => exact absurd hd (decDigits_ne u)
    | cons c r =>
      have hc := decDigits_all u c (by rw [hd]; simp)
      unfold parseIntB
      dsimp only
      rw [if_neg (by omega), ← hd, hp]
      dsimp only
      rw [if_neg (by intro h1; have := h1.2; simp at this; omega), if_neg (by omega), if_neg (by omega)]

theorem longT_itoa (n : Int) (h : -9223372036854775808 ≤ n ∧ n ≤ 9223372036854775807) : longT (itoa n) = some n := by
  unfold longT
  rw [parse_itoa n h]
  dsimp only
  rw [if_pos rfl]
theorem placeT_itoa (n : Int) (h : 0 ≤ n ∧ n ≤ 2147483647) : placeT (itoa n) = some n := by
  unfold placeT
  rw [longT_itoa n (by omega)]
  dsimp only
  rw [if_pos h]
theorem longT_back {s : List UInt8} {n : Int} (h : longT s = some n) : s = itoa n := by
  unfold longT at h
  split at h
  · split at h
    · rename_i e
      injection h with h
      rw [← h]; exact e.symm
    · cases h
  · cases h
theorem placeT_back {s : List UInt8} {n : Int} (h : placeT s = some n) : s = itoa n ∧ 0 ≤ n ∧ n ≤ 2147483647 := by
  unfold placeT at h
  split at h
  · rename_i m hm
    split at h
    · rename_i c
      injection h with h
      subst h
      exact ⟨longT_back hm, c⟩
    · cases h
  · cases h

/-- No line's end in what is written. -/
theorem itoa_no10 (n : Int) : (10 : UInt8) ∉ itoa n := fun hm => by
  unfold itoa at hm
  split at hm
  · rcases List.mem_cons.1 hm with h | h
    · exact absurd h (by decide)
    · have := decDigits_all _ _ h
      simp at this
  · have := decDigits_all _ _ hm
    simp at this

/-- Words. -/
theorem signed_in (w : Int) (h : 0 ≤ w ∧ w < 18446744073709551616) : signed w % 16 = w % 16 ∧ signed w % 18446744073709551616 = w := by
  unfold signed
  split <;> omega
theorem wordOf_back (w : Int) (h : 0 ≤ w ∧ w < 18446744073709551616) : wordOf (wordT w) (wordN w) = w := by
  obtain ⟨h1, h2⟩ := signed_in w h
  unfold wordOf wordT wordN
  have : signed w / 16 * 16 + w % 16 = signed w := by omega
  rw [this, h2]
theorem word_of (t n : Int) (ht : 1 ≤ t ∧ t ≤ 8) (hn : may t n = true) : wordT (wordOf t n) = t ∧ wordN (wordOf t n) = n := by
  have hb : -576460752303423488 ≤ n ∧ n ≤ 576460752303423487 := by
    unfold may at hn
    have h := of_decide_eq_true hn
    unfold least most at h
    obtain ⟨h1, h2⟩ := h
    split at h1 <;> split at h2 <;> (try split at h1) <;> (try split at h2) <;> (try split at h2) <;> (try split at h2) <;> omega
  unfold wordT wordN wordOf signed
  constructor
  · omega
  · split <;> omega
end Cd
end Go.Proofs.YticaipedpcmhfaaGreatDoor
