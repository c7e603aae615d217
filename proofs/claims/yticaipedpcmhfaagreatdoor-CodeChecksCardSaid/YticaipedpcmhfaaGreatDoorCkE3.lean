/- Layer 0, the document's look at lent lists: WholeWords, WholeTexts, WholeInstrs, of what is as it was lent. -/
import Derived.Test.YticaipedpcmhfaaGreatDoorCkE1
import Derived.Test.YticaipedpcmhfaaGreatDoorCkU2
namespace Go.Proofs.YticaipedpcmhfaaGreatDoor
open Go.RowKit Hp
namespace Ck
variable {w w' : World}

theorem lent_sq {b e n sz : Nat} {xs marks : List Value} {f : Nat → Nat → Value} (h : Blk w b e (xs ++ marks)) (hx : xs.length = n * sz) (hm : n + 2 ≤ maxLen) (hf : ∀ i j, i < n → j < sz → xs[i * sz + j]? = some (f i j)) : Sq w (.slice (some ⟨b, 0, none⟩) n (n + 2)) n sz f := by
  refine ⟨_, _, rfl, by omega, hm, fun _ => ⟨b, 0, rfl, h.lt, fun i j hi hj => ?_⟩⟩
  rw [Nat.zero_add, h.cell, ← hf i j hi hj]
  have hlt : i * sz + j < n * sz := by
    have : (i + 1) * sz ≤ n * sz := Nat.mul_le_mul_right _ hi
    rw [Nat.add_mul] at this; omega
  rw [List.getElem?_append_left (by omega)]
theorem lent_mark {b e k : Nat} {xs marks : List Value} (h : Blk w b e (xs ++ marks)) (j : Nat) (hk : xs.length = k) : w.cell? ⟨b, k + j, none⟩ = marks[j]? := by
  rw [h.cell, List.getElem?_append_right (by omega)]
  congr 1; omega

set_option maxHeartbeats 4000000 in
set_option maxRecDepth 100000 in
theorem wholeW_any (b : Nat) (v2 : Value) (l : List Int) (h1 : Blk w b 74 (l.map (Value.int .u64) ++ markW)) (h2 : Sq w v2 l.length 1 (fW l)) (hl : l.length ≤ 100000000000) : Calls Tryz.prog 45 #[.slice (some ⟨b, 0, none⟩) l.length (l.length + 2), v2] w fun e w' => e = .returned (.bool true) ∧ ∃ m, w' = w.drewN m := by
  have m0 : w.cell? ⟨b, l.length, none⟩ = markW[0]? := by have := lent_mark h1 0 (show (l.map (Value.int .u64)).length = l.length by simp); exact this
  have m1 : w.cell? ⟨b, l.length + 1, none⟩ = markW[1]? := by have := lent_mark h1 1 (show (l.map (Value.int .u64)).length = l.length by simp); exact this
  unfold markW at m0 m1
  have HSM : Hid (Calls Tryz.prog 56 #[.slice (some ⟨b, 0, none⟩) l.length (l.length + 2), v2] w fun e w' => e = .returned (.bool true) ∧ ∃ m, w' = w.drewN m) := Lib.hid ((s0W_any _ _ l l (lent_sq h1 (by simp) (by unfold maxLen; omega) (fW_at l)) h2).mono fun e w' h => ⟨by rw [h.1, decide_eq_true (rfl : l = l)], h.2⟩)
  obtain ⟨A, cap, rfl, hc1, hc2⟩ := h2.form
  unfold maxLen at hc2
  clear h1 h2
  go_enter Tryz.func45, Tryz.ntmps45
  go_wp2_with fail
  refine HSM.out.mono ?_
  rintro e w2 ⟨rfl, m, rfl⟩
  go_wp2_with fail
  go_ret
  exact ⟨rfl, m, rfl⟩

set_option maxHeartbeats 4000000 in
set_option maxRecDepth 100000 in
theorem wholeT_any (b : Nat) (v2 : Value) (l : List ByteArray) (h1 : Blk w b 9 (l.map Value.string ++ markS)) (h2 : Sq w v2 l.length 1 (fS l)) (hl : l.length ≤ 100000000000) : Calls Tryz.prog 46 #[.slice (some ⟨b, 0, none⟩) l.length (l.length + 2), v2] w fun e w' => e = .returned (.bool true) ∧ ∃ m, w' = w.drewN m := by
  have m0 : w.cell? ⟨b, l.length, none⟩ = markS[0]? := by have := lent_mark h1 0 (show (l.map Value.string).length = l.length by simp); exact this
  have m1 : w.cell? ⟨b, l.length + 1, none⟩ = markS[1]? := by have := lent_mark h1 1 (show (l.map Value.string).length = l.length by simp); exact this
  unfold markS ownerS at m0 m1
  have HSM : Hid (Calls Tryz.prog 58 #[.slice (some ⟨b, 0, none⟩) l.length (l.length + 2), v2] w fun e w' => e = .returned (.bool true) ∧ ∃ m, w' = w.drewN m) := Lib.hid ((s0T_any _ _ l l (lent_sq h1 (by simp) (by unfold maxLen; omega) (fS_at l)) h2).mono fun e w' h => ⟨by rw [h.1, decide_eq_true (rfl : l = l)], h.2⟩)
  obtain ⟨A, cap, rfl, hc1, hc2⟩ := h2.form
  unfold maxLen at hc2
  clear h1 h2
  go_enter Tryz.func46, Tryz.ntmps46
  go_wp2_with fail
  refine HSM.out.mono ?_
  rintro e w2 ⟨rfl, m, rfl⟩
  go_wp2_with fail
  go_ret
  exact ⟨rfl, m, rfl⟩

set_option maxHeartbeats 4000000 in
set_option maxRecDepth 100000 in
theorem wholeI_any (b : Nat) (v2 : Value) (l : List Cd.In) (h1 : Blk w b 82 (flatI l ++ markI)) (h2 : Sq w v2 l.length 2 (fI l)) (hl : l.length ≤ 100000000000) : Calls Tryz.prog 47 #[.slice (some ⟨b, 0, none⟩) l.length (l.length + 2), v2] w fun e w' => e = .returned (.bool true) ∧ ∃ m, w' = w.drewN m := by
  have m0 : w.cell? ⟨b, l.length * 2, none⟩ = markI[0]? := by have := lent_mark h1 0 (show (flatI l).length = l.length * 2 by rw [flatI_len]); exact this
  have m1 : w.cell? ⟨b, l.length * 2 + 1, none⟩ = markI[1]? := by have := lent_mark h1 1 (show (flatI l).length = l.length * 2 by rw [flatI_len]); exact this
  have m2 : w.cell? ⟨b, (l.length + 1) * 2, none⟩ = markI[2]? := by have := lent_mark h1 2 (show (flatI l).length = l.length * 2 by rw [flatI_len]); rw [show (l.length + 1) * 2 = l.length * 2 + 2 by omega]; exact this
  have m3 : w.cell? ⟨b, (l.length + 1) * 2 + 1, none⟩ = markI[3]? := by have := lent_mark h1 3 (show (flatI l).length = l.length * 2 by rw [flatI_len]); rw [show (l.length + 1) * 2 + 1 = l.length * 2 + 3 by omega]; exact this
  unfold markI at m0 m1 m2 m3
  have HSM : Hid (Calls Tryz.prog 101 #[.slice (some ⟨b, 0, none⟩) l.length (l.length + 2), v2] w fun e w' => e = .returned (.bool true) ∧ ∃ m, w' = w.drewN m) := Lib.hid ((s0I_any _ _ l l (lent_sq h1 (by rw [flatI_len]) (by unfold maxLen; omega) (flatI_at l)) h2).mono fun e w' h => ⟨by rw [h.1, decide_eq_true (rfl : l = l)], h.2⟩)
  obtain ⟨A, cap, rfl, hc1, hc2⟩ := h2.form
  unfold maxLen at hc2
  clear h1 h2
  go_enter Tryz.func47, Tryz.ntmps47
  go_wp2_with fail
  refine HSM.out.mono ?_
  rintro e w2 ⟨rfl, m, rfl⟩
  go_wp2_with fail
  go_ret
  exact ⟨rfl, m, rfl⟩
end Ck
end Go.Proofs.YticaipedpcmhfaaGreatDoor

