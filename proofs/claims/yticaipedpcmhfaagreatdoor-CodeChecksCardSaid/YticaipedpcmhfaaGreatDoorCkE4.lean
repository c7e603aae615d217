/- Layer 0: whoever lent lists writes over them: SpoilWords, SpoilTexts, SpoilInstrs. -/
import Derived.Test.YticaipedpcmhfaaGreatDoorCkE1
import Derived.Deep.LoopGhost
namespace Go.Proofs.YticaipedpcmhfaaGreatDoor
open Go.RowKit Hp
namespace Ck
variable {w w' : World}

/-- The first k elements are written over, the others are as they were. -/
def over (z : List Value) (cs : List Value) (k : Nat) : List Value := (List.replicate k z).flatMap id ++ cs.drop (k * z.length)
theorem rep_len (z : List Value) (k : Nat) : ((List.replicate k z).flatMap id).length = k * z.length := by
  induction k with
  | zero => simp
  | succ k ih => rw [List.replicate_succ', List.flatMap_append, List.length_append, ih]; simp [Nat.add_mul]
theorem over_len (z cs : List Value) (k n : Nat) (h : cs.length = n * z.length) (hk : k ≤ n) : (over z cs k).length = n * z.length := by
  unfold over
  rw [List.length_append, rep_len, List.length_drop, h]
  have : k * z.length ≤ n * z.length := Nat.mul_le_mul_right _ hk
  omega
theorem over_one (v : Value) (cs : List Value) (k : Nat) (hk : k < cs.length) : (over [v] cs k).set k v = over [v] cs (k + 1) := by
  unfold over
  have hr : ((List.replicate k [v]).flatMap id).length = k := by rw [rep_len]; simp
  rw [List.set_append_right _ _ (by omega), hr, Nat.sub_self]
  rw [List.replicate_succ', List.flatMap_append, show (k * [v].length) = k by simp, show ((k + 1) * [v].length) = k + 1 by simp]
  have e : (cs.drop k).set 0 v = v :: cs.drop (k + 1) := by rw [List.drop_eq_getElem_cons hk]; rfl
  rw [e]
  simp
theorem over_two (a b : Value) (cs : List Value) (k n : Nat) (h : cs.length = n * 2) (hk : k < n) : ((over [a, b] cs k).set (k * 2) a).set (k * 2 + 1) b = over [a, b] cs (k + 1) := by
  unfold over
  have hr : ((List.replicate k [a, b]).flatMap id).length = k * 2 := by rw [rep_len]; simp
  rw [List.set_append_right _ _ (by omega), hr, Nat.sub_self, List.set_append_right _ _ (by omega), hr, show k * 2 + 1 - k * 2 = 1 by omega]
  rw [List.replicate_succ', List.flatMap_append, show (k * [a, b].length) = k * 2 by simp, show ((k + 1) * [a, b].length) = k * 2 + 2 by simp; omega]
  have e : ((cs.drop (k * 2)).set 0 a).set 1 b = a :: b :: cs.drop (k * 2 + 2) := by
    rw [List.drop_eq_getElem_cons (show k * 2 < cs.length by omega), List.drop_eq_getElem_cons (show k * 2 + 1 < cs.length by omega)]; rfl
  rw [e]
  simp

set_option maxHeartbeats 4000000 in
set_option maxRecDepth 100000 in
theorem spoilW_any (b m n : Nat) (cs : List Value) (h : Blk w b 74 cs) (hcs0 : cs.length = n * 1) (hm : m ≤ n) (hn : n ≤ 100000000000) : Calls Tryz.prog 48 #[.slice (some ⟨b, 0, none⟩) m n] w fun e w' => e = .returned (.tuple #[]) ∧ Blk w' b 74 (over [.int .u64 77777773] cs n) ∧ Same [b] w w' := by
  have H := Lib.hid h
  clear h
  have hcs : cs.length = n * ([.int .u64 77777773] : List Value).length := by rw [hcs0]; rfl
  have HCS := Lib.hid hcs
  have HCS0 := Lib.hid hcs0
  clear hcs hcs0
  go_enter Tryz.func48, Tryz.ntmps48
  go_wp2_with fail
  go_loopg [3] n (fun gk i wr => ∃ k : Nat, k ≤ n ∧ gk = n - k ∧ i = .int .i64 k ∧ Blk wr b 74 (over [.int .u64 77777773] cs k) ∧ Same [b] w wr)
  case atStart => exact ⟨0, Nat.zero_le _, rfl, rfl, by have := H.out; simpa [over] using this, Same.refl _ _⟩
  case round =>
    obtain ⟨k, hk, rfl, rfl, hb, hs⟩ := hrel
    have HB := Lib.hid hb
    have HS := Lib.hid hs
    have bz := hb.lt
    have bf := hb.frozen
    by_cases hlt : k < n
    · skip
      obtain ⟨c0, e0⟩ : ∃ c, wr.cell? ⟨b, k, none⟩ = some c := by
        rw [hb.cell]; exact ⟨_, List.getElem?_eq_getElem (by rw [over_len _ _ _ n HCS.out (by omega)]; simp; omega)⟩
      clear hb hs
      go_wp2_with fail
      go_roundg (n - (k + 1))
      case measure => omega
      case rel => exact ⟨k + 1, by omega, rfl, by go_num, by have := HB.out.set k (.int .u64 77777773); rw [over_one _ _ _ (by rw [HCS0.out]; omega)] at this; exact this, (HS.out.setCell (.inl (by simp)) _)⟩
    · obtain rfl : k = n := by omega
      clear hb hs
      go_wp2_with fail
      go_end0
      exact ⟨rfl, HB.out, HS.out⟩

set_option maxHeartbeats 4000000 in
set_option maxRecDepth 100000 in
theorem spoilT_any (b m n : Nat) (cs : List Value) (h : Blk w b 9 cs) (hcs0 : cs.length = n * 1) (hm : m ≤ n) (hn : n ≤ 100000000000) : Calls Tryz.prog 49 #[.slice (some ⟨b, 0, none⟩) m n] w fun e w' => e = .returned (.tuple #[]) ∧ Blk w' b 9 (over [.string ⟨#[115, 112, 111, 105, 108, 116]⟩] cs n) ∧ Same [b] w w' := by
  have H := Lib.hid h
  clear h
  have hcs : cs.length = n * ([.string ⟨#[115, 112, 111, 105, 108, 116]⟩] : List Value).length := by rw [hcs0]; rfl
  have HCS := Lib.hid hcs
  have HCS0 := Lib.hid hcs0
  clear hcs hcs0
  go_enter Tryz.func49, Tryz.ntmps49
  go_wp2_with fail
  go_loopg [3] n (fun gk i wr => ∃ k : Nat, k ≤ n ∧ gk = n - k ∧ i = .int .i64 k ∧ Blk wr b 9 (over [.string ⟨#[115, 112, 111, 105, 108, 116]⟩] cs k) ∧ Same [b] w wr)
  case atStart => exact ⟨0, Nat.zero_le _, rfl, rfl, by have := H.out; simpa [over] using this, Same.refl _ _⟩
  case round =>
    obtain ⟨k, hk, rfl, rfl, hb, hs⟩ := hrel
    have HB := Lib.hid hb
    have HS := Lib.hid hs
    have bz := hb.lt
    have bf := hb.frozen
    by_cases hlt : k < n
    · skip
      obtain ⟨c0, e0⟩ : ∃ c, wr.cell? ⟨b, k, none⟩ = some c := by
        rw [hb.cell]; exact ⟨_, List.getElem?_eq_getElem (by rw [over_len _ _ _ n HCS.out (by omega)]; simp; omega)⟩
      clear hb hs
      go_wp2_with fail
      go_roundg (n - (k + 1))
      case measure => omega
      case rel => exact ⟨k + 1, by omega, rfl, by go_num, by have := HB.out.set k (.string ⟨#[115, 112, 111, 105, 108, 116]⟩); rw [over_one _ _ _ (by rw [HCS0.out]; omega)] at this; exact this, (HS.out.setCell (.inl (by simp)) _)⟩
    · obtain rfl : k = n := by omega
      clear hb hs
      go_wp2_with fail
      go_end0
      exact ⟨rfl, HB.out, HS.out⟩

set_option maxHeartbeats 4000000 in
set_option maxRecDepth 100000 in
theorem spoilI_any (b m n : Nat) (cs : List Value) (h : Blk w b 82 cs) (hcs0 : cs.length = n * 2) (hm : m ≤ n) (hn : n ≤ 100000000000) : Calls Tryz.prog 50 #[.slice (some ⟨b, 0, none⟩) m n] w fun e w' => e = .returned (.tuple #[]) ∧ Blk w' b 82 (over [.int .u8 99, .int .i64 (-5)] cs n) ∧ Same [b] w w' := by
  have H := Lib.hid h
  clear h
  have hcs : cs.length = n * ([.int .u8 99, .int .i64 (-5)] : List Value).length := by rw [hcs0]; rfl
  have HCS := Lib.hid hcs
  have HCS0 := Lib.hid hcs0
  clear hcs hcs0
  go_enter Tryz.func50, Tryz.ntmps50
  go_wp2_with fail
  go_loopg [3] n (fun gk i wr => ∃ k : Nat, k ≤ n ∧ gk = n - k ∧ i = .int .i64 k ∧ Blk wr b 82 (over [.int .u8 99, .int .i64 (-5)] cs k) ∧ Same [b] w wr)
  case atStart => exact ⟨0, Nat.zero_le _, rfl, rfl, by have := H.out; simpa [over] using this, Same.refl _ _⟩
  case round =>
    obtain ⟨k, hk, rfl, rfl, hb, hs⟩ := hrel
    have HB := Lib.hid hb
    have HS := Lib.hid hs
    have bz := hb.lt
    have bf := hb.frozen
    by_cases hlt : k < n
    · skip
      obtain ⟨c0, e0⟩ : ∃ c, wr.cell? ⟨b, k * 2, none⟩ = some c := by
        rw [hb.cell]; exact ⟨_, List.getElem?_eq_getElem (by rw [over_len _ _ _ n HCS.out (by omega)]; simp; omega)⟩
      obtain ⟨c1, e1⟩ : ∃ c, wr.cell? ⟨b, k * 2 + 1, none⟩ = some c := by
        rw [hb.cell]; exact ⟨_, List.getElem?_eq_getElem (by rw [over_len _ _ _ n HCS.out (by omega)]; simp; omega)⟩
      clear hb hs
      go_wp2_with fail
      go_roundg (n - (k + 1))
      case measure => omega
      case rel => exact ⟨k + 1, by omega, rfl, by go_num, by have := (HB.out.set (k * 2) (.int .u8 99)).set (k * 2 + 1) (.int .i64 (-5)); rw [over_two _ _ _ _ n HCS0.out (by omega)] at this; exact this, ((HS.out.setCell (.inl (by simp)) _).setCell (.inl (by simp)) _)⟩
    · obtain rfl : k = n := by omega
      clear hb hs
      go_wp2_with fail
      go_end0
      exact ⟨rfl, HB.out, HS.out⟩
end Ck
end Go.Proofs.YticaipedpcmhfaaGreatDoor

