/- Layer 8, package code: slices.Equal at words, at instructions. -/
import Derived.Test.YticaipedpcmhfaaGreatDoorCkV
import Derived.Test.YticaipedpcmhfaaGreatDoorCkT1
import Derived.Deep.LoopGhost
namespace Go.Proofs.YticaipedpcmhfaaGreatDoor
open Go.RowKit Hp
deriving instance DecidableEq for Cd.In
deriving instance DecidableEq for Cd.Pr
deriving instance DecidableEq for Cd.Co
namespace Ck
variable {w w' : World}

theorem take_eq_step {α : Type} {xs ys : List α} {k : Nat} (d : α) (h : xs.take k = ys.take k) (hx : k < xs.length) (hy : k < ys.length) (he : xs.getD k d = ys.getD k d) : xs.take (k + 1) = ys.take (k + 1) := by
  rw [List.getD, List.getD, List.getElem?_eq_getElem hx, List.getElem?_eq_getElem hy] at he
  have he' : xs[k] = ys[k] := he
  rw [List.take_succ_eq_append_getElem hx, List.take_succ_eq_append_getElem hy, h, he']

set_option maxHeartbeats 4000000 in
set_option maxRecDepth 100000 in
theorem eqW_any (v1 v2 : Value) (xs ys : List Int) (h1 : Sq w v1 xs.length 1 (fW xs)) (h2 : Sq w v2 ys.length 1 (fW ys)) : Calls Tryz.prog 79 #[v1, v2] w fun e w' => e = .returned (.bool (decide (xs = ys))) ∧ Same [] w w' := by
  obtain ⟨A1, c1, rfl, hx1, hx2, hx3⟩ := h1
  obtain ⟨A2, c2, rfl, hy1, hy2, hy3⟩ := h2
  unfold maxLen at hx2 hy2
  have H1 := Lib.hid hx3
  have H2 := Lib.hid hy3
  clear hx3 hy3
  go_enter Tryz.func79, Tryz.ntmps79
  by_cases hn : xs.length = ys.length
  · have hn' : (xs.length : Int) = ys.length := by omega
    go_wp2_with fail
    go_loopg [5, 13] xs.length (fun gk _ i wr => ∃ k : Nat, k ≤ xs.length ∧ gk = xs.length - k ∧ i = .int .i64 k ∧ xs.take k = ys.take k ∧ Same [] w wr)
    case atStart => exact ⟨0, Nat.zero_le _, rfl, rfl, by simp, Same.refl _ _⟩
    case round =>
      obtain ⟨k, hk, rfl, rfl, htk, hs⟩ := hrel
      have HS := Lib.hid hs
      have HT := Lib.hid htk
      clear hs htk
      by_cases hlt : k < xs.length
      · obtain ⟨b, o, rfl, hb, hbc⟩ := H1.out (by omega)
        obtain ⟨b', o', rfl, hb', hbc'⟩ := H2.out (by omega)
        have hlt' : k < ys.length := by omega
        have p1 : wr.cell? ⟨b, o + k, none⟩ = some (.int .u64 (xs.getD k 0)) := by
          rw [HS.out.cell hb (by simp)]; have := hbc k 0 hlt (by omega); simpa [fW] using this
        have p2 : wr.cell? ⟨b', o' + k, none⟩ = some (.int .u64 (ys.getD k 0)) := by
          rw [HS.out.cell hb' (by simp)]; have := hbc' k 0 hlt' (by omega); simpa [fW] using this
        obtain ⟨x, hx⟩ : ∃ x, xs.getD k 0 = x := ⟨_, rfl⟩
        obtain ⟨y, hy⟩ : ∃ y, ys.getD k 0 = y := ⟨_, rfl⟩
        rw [hx] at p1
        rw [hy] at p2
        have HX := Lib.hid hx
        have HY := Lib.hid hy
        clear hx hy hbc hbc'
        have hk1 : (k : Int) < 9223372036854775807 := by omega
        by_cases hxy : x = y
        · subst hxy
          go_wp2_with fail
          go_region
          all_goals
            go_wp2_with fail
            go_roundg (xs.length - (k + 1))
            case measure => omega
            case rel => exact ⟨k + 1, by omega, rfl, by go_num, take_eq_step 0 HT.out hlt hlt' (HX.out.trans HY.out.symm), HS.out.drew⟩
        · have HNE : Hid (xs ≠ ys) := Lib.hid (fun e => hxy (by rw [← HX.out, ← HY.out, e]))
          have hb : (x != y) = true := by simp [hxy]
          clear hxy
          go_wp2_with fail
          go_region
          all_goals
            go_wp2_with fail
            go_ret
            exact ⟨by rw [decide_eq_false HNE.out]; rfl, HS.out.drew⟩
      · have he : xs = ys := by
          have := HT.out
          rwa [List.take_of_length_le (by omega), List.take_of_length_le (by omega)] at this
        go_wp2_with fail
        go_ret
        exact ⟨by rw [decide_eq_true he]; rfl, HS.out⟩
  · have hne : xs ≠ ys := fun e => hn (by rw [e])
    go_wp2_with fail
    go_ret
    exact ⟨by rw [decide_eq_false hne]; rfl, Same.refl _ _⟩
set_option maxHeartbeats 4000000 in
set_option maxRecDepth 100000 in
theorem eqI_any (v1 v2 : Value) (xs ys : List Cd.In) (h1 : Sq w v1 xs.length 2 (fI xs)) (h2 : Sq w v2 ys.length 2 (fI ys)) : Calls Tryz.prog 83 #[v1, v2] w fun e w' => e = .returned (.bool (decide (xs = ys))) ∧ Same [] w w' := by
  obtain ⟨A1, c1, rfl, hx1, hx2, hx3⟩ := h1
  obtain ⟨A2, c2, rfl, hy1, hy2, hy3⟩ := h2
  unfold maxLen at hx2 hy2
  have H1 := Lib.hid hx3
  have H2 := Lib.hid hy3
  clear hx3 hy3
  go_enter Tryz.func83, Tryz.ntmps83
  by_cases hn : xs.length = ys.length
  · have hn' : (xs.length : Int) = ys.length := by omega
    go_wp2_with fail
    go_loopg [5, 13] xs.length (fun gk _ i wr => ∃ k : Nat, k ≤ xs.length ∧ gk = xs.length - k ∧ i = .int .i64 k ∧ xs.take k = ys.take k ∧ Same [] w wr)
    case atStart => exact ⟨0, Nat.zero_le _, rfl, rfl, by simp, Same.refl _ _⟩
    case round =>
      obtain ⟨k, hk, rfl, rfl, htk, hs⟩ := hrel
      have HS := Lib.hid hs
      have HT := Lib.hid htk
      clear hs htk
      by_cases hlt : k < xs.length
      · obtain ⟨b, o, rfl, hb, hbc⟩ := H1.out (by omega)
        obtain ⟨b', o', rfl, hb', hbc'⟩ := H2.out (by omega)
        have hlt' : k < ys.length := by omega
        obtain ⟨x, hx⟩ : ∃ x, xs.getD k ⟨0, 0⟩ = x := ⟨_, rfl⟩
        obtain ⟨y, hy⟩ : ∃ y, ys.getD k ⟨0, 0⟩ = y := ⟨_, rfl⟩
        have p1 : wr.cell? ⟨b, o + k * 2, none⟩ = some (.int .u8 x.op) := by
          rw [HS.out.cell hb (by simp)]; have := hbc k 0 hlt (by omega); rw [fI, hx] at this; exact this
        have p1' : wr.cell? ⟨b, o + k * 2 + 1, none⟩ = some (.int .i64 x.a) := by
          rw [HS.out.cell hb (by simp)]; have := hbc k 1 hlt (by omega); rw [fI, hx] at this; exact this
        have p2 : wr.cell? ⟨b', o' + k * 2, none⟩ = some (.int .u8 y.op) := by
          rw [HS.out.cell hb' (by simp)]; have := hbc' k 0 hlt' (by omega); rw [fI, hy] at this; exact this
        have p2' : wr.cell? ⟨b', o' + k * 2 + 1, none⟩ = some (.int .i64 y.a) := by
          rw [HS.out.cell hb' (by simp)]; have := hbc' k 1 hlt' (by omega); rw [fI, hy] at this; exact this
        have HX := Lib.hid hx
        have HY := Lib.hid hy
        clear hx hy hbc hbc'
        have hk1 : (k : Int) < 9223372036854775807 := by omega
        by_cases hxy : x = y
        · subst hxy
          go_wp2_with fail
          go_region
          all_goals
            go_wp2_with fail
            go_roundg (xs.length - (k + 1))
            case measure => omega
            case rel => exact ⟨k + 1, by omega, rfl, by go_num, take_eq_step ⟨0, 0⟩ HT.out hlt hlt' (HX.out.trans HY.out.symm), HS.out.drew⟩
        · have HNE : Hid (xs ≠ ys) := Lib.hid (fun e => hxy (by rw [← HX.out, ← HY.out, e]))
          obtain ⟨xo, xa⟩ := x
          obtain ⟨yo, ya⟩ := y
          by_cases ho : xo = yo
          · subst ho
            have hb : ¬ xa = ya := fun e => hxy (by rw [e])
            clear hxy
            go_wp2_with fail
            go_region
            all_goals
              go_wp2_with fail
              go_ret
              exact ⟨by rw [decide_eq_false HNE.out]; rfl, HS.out.drew⟩
          · clear hxy
            go_wp2_with fail
            go_region
            all_goals
              go_wp2_with fail
              go_ret
              exact ⟨by rw [decide_eq_false HNE.out]; rfl, HS.out.drew⟩
      · have he : xs = ys := by
          have := HT.out
          rwa [List.take_of_length_le (by omega), List.take_of_length_le (by omega)] at this
        go_wp2_with fail
        go_ret
        exact ⟨by rw [decide_eq_true he]; rfl, HS.out⟩
  · have hne : xs ≠ ys := fun e => hn (by rw [e])
    go_wp2_with fail
    go_ret
    exact ⟨by rw [decide_eq_false hne]; rfl, Same.refl _ _⟩
end Ck
end Go.Proofs.YticaipedpcmhfaaGreatDoor
