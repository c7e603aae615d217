/- Layer 0, the document's comparisons: SameWords, SameTexts, SameInstrs. -/
import Derived.Test.YticaipedpcmhfaaGreatDoorCkS2
import Derived.Deep.QuietTactic
import Derived.BigQuiet
import Derived.MapKept
namespace Go.Proofs.YticaipedpcmhfaaGreatDoor
open Go.RowKit Hp
namespace Ck
variable {w w' : World}

/-- Nothing has been done but orders drawn. -/
def Qt (w w' : World) : Prop := ∃ m, w' = w.drewN m
theorem Qt.refl (w : World) : Qt w w := ⟨0, rfl⟩
theorem Qt.drew {w w' : World} (h : Qt w w') : Qt w w'.drew := by obtain ⟨m, rfl⟩ := h; exact ⟨m + 1, rfl⟩
theorem Qt.drewN {w w' : World} (h : Qt w w') (n : Nat) : Qt w (w'.drewN n) := by obtain ⟨m, rfl⟩ := h; exact ⟨m + n, World.drewN_drewN ..⟩
theorem Qt.trans {w w' w2 : World} (h : Qt w w') (h2 : Qt w' w2) : Qt w w2 := by obtain ⟨m, rfl⟩ := h; obtain ⟨n, rfl⟩ := h2; exact ⟨m + n, World.drewN_drewN ..⟩
theorem Qt.same {w w' : World} (h : Qt w w') : Same [] w w' := by obtain ⟨m, rfl⟩ := h; exact (Same.refl _ _).drewN m

set_option maxHeartbeats 4000000 in
set_option maxRecDepth 100000 in
theorem s0W_any (v1 v2 : Value) (xs ys : List Int) (h1 : Sq w v1 xs.length 1 (fW xs)) (h2 : Sq w v2 ys.length 1 (fW ys)) : Calls Tryz.prog 56 #[v1, v2] w fun e w' => e = .returned (.bool (decide (xs = ys))) ∧ Qt w w' := by
  obtain ⟨A1, c1, rfl, hx1, hx2, hx3⟩ := h1
  obtain ⟨A2, c2, rfl, hy1, hy2, hy3⟩ := h2
  unfold maxLen at hx2 hy2
  have H1 := Lib.hid hx3
  have H2 := Lib.hid hy3
  clear hx3 hy3
  go_enter Tryz.func56, Tryz.ntmps56
  by_cases hn : xs.length = ys.length
  · have hn' : (xs.length : Int) = ys.length := by omega
    go_wp2_with fail
    go_loopg [5] xs.length (fun gk i wr => ∃ k : Nat, k ≤ xs.length ∧ gk = xs.length - k ∧ i = .int .i64 k ∧ xs.take k = ys.take k ∧ Qt w wr)
    case atStart => exact ⟨0, Nat.zero_le _, rfl, rfl, by simp, Qt.refl _⟩
    case round =>
      obtain ⟨k, hk, rfl, rfl, htk, hs⟩ := hrel
      have HQ := Lib.hid hs
      have HS := Lib.hid hs.same
      have HT := Lib.hid htk
      clear hs htk
      by_cases hlt : k < xs.length
      · obtain ⟨b, o, rfl, hb, hbc⟩ := H1.out (by omega)
        obtain ⟨b', o', rfl, hb', hbc'⟩ := H2.out (by omega)
        have hlt' : k < ys.length := by omega
        have p0 : wr.cell? ⟨b, o + k, none⟩ = some (.int .u64 (xs.getD k 0)) := by
          rw [HS.out.cell hb (by simp)]; have := hbc k 0 hlt (by omega); simpa [fW] using this
        have q0 : wr.cell? ⟨b', o' + k, none⟩ = some (.int .u64 (ys.getD k 0)) := by
          rw [HS.out.cell hb' (by simp)]; have := hbc' k 0 hlt' (by omega); simpa [fW] using this
        obtain ⟨x, hx⟩ : ∃ x, xs.getD k 0 = x := ⟨_, rfl⟩
        obtain ⟨y, hy⟩ : ∃ y, ys.getD k 0 = y := ⟨_, rfl⟩
        rw [hx] at p0
        rw [hy] at q0
        have HX := Lib.hid hx
        have HY := Lib.hid hy
        clear hx hy hbc hbc'
        have hk1 : (k : Int) < 9223372036854775807 := by omega
        by_cases hxy : x = y
        · subst hxy
          go_wp2_with fail
          go_region
          all_goals
            go_wp2_with fail
            go_roundg (xs.length - (k + 1))
            case measure => omega
            case rel => exact ⟨k + 1, by omega, rfl, by go_num, take_eq_step 0 HT.out hlt hlt' (HX.out.trans HY.out.symm), HQ.out.drew⟩
        · have HNE : Hid (xs ≠ ys) := Lib.hid (fun e => hxy (by rw [← HX.out, ← HY.out, e]))
          have hb : (x != y) = true := by simp [hxy]
          clear hxy
          go_wp2_with fail
          go_region
          all_goals
            go_wp2_with fail
            go_ret
            exact ⟨by rw [decide_eq_false HNE.out]; rfl, HQ.out.drew⟩
      · have he : xs = ys := by
          have := HT.out
          rwa [List.take_of_length_le (by omega), List.take_of_length_le (by omega)] at this
        go_wp2_with fail
        go_ret
        exact ⟨by rw [decide_eq_true he]; rfl, HQ.out⟩
  · have hne : xs ≠ ys := fun e => hn (by rw [e])
    have hn2 : ((xs.length : Int) == (ys.length : Int)) = false := by rw [beq_eq_false_iff_ne]; omega
    go_wp2_with fail
    go_ret
    exact ⟨by rw [decide_eq_false hne]; rfl, Qt.refl _⟩

set_option maxHeartbeats 4000000 in
set_option maxRecDepth 100000 in
theorem s0T_any (v1 v2 : Value) (xs ys : List ByteArray) (h1 : Sq w v1 xs.length 1 (fS xs)) (h2 : Sq w v2 ys.length 1 (fS ys)) : Calls Tryz.prog 58 #[v1, v2] w fun e w' => e = .returned (.bool (decide (xs = ys))) ∧ Qt w w' := by
  obtain ⟨A1, c1, rfl, hx1, hx2, hx3⟩ := h1
  obtain ⟨A2, c2, rfl, hy1, hy2, hy3⟩ := h2
  unfold maxLen at hx2 hy2
  have H1 := Lib.hid hx3
  have H2 := Lib.hid hy3
  clear hx3 hy3
  go_enter Tryz.func58, Tryz.ntmps58
  by_cases hn : xs.length = ys.length
  · have hn' : (xs.length : Int) = ys.length := by omega
    go_wp2_with fail
    go_loopg [5] xs.length (fun gk i wr => ∃ k : Nat, k ≤ xs.length ∧ gk = xs.length - k ∧ i = .int .i64 k ∧ xs.take k = ys.take k ∧ Qt w wr)
    case atStart => exact ⟨0, Nat.zero_le _, rfl, rfl, by simp, Qt.refl _⟩
    case round =>
      obtain ⟨k, hk, rfl, rfl, htk, hs⟩ := hrel
      have HQ := Lib.hid hs
      have HS := Lib.hid hs.same
      have HT := Lib.hid htk
      clear hs htk
      by_cases hlt : k < xs.length
      · obtain ⟨b, o, rfl, hb, hbc⟩ := H1.out (by omega)
        obtain ⟨b', o', rfl, hb', hbc'⟩ := H2.out (by omega)
        have hlt' : k < ys.length := by omega
        have p0 : wr.cell? ⟨b, o + k, none⟩ = some (.string (xs.getD k ByteArray.empty)) := by
          rw [HS.out.cell hb (by simp)]; have := hbc k 0 hlt (by omega); simpa [fS] using this
        have q0 : wr.cell? ⟨b', o' + k, none⟩ = some (.string (ys.getD k ByteArray.empty)) := by
          rw [HS.out.cell hb' (by simp)]; have := hbc' k 0 hlt' (by omega); simpa [fS] using this
        obtain ⟨x, hx⟩ : ∃ x, xs.getD k ByteArray.empty = x := ⟨_, rfl⟩
        obtain ⟨y, hy⟩ : ∃ y, ys.getD k ByteArray.empty = y := ⟨_, rfl⟩
        rw [hx] at p0
        rw [hy] at q0
        have HX := Lib.hid hx
        have HY := Lib.hid hy
        clear hx hy hbc hbc'
        have hk1 : (k : Int) < 9223372036854775807 := by omega
        by_cases hxy : x = y
        · subst hxy
          go_wp2_with fail
          go_region
          all_goals
            go_wp2_with fail
            go_roundg (xs.length - (k + 1))
            case measure => omega
            case rel => exact ⟨k + 1, by omega, rfl, by go_num, take_eq_step ByteArray.empty HT.out hlt hlt' (HX.out.trans HY.out.symm), HQ.out.drew⟩
        · have HNE : Hid (xs ≠ ys) := Lib.hid (fun e => hxy (by rw [← HX.out, ← HY.out, e]))
          have hb : (x.toList == y.toList) = false := by
            rw [beq_eq_false_iff_ne]
            intro e
            rw [ByteArray.toList_eq, ByteArray.toList_eq] at e
            exact hxy (ByteArray.ext (Array.toList_inj.1 e))
          clear hxy
          go_wp2_with fail
          go_region
          all_goals
            go_wp2_with fail
            go_ret
            exact ⟨by rw [decide_eq_false HNE.out]; rfl, HQ.out.drew⟩
      · have he : xs = ys := by
          have := HT.out
          rwa [List.take_of_length_le (by omega), List.take_of_length_le (by omega)] at this
        go_wp2_with fail
        go_ret
        exact ⟨by rw [decide_eq_true he]; rfl, HQ.out⟩
  · have hne : xs ≠ ys := fun e => hn (by rw [e])
    have hn2 : ((xs.length : Int) == (ys.length : Int)) = false := by rw [beq_eq_false_iff_ne]; omega
    go_wp2_with fail
    go_ret
    exact ⟨by rw [decide_eq_false hne]; rfl, Qt.refl _⟩

set_option maxHeartbeats 4000000 in
set_option maxRecDepth 100000 in
theorem s0I_any (v1 v2 : Value) (xs ys : List Cd.In) (h1 : Sq w v1 xs.length 2 (fI xs)) (h2 : Sq w v2 ys.length 2 (fI ys)) : Calls Tryz.prog 101 #[v1, v2] w fun e w' => e = .returned (.bool (decide (xs = ys))) ∧ Qt w w' := by
  obtain ⟨A1, c1, rfl, hx1, hx2, hx3⟩ := h1
  obtain ⟨A2, c2, rfl, hy1, hy2, hy3⟩ := h2
  unfold maxLen at hx2 hy2
  have H1 := Lib.hid hx3
  have H2 := Lib.hid hy3
  clear hx3 hy3
  go_enter Tryz.func101, Tryz.ntmps101
  by_cases hn : xs.length = ys.length
  · have hn' : (xs.length : Int) = ys.length := by omega
    go_wp2_with fail
    go_loopg [5] xs.length (fun gk i wr => ∃ k : Nat, k ≤ xs.length ∧ gk = xs.length - k ∧ i = .int .i64 k ∧ xs.take k = ys.take k ∧ Qt w wr)
    case atStart => exact ⟨0, Nat.zero_le _, rfl, rfl, by simp, Qt.refl _⟩
    case round =>
      obtain ⟨k, hk, rfl, rfl, htk, hs⟩ := hrel
      have HQ := Lib.hid hs
      have HS := Lib.hid hs.same
      have HT := Lib.hid htk
      clear hs htk
      by_cases hlt : k < xs.length
      · obtain ⟨b, o, rfl, hb, hbc⟩ := H1.out (by omega)
        obtain ⟨b', o', rfl, hb', hbc'⟩ := H2.out (by omega)
        have hlt' : k < ys.length := by omega
        have p0 : wr.cell? ⟨b, o + k * 2, none⟩ = some (.int .u8 (xs.getD k ⟨0, 0⟩).op) := by
          rw [HS.out.cell hb (by simp)]; exact hbc k 0 hlt (by omega)
        have p1 : wr.cell? ⟨b, o + k * 2 + 1, none⟩ = some (.int .i64 (xs.getD k ⟨0, 0⟩).a) := by
          rw [HS.out.cell hb (by simp)]; exact hbc k 1 hlt (by omega)
        have q0 : wr.cell? ⟨b', o' + k * 2, none⟩ = some (.int .u8 (ys.getD k ⟨0, 0⟩).op) := by
          rw [HS.out.cell hb' (by simp)]; exact hbc' k 0 hlt' (by omega)
        have q1 : wr.cell? ⟨b', o' + k * 2 + 1, none⟩ = some (.int .i64 (ys.getD k ⟨0, 0⟩).a) := by
          rw [HS.out.cell hb' (by simp)]; exact hbc' k 1 hlt' (by omega)
        obtain ⟨x, hx⟩ : ∃ x, xs.getD k ⟨0, 0⟩ = x := ⟨_, rfl⟩
        obtain ⟨y, hy⟩ : ∃ y, ys.getD k ⟨0, 0⟩ = y := ⟨_, rfl⟩
        rw [hx] at p0 p1
        rw [hy] at q0 q1
        have HX := Lib.hid hx
        have HY := Lib.hid hy
        clear hx hy hbc hbc'
        have hk1 : (k : Int) < 9223372036854775807 := by omega
        by_cases hxy : x = y
        · subst hxy
          go_wp2_with fail
          go_region
          all_goals
            go_wp2_with fail
            go_roundg (xs.length - (k + 1))
            case measure => omega
            case rel => exact ⟨k + 1, by omega, rfl, by go_num, take_eq_step ⟨0, 0⟩ HT.out hlt hlt' (HX.out.trans HY.out.symm), HQ.out.drew⟩
        · have HNE : Hid (xs ≠ ys) := Lib.hid (fun e => hxy (by rw [← HX.out, ← HY.out, e]))
          obtain ⟨xo, xa⟩ := x
          obtain ⟨yo, ya⟩ := y
          by_cases h1 : xo = yo
          · subst h1
            have h2 : ¬ xa = ya := fun e => hxy (by rw [e])
            clear hxy
            go_wp2_with fail
            go_region
            all_goals
              go_wp2_with fail
              go_ret
              exact ⟨by rw [decide_eq_false HNE.out]; rfl, HQ.out.drew⟩
          · clear hxy
            go_wp2_with fail
            go_region
            all_goals
              go_wp2_with fail
              go_ret
              exact ⟨by rw [decide_eq_false HNE.out]; rfl, HQ.out.drew⟩
      · have he : xs = ys := by
          have := HT.out
          rwa [List.take_of_length_le (by omega), List.take_of_length_le (by omega)] at this
        go_wp2_with fail
        go_ret
        exact ⟨by rw [decide_eq_true he]; rfl, HQ.out⟩
  · have hne : xs ≠ ys := fun e => hn (by rw [e])
    have hn2 : ((xs.length : Int) == (ys.length : Int)) = false := by rw [beq_eq_false_iff_ne]; omega
    go_wp2_with fail
    go_ret
    exact ⟨by rw [decide_eq_false hne]; rfl, Qt.refl _⟩
end Ck
end Go.Proofs.YticaipedpcmhfaaGreatDoor

