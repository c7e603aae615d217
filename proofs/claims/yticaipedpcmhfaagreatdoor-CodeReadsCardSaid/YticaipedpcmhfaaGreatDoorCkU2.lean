/- Layer 0, the document's comparisons: SameWords, SameTexts, SameInstrs. -/
import Derived.Test.YticaipedpcmhfaaGreatDoorCkS3
import Derived.Deep.QuietTactic
import Derived.BigQuiet
import Derived.MapKept
import Derived.Test.YticaipedpcmhfaaGreatDoorCkW6
namespace Go.Proofs.YticaipedpcmhfaaGreatDoor
open Go.RowKit Hp
namespace Ck
variable {w w' : World}

/-- Nothing has been done but orders drawn. -/
def Qt (w w' : World) : Prop := ∃ m, w' = w.drewN m
theorem Qt.refl (w : World) : Qt w w := ⟨0, rfl⟩
theorem Qt.drew {w w' : World} (h : Qt w w') : Qt w w'.drew := by obtain ⟨m, rfl⟩ := h; exact ⟨m + 1, rfl⟩
theorem Qt.drewN {w w' : World} (h : Qt w w') (n : Nat) : Qt w (w'.drewN n) := by obtain ⟨m, rfl⟩ := h; exact ⟨m + n, World.drewN_drewN ..⟩
theorem Qt.trans {w w' w2 : World} (h : Qt w w') (h2 : Qt w' w2) : Qt w w2 := by obtain ⟨m, rfl⟩ := h; obtain ⟨n, rfl⟩ := h2; exact ⟨m + n, World.drewN_drewN ..⟩
theorem Qt.same {w w' : World} (h : Qt w w') : Same [] w w' := by obtain ⟨m, rfl⟩ := h; exact (Same.refl _ _).drewN m

set_option maxHeartbeats 4000000 in
set_option maxRecDepth 100000 in
theorem s0W_any (v1 v2 : Value) (xs ys : List Int) (h1 : Sq w v1 xs.length 1 (fW xs)) (h2 : Sq w v2 ys.length 1 (fW ys)) : Calls Tryz.prog 56 #[v1, v2] w fun e w' => e = .returned (.bool (decide (xs = ys))) ∧ Qt w w' := by
  obtain ⟨A1, c1, rfl, hx1, hx2, hx3⟩ := h1
  obtain ⟨A2, c2, rfl, hy1, hy2, hy3⟩ := h2
  unfold maxLen at hx2 hy2
  have H1 := Lib.hid hx3
  have H2 := Lib.hid hy3
  clear hx3 hy3
  go_enter Tryz.func56, Tryz.ntmps56
  by_cases hn : xs.length = ys.length
  · have hn' : (xs.length : Int) = ys.length := by omega
    go_wp2_with fail
    go_loopg [5] xs.length (fun gk i wr => ∃ k : Nat, k ≤ xs.length ∧ gk = xs.length - k ∧ i = .int .i64 k ∧ xs.take k = ys.take k ∧ Qt w wr)
    case atStart => exact ⟨0, Nat.zero_le _, rfl, rfl, by simp, Qt.refl _⟩
    case round =>
      obtain ⟨k, hk, rfl, rfl, htk, hs⟩ := hrel
      have HQ := Lib.hid hs
      have HS := Lib.hid hs.same
      have HT := Lib.hid htk
      clear hs htk
      by_cases hlt : k < xs.length
      · obtain ⟨b, o, rfl, hb, hbc⟩ := H1.out (by omega)
        obtain ⟨b', o', rfl, hb', hbc'⟩ := H2.out (by omega)
        have hlt' : k < ys.length := by omega
        have p0 : wr.cell? ⟨b, o + k, none⟩ = some (.int .u64 (xs.getD k 0)) := by
          rw [HS.out.cell hb (by simp)]; have := hbc k 0 hlt (by omega); simpa [fW] using this
        have q0 : wr.cell? ⟨b', o' + k, none⟩ = some (.int .u64 (ys.getD k 0)) := by
          rw [HS.out.cell hb' (by simp)]; have := hbc' k 0 hlt' (by omega); simpa [fW] using this
        obtain ⟨x, hx⟩ : ∃ x, xs.getD k 0 = x := ⟨_, rfl⟩
        obtain ⟨y, hy⟩ : ∃ y, ys.getD k 0 = y := ⟨_, rfl⟩
        rw [hx] at p0
        rw [hy] at q0
        have HX := Lib.hid hx
        have HY := Lib.hid hy
        clear hx hy hbc hbc'
        have hk1 : (k : Int) < 9223372036854775807 := by omega
        by_cases hxy : x = y
        · subst hxy
          go_wp2_with fail
          go_region
          all_goals
            go_wp2_with fail
            go_roundg (xs.length - (k + 1))
            case measure => omega
            case rel => exact ⟨k + 1, by omega, rfl, by go_num, take_eq_step 0 HT.out hlt hlt' (HX.out.trans HY.out.symm), HQ.out.drew⟩
        · have HNE : Hid (xs ≠ ys) := Lib.hid (fun e => hxy (by rw [← HX.out, ← HY.out, e]))
          have hb : (x != y) = true := by simp [hxy]
          clear hxy
          go_wp2_with fail
          go_region
          all_goals
            go_wp2_with fail
            go_ret
            exact ⟨by rw [decide_eq_false HNE.out]; rfl, HQ.out.drew⟩
      · have he : xs = ys := by
          have := HT.out
          rwa [List.take_of_length_le (by omega), List.take_of_length_le (by omega)] at this
        go_wp2_with fail
        go_ret
        exact ⟨by rw [decide_eq_true he]; rfl, HQ.out⟩
  · have hne : xs ≠ ys := fun e => hn (by rw [e])
    have hn2 : ((xs.length : Int) == (ys.length : Int)) = false := by rw [beq_eq_false_iff_ne]; omega
    go_wp2_with fail
    go_ret
    exact ⟨by rw [decide_eq_false hne]; rfl, Qt.refl _⟩

set_option maxHeartbeats 4000000 in
set_option maxRecDepth 100000 in
theorem s0T_any (v1 v2 : Value) (xs ys : List ByteArray) (h1 : Sq w v1 xs.length 1 (fS xs)) (h2 : Sq w v2 ys.length 1 (fS ys)) : Calls Tryz.prog 58 #[v1, v2] w fun e w' => e = .returned (.bool (decide (xs = ys))) ∧ Qt w w' := by
  obtain ⟨A1, c1, rfl, hx1, hx2, hx3⟩ := h1
  obtain ⟨A2, c2, rfl, hy1, hy2, hy3⟩ := h2
  unfold maxLen at hx2 hy2
  have H1 := Lib.hid hx3
  have H2 := Lib.hid hy3
  clear hx3 hy3
  go_enter Tryz.func58, Tryz.ntmps58
  by_cases hn : xs.length = ys.length
  · have hn' : (xs.length : Int) = ys.length := by omega
    go_wp2_with fail
    go_loopg [5] xs.length (fun gk i wr => ∃ k : Nat, k ≤ xs.length ∧ gk = xs.length - k ∧ i = .int .i64 k ∧ xs.take k = ys.take k ∧ Qt w wr)
    case atStart => exact ⟨0, Nat.zero_le _, rfl, rfl, by simp, Qt.refl _⟩
    case round =>
      obtain ⟨k, hk, rfl, rfl, htk, hs⟩ := hrel
      have HQ := Lib.hid hs
      have HS := Lib.hid hs.same
      have HT := Lib.hid htk
      clear hs htk
      by_cases hlt : k < xs.length
      · obtain ⟨b, o, rfl, hb, hbc⟩ := H1.out (by omega)
        obtain ⟨b', o', rfl, hb', hbc'⟩ := H2.out (by omega)
        have hlt' : k < ys.length := by omega
        have p0 : wr.cell? ⟨b, o + k, none⟩ = some (.string (xs.getD k ByteArray.empty)) := by
          rw [HS.out.cell hb (by simp)]; have := hbc k 0 hlt (by omega); simpa [fS] using this
        have q0 : wr.cell? ⟨b', o' + k, none⟩ = some (.string (ys.getD k ByteArray.empty)) := by
          rw [HS.out.cell hb' (by simp)]; have := hbc' k 0 hlt' (by omega); simpa [fS] using this
        obtain ⟨x, hx⟩ : ∃ x, xs.getD k ByteArray.empty = x := ⟨_, rfl⟩
        obtain ⟨y, hy⟩ : ∃ y, ys.getD k ByteArray.empty = y := ⟨_, rfl⟩
        rw [hx] at p0
        rw [hy] at q0
        have HX := Lib.hid hx
        have HY := Lib.hid hy
        clear hx hy hbc hbc'
        have hk1 : (k : Int) < 9223372036854775807 := by omega
        by_cases hxy : x = y
        · subst hxy
          go_wp2_with fail
          go_region
          all_goals
            go_wp2_with fail
            go_roundg (xs.length - (k + 1))
            case measure => omega
            case rel => exact ⟨k + 1, by omega, rfl, by go_num, take_eq_step ByteArray.empty HT.out hlt hlt' (HX.out.trans HY.out.symm), HQ.out.drew⟩
        · have HNE : Hid (xs ≠ ys) := Lib.hid (fun e => hxy (by rw [← HX.out, ← HY.out, e]))
          have hb : (x.toList == y.toList) = false := by
            rw [beq_eq_false_iff_ne]
            intro e
            rw [ByteArray.toList_eq, ByteArray.toList_eq] at e
            exact hxy (ByteArray.ext (Array.toList_inj.1 e))
          clear hxy
          go_wp2_with fail
          go_region
          all_goals
            go_wp2_with fail
            go_ret
            exact ⟨by rw [decide_eq_false HNE.out]; rfl, HQ.out.drew⟩
      · have he : xs = ys := by
          have := HT.out
          rwa [List.take_of_length_le (by omega), List.take_of_length_le (by omega)] at this
        go_wp2_with fail
        go_ret
        exact ⟨by rw [decide_eq_true he]; rfl, HQ.out⟩
  · have hne : xs ≠ ys := fun e => hn (by rw [e])
    have hn2 : ((xs.length : Int) == (ys.length : Int)) = false := by rw [beq_eq_false_iff_ne]; omega
    go_wp2_with fail
    go_ret
    exact ⟨by rw [decide_eq_false hne]; rfl, Qt.refl _⟩

set_option maxHeartbeats 4000000 in
set_option maxRecDepth 100000 in
theorem s0I_any (v1 v2 : Value) (xs ys : List Cd.In) (h1 : Sq w v1 xs.length 2 (fI xs)) (h2 : Sq w v2 ys.length 2 (fI ys)) : Calls Tryz.prog 101 #[v1, v2] w fun e w' => e = .returned (.bool (decide (xs = ys))) ∧ Qt w w' := by
  obtain ⟨A1, c1, rfl, hx1, hx2, hx3⟩ := h1
  obtain ⟨A2, c2, rfl, hy1, hy2, hy3⟩ := h2
  unfold maxLen at hx2 hy2
  have H1 := Lib.hid hx3
  have H2 := Lib.hid hy3
  clear hx3 hy3
  go_enter Tryz.func101, Tryz.ntmps101
  by_cases hn : xs.length = ys.length
  · have hn' : (xs.length : Int) = ys.length := by omega
    go_wp2_with fail
    go_loopg [5] xs.length (fun gk i wr => ∃ k : Nat, k ≤ xs.length ∧ gk = xs.length - k ∧ i = .int .i64 k ∧ xs.take k = ys.take k ∧ Qt w wr)
    case atStart => exact ⟨0, Nat.zero_le _, rfl, rfl, by simp, Qt.refl _⟩
    case round =>
      obtain ⟨k, hk, rfl, rfl, htk, hs⟩ := hrel
      have HQ := Lib.hid hs
      have HS := Lib.hid hs.same
      have HT := Lib.hid htk
      clear hs htk
      by_cases hlt : k < xs.length
      · obtain ⟨b, o, rfl, hb, hbc⟩ := H1.out (by omega)
        obtain ⟨b', o', rfl, hb', hbc'⟩ := H2.out (by omega)
        have hlt' : k < ys.length := by omega
        have p0 : wr.cell? ⟨b, o + k * 2, none⟩ = some (.int .u8 (xs.getD k ⟨0, 0⟩).op) := by
          rw [HS.out.cell hb (by simp)]; exact hbc k 0 hlt (by omega)
        have p1 : wr.cell? ⟨b, o + k * 2 + 1, none⟩ = some (.int .i64 (xs.getD k ⟨0, 0⟩).a) := by
          rw [HS.out.cell hb (by simp)]; exact hbc k 1 hlt (by omega)
        have q0 : wr.cell? ⟨b', o' + k * 2, none⟩ = some (.int .u8 (ys.getD k ⟨0, 0⟩).op) := by
          rw [HS.out.cell hb' (by simp)]; exact hbc' k 0 hlt' (by omega)
        have q1 : wr.cell? ⟨b', o' + k * 2 + 1, none⟩ = some (.int .i64 (ys.getD k ⟨0, 0⟩).a) := by
          rw [HS.out.cell hb' (by simp)]; exact hbc' k 1 hlt' (by omega)
        obtain ⟨x, hx⟩ : ∃ x, xs.getD k ⟨0, 0⟩ = x := ⟨_, rfl⟩
        obtain ⟨y, hy⟩ : ∃ y, ys.getD k ⟨0, 0⟩ = y := ⟨_, rfl⟩
        rw [hx] at p0 p1
        rw [hy] at q0 q1
        have HX := Lib.hid hx
        have HY := Lib.hid hy
        clear hx hy hbc hbc'
        have hk1 : (k : Int) < 9223372036854775807 := by omega
        by_cases hxy : x = y
        · subst hxy
          go_wp2_with fail
          go_region
          all_goals
            go_wp2_with fail
            go_roundg (xs.length - (k + 1))
            case measure => omega
            case rel => exact ⟨k + 1, by omega, rfl, by go_num, take_eq_step ⟨0, 0⟩ HT.out hlt hlt' (HX.out.trans HY.out.symm), HQ.out.drew⟩
        · have HNE : Hid (xs ≠ ys) := Lib.hid (fun e => hxy (by rw [← HX.out, ← HY.out, e]))
          obtain ⟨xo, xa⟩ := x
          obtain ⟨yo, ya⟩ := y
          by_cases h1 : xo = yo
          · subst h1
            have h2 : ¬ xa = ya := fun e => hxy (by rw [e])
            clear hxy
            go_wp2_with fail
            go_region
            all_goals
              go_wp2_with fail
              go_ret
              exact ⟨by rw [decide_eq_false HNE.out]; rfl, HQ.out.drew⟩
          · clear hxy
            go_wp2_with fail
            go_region
            all_goals
              go_wp2_with fail
              go_ret
              exact ⟨by rw [decide_eq_false HNE.out]; rfl, HQ.out.drew⟩
      · have he : xs = ys := by
          have := HT.out
          rwa [List.take_of_length_le (by omega), List.take_of_length_le (by omega)] at this
        go_wp2_with fail
        go_ret
        exact ⟨by rw [decide_eq_true he]; rfl, HQ.out⟩
  · have hne : xs ≠ ys := fun e => hn (by rw [e])
    have hn2 : ((xs.length : Int) == (ys.length : Int)) = false := by rw [beq_eq_false_iff_ne]; omega
    go_wp2_with fail
    go_ret
    exact ⟨by rw [decide_eq_false hne]; rfl, Qt.refl _⟩
end Ck
end Go.Proofs.YticaipedpcmhfaaGreatDoor

/- Layer 0, the document's comparisons: SameProcs, SameCode. -/
namespace Go.Proofs.YticaipedpcmhfaaGreatDoor
open Go.RowKit Hp
namespace Ck
variable {w w' : World}

set_option maxHeartbeats 4000000 in
set_option maxRecDepth 100000 in
theorem s0P_any (v1 v2 : Value) (xs ys : List Cd.Pr) (h1 : RPs w v1 xs) (h2 : RPs w v2 ys) : Calls Tryz.prog 57 #[v1, v2] w fun e w' => e = .returned (.bool (decide (xs = ys))) ∧ Qt w w' := by
  obtain ⟨kx, ⟨A1, c1, rfl, hx1, hx2, hx3⟩, hkx⟩ := h1
  obtain ⟨ky, ⟨A2, c2, rfl, hy1, hy2, hy3⟩, hky⟩ := h2
  unfold maxLen at hx2 hy2
  have H1 := Lib.hid hx3
  have H2 := Lib.hid hy3
  have HK1 := Lib.hid hkx
  have HK2 := Lib.hid hky
  clear hx3 hy3 hkx hky
  go_enter Tryz.func57, Tryz.ntmps57
  by_cases hn : xs.length = ys.length
  · have hn' : (xs.length : Int) = ys.length := by omega
    go_wp2_with fail
    go_loopg [5] xs.length (fun gk i wr => ∃ k : Nat, k ≤ xs.length ∧ gk = xs.length - k ∧ i = .int .i64 k ∧ xs.take k = ys.take k ∧ Qt w wr)
    case atStart => exact ⟨0, Nat.zero_le _, rfl, rfl, by simp, Qt.refl _⟩
    case round =>
      obtain ⟨k, hk, rfl, rfl, htk, hs⟩ := hrel
      have HQ := Lib.hid hs
      have HS := Lib.hid hs.same
      have HT := Lib.hid htk
      clear hs htk
      by_cases hlt : k < xs.length
      · obtain ⟨b, o, rfl, hb, hbc⟩ := H1.out (by omega)
        obtain ⟨b', o', rfl, hb', hbc'⟩ := H2.out (by omega)
        have hlt' : k < ys.length := by omega
        obtain ⟨x, hx⟩ : ∃ x, xs.getD k ⟨0, []⟩ = x := ⟨_, rfl⟩
        obtain ⟨y, hy⟩ : ∃ y, ys.getD k ⟨0, []⟩ = y := ⟨_, rfl⟩
        have hr1 := HK1.out k hlt
        have hr2 := HK2.out k hlt'
        obtain ⟨u, hu⟩ : ∃ u, kx k = u := ⟨_, rfl⟩
        obtain ⟨v, hv⟩ : ∃ v, ky k = v := ⟨_, rfl⟩
        rw [hx, hu] at hr1
        rw [hy, hv] at hr2
        have p0 : wr.cell? ⟨b, o + k * 2, none⟩ = some (.int .i64 x.params) := by
          rw [HS.out.cell hb (by simp), ← hx]; exact hbc k 0 hlt (by omega)
        have p1 : wr.cell? ⟨b, o + k * 2 + 1, none⟩ = some u := by
          rw [HS.out.cell hb (by simp), ← hu]; exact hbc k 1 hlt (by omega)
        have q0 : wr.cell? ⟨b', o' + k * 2, none⟩ = some (.int .i64 y.params) := by
          rw [HS.out.cell hb' (by simp), ← hy]; exact hbc' k 0 hlt' (by omega)
        have q1 : wr.cell? ⟨b', o' + k * 2 + 1, none⟩ = some v := by
          rw [HS.out.cell hb' (by simp), ← hv]; exact hbc' k 1 hlt' (by omega)
        obtain ⟨U, cu, hue, _⟩ := hr1.form
        obtain ⟨V, cv, hve, _⟩ := hr2.form
        have HR1 := Lib.hid hr1
        have HR2 := Lib.hid hr2
        have HX := Lib.hid hx
        have HY := Lib.hid hy
        have hk1 : (k : Int) < 9223372036854775807 := by omega
        clear hx hy hu hv hr1 hr2 hbc hbc'
        subst hue hve
        have HC : Hid (∀ W, Same [] w W → Calls Tryz.prog 101 #[.slice U x.code.length cu, .slice V y.code.length cv] W fun e w' => e = .returned (.bool (decide (x.code = y.code))) ∧ ∃ m, w' = W.drewN m) := Lib.hid (fun W hs => s0I_any _ _ _ _ (HR1.out.frame hs) (HR2.out.frame hs))
        by_cases hp : x.params = y.params
        · have hpb : (x.params == y.params) = true := by rw [hp]; simp
          obtain ⟨db, hdb⟩ : ∃ d, d = decide (x.code = y.code) := ⟨_, rfl⟩
          have HC2 : Hid (∀ W, Same [] w W → Calls Tryz.prog 101 #[.slice U x.code.length cu, .slice V y.code.length cv] W fun e w' => e = .returned (.bool db) ∧ ∃ m, w' = W.drewN m) := Lib.hid (by rw [hdb]; exact HC.out)
          have HDB := Lib.hid hdb
          have HP := Lib.hid hp
          rw [← hp] at q0
          clear HC hdb hp hpb
          cases db
          · have HNE : Hid (xs ≠ ys) := Lib.hid (fun e => by
              have h1 := HX.out
              rw [e, HY.out] at h1
              have := HDB.out
              rw [h1] at this
              simp at this)
            go_wp2_with fail
            go_quiet ((go_at_call 101; exact Calls.quiet_of (HC2.out _ (by repeat (first | exact HS.out | refine Same.drew ?_ | refine Same.drewN ?_ _)))))
            all_goals
              go_wp2_with fail
              go_ret
              exact ⟨by rw [decide_eq_false HNE.out]; rfl, by repeat (first | exact HQ.out | refine Qt.drew ?_ | refine Qt.drewN ?_ _)⟩
          · have HE : Hid (x = y) := Lib.hid (by
              have h1 := HP.out
              have h2 := of_decide_eq_true HDB.out.symm
              obtain ⟨xa, xb⟩ := x
              obtain ⟨ya, yb⟩ := y
              simp only at h1 h2
              rw [h1, h2])
            go_wp2_with fail
            go_quiet ((go_at_call 101; exact Calls.quiet_of (HC2.out _ (by repeat (first | exact HS.out | refine Same.drew ?_ | refine Same.drewN ?_ _)))))
            all_goals
              go_wp2_with fail
              go_roundg (xs.length - (k + 1))
              case measure => omega
              case rel => exact ⟨k + 1, by omega, rfl, by go_num, take_eq_step ⟨0, []⟩ HT.out hlt hlt' (HX.out.trans (HE.out.trans HY.out.symm)), by repeat (first | exact HQ.out | refine Qt.drew ?_ | refine Qt.drewN ?_ _)⟩
        · have HNE : Hid (xs ≠ ys) := Lib.hid (fun e => hp (by rw [← HX.out, ← HY.out, e]))
          have hpb : (x.params != y.params) = true := by simp [hp]
          clear hp HC
          go_wp2_with fail
          go_quiet (fail)
          all_goals
            go_wp2_with fail
            go_ret
            exact ⟨by rw [decide_eq_false HNE.out]; rfl, by repeat (first | exact HQ.out | refine Qt.drew ?_ | refine Qt.drewN ?_ _)⟩
      · have he : xs = ys := by
          have := HT.out
          rwa [List.take_of_length_le (by omega), List.take_of_length_le (by omega)] at this
        go_wp2_with fail
        go_ret
        exact ⟨by rw [decide_eq_true he]; rfl, HQ.out⟩
  · have hne : xs ≠ ys := fun e => hn (by rw [e])
    have hn2 : ((xs.length : Int) == (ys.length : Int)) = false := by rw [beq_eq_false_iff_ne]; omega
    go_wp2_with fail
    go_ret
    exact ⟨by rw [decide_eq_false hne]; rfl, Qt.refl _⟩

set_option maxHeartbeats 4000000 in
set_option maxRecDepth 100000 in
theorem s0C_any (v1 v2 : Value) (c d : Cd.Co) (h1 : RCo w v1 c) (h2 : RCo w v2 d) : Calls Tryz.prog 19 #[v1, v2] w fun e w' => e = .returned (.bool (decide (c = d))) ∧ Same [] w w' := by
  obtain ⟨cv1, pv1, gv1, rfl, hr1⟩ := h1
  obtain ⟨cv2, pv2, gv2, rfl, hr2⟩ := h2
  have HR1 := Lib.hid hr1
  have HR2 := Lib.hid hr2
  obtain ⟨A1, a1, e1, _⟩ := hr1.consts
  obtain ⟨kv1, ⟨A2, a2, e2, _⟩, _⟩ := hr1.procs
  obtain ⟨A3, a3, e3, _⟩ := hr1.globals
  obtain ⟨B1, b1, e4, _⟩ := hr2.consts
  obtain ⟨kv2, ⟨B2, b2, e5, _⟩, _⟩ := hr2.procs
  obtain ⟨B3, b3, e6, _⟩ := hr2.globals
  subst e1 e2 e3 e4 e5 e6
  have HB : Hid (∀ W, Same [] ((w.alloc (.cells #[.slice A1 c.consts.length a1, .slice A2 c.procs.length a2, .slice A3 c.globals.length a3] 26)).alloc (.cells #[.slice B1 d.consts.length b1, .slice B2 d.procs.length b2, .slice B3 d.globals.length b3] 26)) W → Blk W w.heap.size 26 [.slice A1 c.consts.length a1, .slice A2 c.procs.length a2, .slice A3 c.globals.length a3] ∧ Blk W (w.heap.size + 1) 26 [.slice B1 d.consts.length b1, .slice B2 d.procs.length b2, .slice B3 d.globals.length b3] ∧ Same [] w W) := Lib.hid (fun W hs => by
    have h1 := (Blk.new w 26 [.slice A1 c.consts.length a1, .slice A2 c.procs.length a2, .slice A3 c.globals.length a3]).alloc (.cells #[.slice B1 d.consts.length b1, .slice B2 d.procs.length b2, .slice B3 d.globals.length b3] 26)
    have h2 := Blk.new (w.alloc (.cells #[.slice A1 c.consts.length a1, .slice A2 c.procs.length a2, .slice A3 c.globals.length a3] 26)) 26 [.slice B1 d.consts.length b1, .slice B2 d.procs.length b2, .slice B3 d.globals.length b3]
    have e : (w.alloc (.cells #[.slice A1 c.consts.length a1, .slice A2 c.procs.length a2, .slice A3 c.globals.length a3] 26)).heap.size = w.heap.size + 1 := by simp
    rw [e] at h2
    exact ⟨h1.frame hs (by simp), h2.frame hs (by simp), (((Same.refl [] w).alloc _).alloc _).trans hs⟩)
  clear hr1 hr2
  go_enter Tryz.func19, Tryz.ntmps19
  have hbig : decide (c = d) = (decide (c.consts = d.consts) && decide (c.globals = d.globals) && decide (c.procs = d.procs)) := by
    obtain ⟨x1, x2, x3⟩ := c
    obtain ⟨y1, y2, y3⟩ := d
    by_cases h : Cd.Co.mk x1 x2 x3 = Cd.Co.mk y1 y2 y3
    · rw [decide_eq_true h]
      injection h with h1 h2 h3
      subst h1 h2 h3
      simp
    · rw [decide_eq_false h]
      symm
      rw [← Bool.not_eq_true]
      intro h0
      simp only [Bool.and_eq_true, decide_eq_true_eq] at h0
      exact h (by rw [h0.1.1, h0.1.2, h0.2])
  have HBIG := Lib.hid hbig
  clear hbig
  go_wp2_with fail
  refine (s0W_any _ _ c.consts d.consts (HR1.out.frame (((Same.refl _ _).alloc _).alloc _)).consts (HR2.out.frame (((Same.refl _ _).alloc _).alloc _)).consts).mono ?_
  rintro e w2 ⟨rfl, hs2⟩
  have hs2 := hs2.same
  obtain ⟨q1, q2, q3⟩ := HB.out w2 hs2
  have p0 := q1.cell 0
  have p1 := q1.cell 1
  have p2 := q1.cell 2
  have pz := q1.lt
  have r0 := q2.cell 0
  have r1 := q2.cell 1
  have r2 := q2.cell 2
  have rz := q2.lt
  have HS2 := Lib.hid hs2
  have HQ2 := Lib.hid q3
  clear q1 q2 q3 hs2
  by_cases hc : c.consts = d.consts
  · rw [decide_eq_true hc]
    have HC := Lib.hid hc
    clear hc
    go_wp2_with fail
    refine (s0P_any _ _ c.procs d.procs (HR1.out.frame HQ2.out).procs (HR2.out.frame HQ2.out).procs).mono ?_
    rintro e w3 ⟨rfl, hs3⟩
    have hs3 := hs3.same
    obtain ⟨q1, q2, q3⟩ := HB.out w3 (HS2.out.trans hs3)
    have p0 := q1.cell 0
    have p1 := q1.cell 1
    have p2 := q1.cell 2
    have pz := q1.lt
    have r0 := q2.cell 0
    have r1 := q2.cell 1
    have r2 := q2.cell 2
    have rz := q2.lt
    have HQ3 := Lib.hid q3
    clear q1 q2 q3 hs3
    by_cases hg : c.procs = d.procs
    · rw [decide_eq_true hg]
      have HG := Lib.hid hg
      clear hg
      go_wp2_with fail
      refine (s0T_any _ _ c.globals d.globals (HR1.out.frame HQ3.out).globals (HR2.out.frame HQ3.out).globals).mono ?_
      rintro e w4 ⟨rfl, hs4⟩
      have hs4 := hs4.same
      have HQ4 := Lib.hid (HQ3.out.trans hs4)
      obtain ⟨x, hx⟩ : ∃ x, decide (c.globals = d.globals) = x := ⟨_, rfl⟩
      rw [hx]
      have HX := Lib.hid hx
      clear hx hs4
      go_wp2_with fail
      go_ret
      exact ⟨by rw [HBIG.out, decide_eq_true HC.out, decide_eq_true HG.out, HX.out]; cases x <;> rfl, HQ4.out⟩
    · rw [decide_eq_false hg]
      have HG := Lib.hid hg
      clear hg
      go_wp2_with fail
      go_ret
      exact ⟨by rw [HBIG.out, decide_eq_true HC.out, decide_eq_false HG.out, Bool.and_false]; rfl, HQ3.out⟩
  · rw [decide_eq_false hc]
    have HC := Lib.hid hc
    clear hc
    go_wp2_with fail
    go_ret
    exact ⟨by rw [HBIG.out, decide_eq_false HC.out]; rfl, HQ2.out⟩
end Ck
end Go.Proofs.YticaipedpcmhfaaGreatDoor
