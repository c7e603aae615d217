/- Layer 8, package code: slices.Equal at words, at instructions. -/
import Derived.Test.YticaipedpcmhfaaGreatDoorCkV
import Derived.Test.YticaipedpcmhfaaGreatDoorCkT1
import Derived.Deep.LoopGhost
import Derived.Test.YticaipedpcmhfaaGreatDoorCkW2
namespace Go.Proofs.YticaipedpcmhfaaGreatDoor
open Go.RowKit Hp
deriving instance DecidableEq for Cd.In
deriving instance DecidableEq for Cd.Pr
deriving instance DecidableEq for Cd.Co
namespace Ck
variable {w w' : World}

theorem take_eq_step {α : Type} {xs ys : List α} {k : Nat} (d : α) (h : xs.take k = ys.take k) (hx : k < xs.length) (hy : k < ys.length) (he : xs.getD k d = ys.getD k d) : xs.take (k + 1) = ys.take (k + 1) := by
  rw [List.getD, List.getD, List.getElem?_eq_getElem hx, List.getElem?_eq_getElem hy] at he
  have he' : xs[k] = ys[k] := he
  rw [List.take_succ_eq_append_getElem hx, List.take_succ_eq_append_getElem hy, h, he']

set_option maxHeartbeats 4000000 in
set_option maxRecDepth 100000 in
theorem eqW_any (v1 v2 : Value) (xs ys : List Int) (h1 : Sq w v1 xs.length 1 (fW xs)) (h2 : Sq w v2 ys.length 1 (fW ys)) : Calls Tryz.prog 79 #[v1, v2] w fun e w' => e = .returned (.bool (decide (xs = ys))) ∧ Same [] w w' := by
  obtain ⟨A1, c1, rfl, hx1, hx2, hx3⟩ := h1
  obtain ⟨A2, c2, rfl, hy1, hy2, hy3⟩ := h2
  unfold maxLen at hx2 hy2
  have H1 := Lib.hid hx3
  have H2 := Lib.hid hy3
  clear hx3 hy3
  go_enter Tryz.func79, Tryz.ntmps79
  by_cases hn : xs.length = ys.length
  · have hn' : (xs.length : Int) = ys.length := by omega
    go_wp2_with fail
    go_loopg [5, 13] xs.length (fun gk _ i wr => ∃ k : Nat, k ≤ xs.length ∧ gk = xs.length - k ∧ i = .int .i64 k ∧ xs.take k = ys.take k ∧ Same [] w wr)
    case atStart => exact ⟨0, Nat.zero_le _, rfl, rfl, by simp, Same.refl _ _⟩
    case round =>
      obtain ⟨k, hk, rfl, rfl, htk, hs⟩ := hrel
      have HS := Lib.hid hs
      have HT := Lib.hid htk
      clear hs htk
      by_cases hlt : k < xs.length
      · obtain ⟨b, o, rfl, hb, hbc⟩ := H1.out (by omega)
        obtain ⟨b', o', rfl, hb', hbc'⟩ := H2.out (by omega)
        have hlt' : k < ys.length := by omega
        have p1 : wr.cell? ⟨b, o + k, none⟩ = some (.int .u64 (xs.getD k 0)) := by
          rw [HS.out.cell hb (by simp)]; have := hbc k 0 hlt (by omega); simpa [fW] using this
        have p2 : wr.cell? ⟨b', o' + k, none⟩ = some (.int .u64 (ys.getD k 0)) := by
          rw [HS.out.cell hb' (by simp)]; have := hbc' k 0 hlt' (by omega); simpa [fW] using this
        obtain ⟨x, hx⟩ : ∃ x, xs.getD k 0 = x := ⟨_, rfl⟩
        obtain ⟨y, hy⟩ : ∃ y, ys.getD k 0 = y := ⟨_, rfl⟩
        rw [hx] at p1
        rw [hy] at p2
        have HX := Lib.hid hx
        have HY := Lib.hid hy
        clear hx hy hbc hbc'
        have hk1 : (k : Int) < 9223372036854775807 := by omega
        by_cases hxy : x = y
        · subst hxy
          go_wp2_with fail
          go_region
          all_goals
            go_wp2_with fail
            go_roundg (xs.length - (k + 1))
            case measure => omega
            case rel => exact ⟨k + 1, by omega, rfl, by go_num, take_eq_step 0 HT.out hlt hlt' (HX.out.trans HY.out.symm), HS.out.drew⟩
        · have HNE : Hid (xs ≠ ys) := Lib.hid (fun e => hxy (by rw [← HX.out, ← HY.out, e]))
          have hb : (x != y) = true := by simp [hxy]
          clear hxy
          go_wp2_with fail
          go_region
          all_goals
            go_wp2_with fail
            go_ret
            exact ⟨by rw [decide_eq_false HNE.out]; rfl, HS.out.drew⟩
      · have he : xs = ys := by
          have := HT.out
          rwa [List.take_of_length_le (by omega), List.take_of_length_le (by omega)] at this
        go_wp2_with fail
        go_ret
        exact ⟨by rw [decide_eq_true he]; rfl, HS.out⟩
  · have hne : xs ≠ ys := fun e => hn (by rw [e])
    go_wp2_with fail
    go_ret
    exact ⟨by rw [decide_eq_false hne]; rfl, Same.refl _ _⟩
set_option maxHeartbeats 4000000 in
set_option maxRecDepth 100000 in
theorem eqI_any (v1 v2 : Value) (xs ys : List Cd.In) (h1 : Sq w v1 xs.length 2 (fI xs)) (h2 : Sq w v2 ys.length 2 (fI ys)) : Calls Tryz.prog 83 #[v1, v2] w fun e w' => e = .returned (.bool (decide (xs = ys))) ∧ Same [] w w' := by
  obtain ⟨A1, c1, rfl, hx1, hx2, hx3⟩ := h1
  obtain ⟨A2, c2, rfl, hy1, hy2, hy3⟩ := h2
  unfold maxLen at hx2 hy2
  have H1 := Lib.hid hx3
  have H2 := Lib.hid hy3
  clear hx3 hy3
  go_enter Tryz.func83, Tryz.ntmps83
  by_cases hn : xs.length = ys.length
  · have hn' : (xs.length : Int) = ys.length := by omega
    go_wp2_with fail
    go_loopg [5, 13] xs.length (fun gk _ i wr => ∃ k : Nat, k ≤ xs.length ∧ gk = xs.length - k ∧ i = .int .i64 k ∧ xs.take k = ys.take k ∧ Same [] w wr)
    case atStart => exact ⟨0, Nat.zero_le _, rfl, rfl, by simp, Same.refl _ _⟩
    case round =>
      obtain ⟨k, hk, rfl, rfl, htk, hs⟩ := hrel
      have HS := Lib.hid hs
      have HT := Lib.hid htk
      clear hs htk
      by_cases hlt : k < xs.length
      · obtain ⟨b, o, rfl, hb, hbc⟩ := H1.out (by omega)
        obtain ⟨b', o', rfl, hb', hbc'⟩ := H2.out (by omega)
        have hlt' : k < ys.length := by omega
        obtain ⟨x, hx⟩ : ∃ x, xs.getD k ⟨0, 0⟩ = x := ⟨_, rfl⟩
        obtain ⟨y, hy⟩ : ∃ y, ys.getD k ⟨0, 0⟩ = y := ⟨_, rfl⟩
        have p1 : wr.cell? ⟨b, o + k * 2, none⟩ = some (.int .u8 x.op) := by
          rw [HS.out.cell hb (by simp)]; have := hbc k 0 hlt (by omega); rw [fI, hx] at this; exact this
        have p1' : wr.cell? ⟨b, o + k * 2 + 1, none⟩ = some (.int .i64 x.a) := by
          rw [HS.out.cell hb (by simp)]; have := hbc k 1 hlt (by omega); rw [fI, hx] at this; exact this
        have p2 : wr.cell? ⟨b', o' + k * 2, none⟩ = some (.int .u8 y.op) := by
          rw [HS.out.cell hb' (by simp)]; have := hbc' k 0 hlt' (by omega); rw [fI, hy] at this; exact this
        have p2' : wr.cell? ⟨b', o' + k * 2 + 1, none⟩ = some (.int .i64 y.a) := by
          rw [HS.out.cell hb' (by simp)]; have := hbc' k 1 hlt' (by omega); rw [fI, hy] at this; exact this
        have HX := Lib.hid hx
        have HY := Lib.hid hy
        clear hx hy hbc hbc'
        have hk1 : (k : Int) < 9223372036854775807 := by omega
        by_cases hxy : x = y
        · subst hxy
          go_wp2_with fail
          go_region
          all_goals
            go_wp2_with fail
            go_roundg (xs.length - (k + 1))
            case measure => omega
            case rel => exact ⟨k + 1, by omega, rfl, by go_num, take_eq_step ⟨0, 0⟩ HT.out hlt hlt' (HX.out.trans HY.out.symm), HS.out.drew⟩
        · have HNE : Hid (xs ≠ ys) := Lib.hid (fun e => hxy (by rw [← HX.out, ← HY.out, e]))
          obtain ⟨xo, xa⟩ := x
          obtain ⟨yo, ya⟩ := y
          by_cases ho : xo = yo
          · subst ho
            have hb : ¬ xa = ya := fun e => hxy (by rw [e])
            clear hxy
            go_wp2_with fail
            go_region
            all_goals
              go_wp2_with fail
              go_ret
              exact ⟨by rw [decide_eq_false HNE.out]; rfl, HS.out.drew⟩
          · clear hxy
            go_wp2_with fail
            go_region
            all_goals
              go_wp2_with fail
              go_ret
              exact ⟨by rw [decide_eq_false HNE.out]; rfl, HS.out.drew⟩
      · have he : xs = ys := by
          have := HT.out
          rwa [List.take_of_length_le (by omega), List.take_of_length_le (by omega)] at this
        go_wp2_with fail
        go_ret
        exact ⟨by rw [decide_eq_true he]; rfl, HS.out⟩
  · have hne : xs ≠ ys := fun e => hn (by rw [e])
    go_wp2_with fail
    go_ret
    exact ⟨by rw [decide_eq_false hne]; rfl, Same.refl _ _⟩
end Ck
end Go.Proofs.YticaipedpcmhfaaGreatDoor
/- Layer 8, package code: slices.Equal at strings; a procedure's comparison. -/
namespace Go.Proofs.YticaipedpcmhfaaGreatDoor
open Go.RowKit Hp
namespace Ck
variable {w w' : World}

theorem eqS_any (v1 v2 : Value) (xs ys : List ByteArray) (h1 : Sq w v1 xs.length 1 (fS xs)) (h2 : Sq w v2 ys.length 1 (fS ys)) : Calls Tryz.prog 80 #[v1, v2] w fun e w' => e = .returned (.bool (decide (xs = ys))) ∧ Same [] w w' := by
  obtain ⟨A1, c1, rfl, hx1, hx2, hx3⟩ := h1
  obtain ⟨A2, c2, rfl, hy1, hy2, hy3⟩ := h2
  unfold maxLen at hx2 hy2
  by_cases hn : xs.length = ys.length
  · by_cases h0 : 0 < xs.length
    · obtain ⟨b, o, rfl, hb, hbc⟩ := hx3 h0
      obtain ⟨b', o', rfl, hb', hbc'⟩ := hy3 (by omega)
      refine (Tryz.slices_Equal_string b o xs.length c1 b' o' ys.length c2 xs ys w (Nat.le_refl _) (Nat.le_refl _) (by omega) (by omega) (fun j hj => ?_) (fun j hj => ?_)).mono ?_
      · have := hbc j 0 hj (by omega); simpa [fS] using this
      · have := hbc' j 0 hj (by omega); simpa [fS] using this
      · rintro e w' ⟨rfl, q, rfl⟩
        exact ⟨by rw [List.take_length, List.take_length], (Same.refl _ _).drewN q⟩
    · have e1 : xs = [] := List.eq_nil_of_length_eq_zero (by omega)
      have e2 : ys = [] := List.eq_nil_of_length_eq_zero (by omega)
      subst e1 e2
      refine (Tryz.slices_Equal_string_empty A1 A2 c1 0 c2 w (by omega)).mono ?_
      rintro e w' ⟨rfl, rfl⟩
      exact ⟨rfl, Same.refl _ _⟩
  · have hne : xs ≠ ys := fun e => hn (by rw [e])
    refine (Tryz.slices_Equal_string_lens A1 A2 xs.length c1 ys.length c2 w hn).mono ?_
    rintro e w' ⟨rfl, rfl⟩
    exact ⟨by rw [decide_eq_false hne], Same.refl _ _⟩

set_option maxHeartbeats 4000000 in
set_option maxRecDepth 100000 in
theorem same1_any (v1 v2 : Value) (p q : Cd.Pr) (h1 : RPr w v1 p) (h2 : RPr w v2 q) : Calls Tryz.prog 82 #[v1, v2] w fun e w' => e = .returned (.bool (decide (p = q))) ∧ Same [] w w' := by
  obtain ⟨k1, rfl, hk1⟩ := h1
  obtain ⟨k2, rfl, hk2⟩ := h2
  obtain ⟨A1, C1, e1, f1, f2, f3⟩ := hk1
  obtain ⟨A2, C2, e2, f4, f5, f6⟩ := hk2
  subst e1 e2
  have HK1 : Hid (∀ W, Same [] w W → RIs W (.slice A1 p.code.length C1) p.code) := Lib.hid (fun W hs => Sq.frame ⟨A1, C1, rfl, f1, f2, f3⟩ hs)
  have HK2 : Hid (∀ W, Same [] w W → RIs W (.slice A2 q.code.length C2) q.code) := Lib.hid (fun W hs => Sq.frame ⟨A2, C2, rfl, f4, f5, f6⟩ hs)
  clear f1 f2 f3 f4 f5 f6
  go_enter Tryz.func82, Tryz.ntmps82
  by_cases hp : p.params = q.params
  · obtain ⟨n, hn⟩ : ∃ n, p.params = n := ⟨_, rfl⟩
    rw [hn] at hp ⊢
    rw [← hp]
    have HN := Lib.hid (And.intro hn hp)
    clear hn hp
    go_wp2_with fail
    refine (eqI_any _ _ p.code q.code (HK1.out _ (((Same.refl _ _).alloc _).alloc _)) (HK2.out _ (((Same.refl _ _).alloc _).alloc _))).mono ?_
    rintro e w2 ⟨rfl, hs2⟩
    have hx : decide (p = q) = decide (p.code = q.code) := by
      have h1 := HN.out
      obtain ⟨pp, pc⟩ := p
      obtain ⟨qp, qc⟩ := q
      have e1 : pp = qp := h1.1.trans h1.2
      subst e1
      by_cases h : pc = qc
      · subst h; simp
      · rw [decide_eq_false h, decide_eq_false (fun e => h (by injection e))]
    obtain ⟨x, hx'⟩ : ∃ x, decide (p.code = q.code) = x := ⟨_, rfl⟩
    rw [hx']
    have HXX := Lib.hid (hx.trans hx')
    have HS := Lib.hid ((((Same.refl [] w).alloc _).alloc _).trans hs2)
    clear hs2 hx hx'
    go_wp2_with fail
    go_ret
    exact ⟨by rw [HXX.out]; rfl, HS.out⟩
  · have hne : Hid (p ≠ q) := Lib.hid (fun e => hp (by rw [e]))
    have hb : (p.params == q.params) = false := by simp [hp]
    clear hp
    go_wp2_with fail
    go_ret
    exact ⟨by rw [decide_eq_false hne.out]; rfl, ((Same.refl _ _).alloc _).alloc _⟩
end Ck
end Go.Proofs.YticaipedpcmhfaaGreatDoor
