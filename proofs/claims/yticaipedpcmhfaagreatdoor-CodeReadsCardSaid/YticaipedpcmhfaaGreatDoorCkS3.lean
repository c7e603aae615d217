/- Layer 8, package code: slices.Equal at words, at instructions. -/
import Derived.Test.YticaipedpcmhfaaGreatDoorCkV
import Derived.Test.YticaipedpcmhfaaGreatDoorCkT1
import Derived.Deep.LoopGhost
import Derived.Test.YticaipedpcmhfaaGreatDoorCkW2
namespace Go.Proofs.YticaipedpcmhfaaGreatDoor
open Go.RowKit Hp
deriving instance DecidableEq for Cd.In
deriving instance DecidableEq for Cd.Pr
deriving instance DecidableEq for Cd.Co
namespace Ck
variable {w w' : World}

theorem take_eq_step {α : Type} {xs ys : List α} {k : Nat} (d : α) (h : xs.take k = ys.take k) (hx : k < xs.length) (hy : k < ys.length) (he : xs.getD k d = ys.getD k d) : xs.take (k + 1) = ys.take (k + 1) := by
  rw [List.getD, List.getD, List.getElem?_eq_getElem hx, List.getElem?_eq_getElem hy] at he
  have he' : xs[k] = ys[k] := he
  rw [List.take_succ_eq_append_getElem hx, List.take_succ_eq_append_getElem hy, h, he']

set_option maxHeartbeats 4000000 in
set_option maxRecDepth 100000 in
theorem eqW_any (v1 v2 : Value) (xs ys : List Int) (h1 : Sq w v1 xs.length 1 (fW xs)) (h2 : Sq w v2 ys.length 1 (fW ys)) : Calls Tryz.prog 79 #[v1, v2] w fun e w' => e = .returned (.bool (decide (xs = ys))) ∧ Same [] w w' := by
  obtain ⟨A1, c1, rfl, hx1, hx2, hx3⟩ := h1
  obtain ⟨A2, c2, rfl, hy1, hy2, hy3⟩ := h2
  unfold maxLen at hx2 hy2
  have H1 := Lib.hid hx3
  have H2 := Lib.hid hy3
  clear hx3 hy3
  go_enter Tryz.func79, Tryz.ntmps79
  by_cases hn : xs.length = ys.length
  · have hn' : (xs.length : Int) = ys.length := by omega
    go_wp2_with fail
    go_loopg [5, 13] xs.length (fun gk _ i wr => ∃ k : Nat, k ≤ xs.length ∧ gk = xs.length - k ∧ i = .int .i64 k ∧ xs.take k = ys.take k ∧ Same [] w wr)
    case atStart => exact ⟨0, Nat.zero_le _, rfl, rfl, by simp, Same.refl _ _⟩
    case round =>
      obtain ⟨k, hk, rfl, rfl, htk, hs⟩ := hrel
      have HS := Lib.hid hs
      have HT := Lib.hid htk
      clear hs htk
      by_cases hlt : k < xs.length
      · obtain ⟨b, o, rfl, hb, hbc⟩ := H1.out (by omega)
        obtain ⟨b', o', rfl, hb', hbc'⟩ := H2.out (by omega)
        have hlt' : k < ys.length := by omega
        have p1 : wr.cell? ⟨b, o + k, none⟩ = some (.int .u64 (xs.getD k 0)) := by
          rw [HS.out.cell hb (by simp)]; have := hbc k 0 hlt (by omega); simpa [fW] using this
        have p2 : wr.cell? ⟨b', o' + k, none⟩ = some (.int .u64 (ys.getD k 0)) := by
          rw [HS.out.cell hb' (by simp)]; have := hbc' k 0 hlt' (by omega); simpa [fW] using this
        obtain ⟨x, hx⟩ : ∃ x, xs.getD k 0 = x := ⟨_, rfl⟩
        obtain ⟨y, hy⟩ : ∃ y, ys.getD k 0 = y := ⟨_, rfl⟩
        rw [hx] at p1
        rw [hy] at p2
        have HX := Lib.hid hx
        have HY := Lib.hid hy
        clear hx hy hbc hbc'
        have hk1 : (k : Int) < 9223372036854775807 := by omega
        by_cases hxy : x = y
        · subst hxy
          go_wp2_with fail
          go_region
          all_goals
            go_wp2_with fail
            go_roundg (xs.length - (k + 1))
            case measure => omega
            case rel => exact ⟨k + 1, by omega, rfl, by go_num, take_eq_step 0 HT.out hlt hlt' (HX.out.trans HY.out.symm), HS.out.drew⟩
        · have HNE : Hid (xs ≠ ys) := Lib.hid (fun e => hxy (by rw [← HX.out, ← HY.out, e]))
          have hb : (x != y) = true := by simp [hxy]
          clear hxy
          go_wp2_with fail
          go_region
          all_goals
            go_wp2_with fail
            go_ret
            exact ⟨by rw [decide_eq_false HNE.out]; rfl, HS.out.drew⟩
      · have he : xs = ys := by
          have := HT.out
          rwa [List.take_of_length_le (by omega), List.take_of_length_le (by omega)] at this
        go_wp2_with fail
        go_ret
        exact ⟨by rw [decide_eq_true he]; rfl, HS.out⟩
  · have hne : xs ≠ ys := fun e => hn (by rw [e])
    go_wp2_with fail
    go_ret
    exact ⟨by rw [decide_eq_false hne]; rfl, Same.refl _ _⟩
set_option maxHeartbeats 4000000 in
set_option maxRecDepth 100000 in
theorem eqI_any (v1 v2 : Value) (xs ys : List Cd.In) (h1 : Sq w v1 xs.length 2 (fI xs)) (h2 : Sq w v2 ys.length 2 (fI ys)) : Calls Tryz.prog 83 #[v1, v2] w fun e w' => e = .returned (.bool (decide (xs = ys))) ∧ Same [] w w' := by
  obtain ⟨A1, c1, rfl, hx1, hx2, hx3⟩ := h1
  obtain ⟨A2, c2, rfl, hy1, hy2, hy3⟩ := h2
  unfold maxLen at hx2 hy2
  have H1 := Lib.hid hx3
  have H2 := Lib.hid hy3
  clear hx3 hy3
  go_enter Tryz.func83, Tryz.ntmps83
  by_cases hn : xs.length = ys.length
  · have hn' : (xs.length : Int) = ys.length := by omega
    go_wp2_with fail
    go_loopg [5, 13] xs.length (fun gk _ i wr => ∃ k : Nat, k ≤ xs.length ∧ gk = xs.length - k ∧ i = .int .i64 k ∧ xs.take k = ys.take k ∧ Same [] w wr)
    case atStart => exact ⟨0, Nat.zero_le _, rfl, rfl, by simp, Same.refl _ _⟩
    case round =>
      obtain ⟨k, hk, rfl, rfl, htk, hs⟩ := hrel
      have HS := Lib.hid hs
      have HT := Lib.hid htk
      clear hs htk
      by_cases hlt : k < xs.length
      · obtain ⟨b, o, rfl, hb, hbc⟩ := H1.out (by omega)
        obtain ⟨b', o', rfl, hb', hbc'⟩ := H2.out (by omega)
        have hlt' : k < ys.length := by omega
        obtain ⟨x, hx⟩ : ∃ x, xs.getD k ⟨0, 0⟩ = x := ⟨_, rfl⟩
        obtain ⟨y, hy⟩ : ∃ y, ys.getD k ⟨0, 0⟩ = y := ⟨_, rfl⟩
        have p1 : wr.cell? ⟨b, o + k * 2, none⟩ = some (.int .u8 x.op) := by
          rw [HS.out.cell hb (by simp)]; have := hbc k 0 hlt (by omega); rw [fI, hx] at this; exact this
        have p1' : wr.cell? ⟨b, o + k * 2 + 1, none⟩ = some (.int .i64 x.a) := by
          rw [HS.out.cell hb (by simp)]; have := hbc k 1 hlt (by omega); rw [fI, hx] at this; exact this
        have p2 : wr.cell? ⟨b', o' + k * 2, none⟩ = some (.int .u8 y.op) := by
          rw [HS.out.cell hb' (by simp)]; have := hbc' k 0 hlt' (by omega); rw [fI, hy] at this; exact this
        have p2' : wr.cell? ⟨b', o' + k * 2 + 1, none⟩ = some (.int .i64 y.a) := by
          rw [HS.out.cell hb' (by simp)]; have := hbc' k 1 hlt' (by omega); rw [fI, hy] at this; exact this
        have HX := Lib.hid hx
        have HY := Lib.hid hy
        clear hx hy hbc hbc'
        have hk1 : (k : Int) < 9223372036854775807 := by omega
        by_cases hxy : x = y
        · subst hxy
          go_wp2_with fail
          go_region
          all_goals
            go_wp2_with fail
            go_roundg (xs.length - (k + 1))
            case measure => omega
            case rel => exact ⟨k + 1, by omega, rfl, by go_num, take_eq_step ⟨0, 0⟩ HT.out hlt hlt' (HX.out.trans HY.out.symm), HS.out.drew⟩
        · have HNE : Hid (xs ≠ ys) := Lib.hid (fun e => hxy (by rw [← HX.out, ← HY.out, e]))
          obtain ⟨xo, xa⟩ := x
          obtain ⟨yo, ya⟩ := y
          by_cases ho : xo = yo
          · subst ho
            have hb : ¬ xa = ya := fun e => hxy (by rw [e])
            clear hxy
            go_wp2_with fail
            go_region
            all_goals
              go_wp2_with fail
              go_ret
              exact ⟨by rw [decide_eq_false HNE.out]; rfl, HS.out.drew⟩
          · clear hxy
            go_wp2_with fail
            go_region
            all_goals
              go_wp2_with fail
              go_ret
              exact ⟨by rw [decide_eq_false HNE.out]; rfl, HS.out.drew⟩
      · have he : xs = ys := by
          have := HT.out
          rwa [List.take_of_length_le (by omega), List.take_of_length_le (by omega)] at this
        go_wp2_with fail
        go_ret
        exact ⟨by rw [decide_eq_true he]; rfl, HS.out⟩
  · have hne : xs ≠ ys := fun e => hn (by rw [e])
    go_wp2_with fail
    go_ret
    exact ⟨by rw [decide_eq_false hne]; rfl, Same.refl _ _⟩
end Ck
end Go.Proofs.YticaipedpcmhfaaGreatDoor
/- Layer 8, package code: slices.Equal at strings; a procedure's comparison. -/
namespace Go.Proofs.YticaipedpcmhfaaGreatDoor
open Go.RowKit Hp
namespace Ck
variable {w w' : World}

theorem eqS_any (v1 v2 : Value) (xs ys : List ByteArray) (h1 : Sq w v1 xs.length 1 (fS xs)) (h2 : Sq w v2 ys.length 1 (fS ys)) : Calls Tryz.prog 80 #[v1, v2] w fun e w' => e = .returned (.bool (decide (xs = ys))) ∧ Same [] w w' := by
  obtain ⟨A1, c1, rfl, hx1, hx2, hx3⟩ := h1
  obtain ⟨A2, c2, rfl, hy1, hy2, hy3⟩ := h2
  unfold maxLen at hx2 hy2
  by_cases hn : xs.length = ys.length
  · by_cases h0 : 0 < xs.length
    · obtain ⟨b, o, rfl, hb, hbc⟩ := hx3 h0
      obtain ⟨b', o', rfl, hb', hbc'⟩ := hy3 (by omega)
      refine (Tryz.slices_Equal_string b o xs.length c1 b' o' ys.length c2 xs ys w (Nat.le_refl _) (Nat.le_refl _) (by omega) (by omega) (fun j hj => ?_) (fun j hj => ?_)).mono ?_
      · have := hbc j 0 hj (by omega); simpa [fS] using this
      · have := hbc' j 0 hj (by omega); simpa [fS] using this
      · rintro e w' ⟨rfl, q, rfl⟩
        exact ⟨by rw [List.take_length, List.take_length], (Same.refl _ _).drewN q⟩
    · have e1 : xs = [] := List.eq_nil_of_length_eq_zero (by omega)
      have e2 : ys = [] := List.eq_nil_of_length_eq_zero (by omega)
      subst e1 e2
      refine (Tryz.slices_Equal_string_empty A1 A2 c1 0 c2 w (by omega)).mono ?_
      rintro e w' ⟨rfl, rfl⟩
      exact ⟨rfl, Same.refl _ _⟩
  · have hne : xs ≠ ys := fun e => hn (by rw [e])
    refine (Tryz.slices_Equal_string_lens A1 A2 xs.length c1 ys.length c2 w hn).mono ?_
    rintro e w' ⟨rfl, rfl⟩
    exact ⟨by rw [decide_eq_false hne], Same.refl _ _⟩

set_option maxHeartbeats 4000000 in
set_option maxRecDepth 100000 in
theorem same1_any (v1 v2 : Value) (p q : Cd.Pr) (h1 : RPr w v1 p) (h2 : RPr w v2 q) : Calls Tryz.prog 82 #[v1, v2] w fun e w' => e = .returned (.bool (decide (p = q))) ∧ Same [] w w' := by
  obtain ⟨k1, rfl, hk1⟩ := h1
  obtain ⟨k2, rfl, hk2⟩ := h2
  obtain ⟨A1, C1, e1, f1, f2, f3⟩ := hk1
  obtain ⟨A2, C2, e2, f4, f5, f6⟩ := hk2
  subst e1 e2
  have HK1 : Hid (∀ W, Same [] w W → RIs W (.slice A1 p.code.length C1) p.code) := Lib.hid (fun W hs => Sq.frame ⟨A1, C1, rfl, f1, f2, f3⟩ hs)
  have HK2 : Hid (∀ W, Same [] w W → RIs W (.slice A2 q.code.length C2) q.code) := Lib.hid (fun W hs => Sq.frame ⟨A2, C2, rfl, f4, f5, f6⟩ hs)
  clear f1 f2 f3 f4 f5 f6
  go_enter Tryz.func82, Tryz.ntmps82
  by_cases hp : p.params = q.params
  · obtain ⟨n, hn⟩ : ∃ n, p.params = n := ⟨_, rfl⟩
    rw [hn] at hp ⊢
    rw [← hp]
    have HN := Lib.hid (And.intro hn hp)
    clear hn hp
    go_wp2_with fail
    refine (eqI_any _ _ p.code q.code (HK1.out _ (((Same.refl _ _).alloc _).alloc _)) (HK2.out _ (((Same.refl _ _).alloc _).alloc _))).mono ?_
    rintro e w2 ⟨rfl, hs2⟩
    have hx : decide (p = q) = decide (p.code = q.code) := by
      have h1 := HN.out
      obtain ⟨pp, pc⟩ := p
      obtain ⟨qp, qc⟩ := q
      have e1 : pp = qp := h1.1.trans h1.2
      subst e1
      by_cases h : pc = qc
      · subst h; simp
      · rw [decide_eq_false h, decide_eq_false (fun e => h (by injection e))]
    obtain ⟨x, hx'⟩ : ∃ x, decide (p.code = q.code) = x := ⟨_, rfl⟩
    rw [hx']
    have HXX := Lib.hid (hx.trans hx')
    have HS := Lib.hid ((((Same.refl [] w).alloc _).alloc _).trans hs2)
    clear hs2 hx hx'
    go_wp2_with fail
    go_ret
    exact ⟨by rw [HXX.out]; rfl, HS.out⟩
  · have hne : Hid (p ≠ q) := Lib.hid (fun e => hp (by rw [e]))
    have hb : (p.params == q.params) = false := by simp [hp]
    clear hp
    go_wp2_with fail
    go_ret
    exact ⟨by rw [decide_eq_false hne.out]; rfl, ((Same.refl _ _).alloc _).alloc _⟩
end Ck
end Go.Proofs.YticaipedpcmhfaaGreatDoor
/- Layer 8, package code: slices.EqualFunc at procedures; Same. -/
namespace Go.Proofs.YticaipedpcmhfaaGreatDoor
open Go.RowKit Hp
namespace Ck
variable {w w' : World}

set_option maxHeartbeats 4000000 in
set_option maxRecDepth 100000 in
theorem eqP_any (v1 v2 : Value) (xs ys : List Cd.Pr) (h1 : RPs w v1 xs) (h2 : RPs w v2 ys) : Calls Tryz.prog 81 #[v1, v2, .func (.func 82) #[] #[]] w fun e w' => e = .returned (.bool (decide (xs = ys))) ∧ Same [] w w' := by
  obtain ⟨kv1, ⟨A1, c1, rfl, hx1, hx2, hx3⟩, hx4⟩ := h1
  obtain ⟨kv2, ⟨A2, c2, rfl, hy1, hy2, hy3⟩, hy4⟩ := h2
  unfold maxLen at hx2 hy2
  have H1 := Lib.hid hx3
  have H2 := Lib.hid hy3
  have H3 := Lib.hid hx4
  have H4 := Lib.hid hy4
  clear hx3 hy3 hx4 hy4
  go_enter Tryz.func81, Tryz.ntmps81
  by_cases hn : xs.length = ys.length
  · have hn' : (xs.length : Int) = ys.length := by omega
    go_wp2_with fail
    go_loopg [7, 17] xs.length (fun gk _ i wr => ∃ k : Nat, k ≤ xs.length ∧ gk = xs.length - k ∧ i = .int .i64 k ∧ xs.take k = ys.take k ∧ Same [] w wr)
    case atStart => exact ⟨0, Nat.zero_le _, rfl, rfl, by simp, Same.refl _ _⟩
    case round =>
      obtain ⟨k, hk, rfl, rfl, htk, hs⟩ := hrel
      have HS := Lib.hid hs
      have HT := Lib.hid htk
      clear hs htk
      by_cases hlt : k < xs.length
      · obtain ⟨b, o, rfl, hb, hbc⟩ := H1.out (by omega)
        obtain ⟨b', o', rfl, hb', hbc'⟩ := H2.out (by omega)
        have hlt' : k < ys.length := by omega
        have hk1 : (k : Int) < 9223372036854775807 := by omega
        have hyk : (k : Int) < ys.length := by omega
        clear hn hn'
        obtain ⟨x, hx⟩ : ∃ x, xs.getD k ⟨0, []⟩ = x := ⟨_, rfl⟩
        obtain ⟨y, hy⟩ : ∃ y, ys.getD k ⟨0, []⟩ = y := ⟨_, rfl⟩
        have hr1 := H3.out k hlt
        have hr2 := H4.out k hlt'
        rw [hx] at hr1
        rw [hy] at hr2
        obtain ⟨kx, hkx⟩ : ∃ kx, kv1 k = kx := ⟨_, rfl⟩
        obtain ⟨ky, hky⟩ : ∃ ky, kv2 k = ky := ⟨_, rfl⟩
        rw [hkx] at hr1
        rw [hky] at hr2
        have p1 : wr.cell? ⟨b, o + k * 2, none⟩ = some (.int .i64 x.params) := by
          rw [HS.out.cell hb (by simp)]; have := hbc k 0 hlt (by omega); rw [fP, hx] at this; exact this
        have p1' : wr.cell? ⟨b, o + k * 2 + 1, none⟩ = some kx := by
          rw [HS.out.cell hb (by simp)]; have := hbc k 1 hlt (by omega); rw [fP, hkx] at this; exact this
        have p2 : wr.cell? ⟨b', o' + k * 2, none⟩ = some (.int .i64 y.params) := by
          rw [HS.out.cell hb' (by simp)]; have := hbc' k 0 hlt' (by omega); rw [fP, hy] at this; exact this
        have p2' : wr.cell? ⟨b', o' + k * 2 + 1, none⟩ = some ky := by
          rw [HS.out.cell hb' (by simp)]; have := hbc' k 1 hlt' (by omega); rw [fP, hky] at this; exact this
        have hbz := Nat.lt_of_lt_of_le hb HS.out.size
        have hbz' := Nat.lt_of_lt_of_le hb' HS.out.size
        have HR1 : Hid (RIs wr kx x.code) := Lib.hid (hr1.frame HS.out)
        have HR2 : Hid (RIs wr ky y.code) := Lib.hid (hr2.frame HS.out)
        obtain ⟨B1, D1, hd1, _⟩ := hr1
        obtain ⟨B2, D2, hd2, _⟩ := hr2
        subst hd1 hd2
        have HX := Lib.hid hx
        have HY := Lib.hid hy
        clear hx hy hbc hbc' hkx hky
        go_wp2_with fail
        refine (same1_any _ _ x y ⟨_, rfl, HR1.out.frame (((Same.refl _ _).alloc _).alloc _)⟩ ⟨_, rfl, HR2.out.frame (((Same.refl _ _).alloc _).alloc _)⟩).mono ?_
        rintro e w2 ⟨rfl, hs2⟩
        have HS2 := Lib.hid (HS.out.trans ((((Same.refl [] wr).alloc _).alloc _).trans hs2))
        clear hs2
        by_cases hxy : x = y
        · rw [decide_eq_true hxy]
          have HE := Lib.hid hxy
          clear hxy
          go_wp2_with fail
          go_roundg (xs.length - (k + 1))
          case measure => omega
          case rel => exact ⟨k + 1, by omega, rfl, by go_num, take_eq_step ⟨0, []⟩ HT.out hlt hlt' (HX.out.trans (HE.out.trans HY.out.symm)), HS2.out⟩
        · rw [decide_eq_false hxy]
          have HNE : Hid (xs ≠ ys) := Lib.hid (fun e => hxy (by rw [← HX.out, ← HY.out, e]))
          clear hxy
          go_wp2_with fail
          go_ret
          exact ⟨by rw [decide_eq_false HNE.out]; rfl, HS2.out⟩
      · have he : xs = ys := by
          have := HT.out
          rwa [List.take_of_length_le (by omega), List.take_of_length_le (by omega)] at this
        go_wp2_with fail
        go_ret
        exact ⟨by rw [decide_eq_true he]; rfl, HS.out⟩
  · have hne : xs ≠ ys := fun e => hn (by rw [e])
    go_wp2_with fail
    go_ret
    exact ⟨by rw [decide_eq_false hne]; rfl, Same.refl _ _⟩

set_option maxHeartbeats 4000000 in
set_option maxRecDepth 100000 in
theorem same_any (v1 v2 : Value) (c d : Cd.Co) (h1 : RCo w v1 c) (h2 : RCo w v2 d) : Calls Tryz.prog 22 #[v1, v2] w fun e w' => e = .returned (.bool (decide (c = d))) ∧ Same [] w w' := by
  obtain ⟨cv1, pv1, gv1, rfl, hr1⟩ := h1
  obtain ⟨cv2, pv2, gv2, rfl, hr2⟩ := h2
  have HR1 := Lib.hid hr1
  have HR2 := Lib.hid hr2
  obtain ⟨A1, a1, e1, _⟩ := hr1.consts
  obtain ⟨kv1, ⟨A2, a2, e2, _⟩, _⟩ := hr1.procs
  obtain ⟨A3, a3, e3, _⟩ := hr1.globals
  obtain ⟨B1, b1, e4, _⟩ := hr2.consts
  obtain ⟨kv2, ⟨B2, b2, e5, _⟩, _⟩ := hr2.procs
  obtain ⟨B3, b3, e6, _⟩ := hr2.globals
  subst e1 e2 e3 e4 e5 e6
  have HB : Hid (∀ W, Same [] ((w.alloc (.cells #[.slice A1 c.consts.length a1, .slice A2 c.procs.length a2, .slice A3 c.globals.length a3] 26)).alloc (.cells #[.slice B1 d.consts.length b1, .slice B2 d.procs.length b2, .slice B3 d.globals.length b3] 26)) W → Blk W w.heap.size 26 [.slice A1 c.consts.length a1, .slice A2 c.procs.length a2, .slice A3 c.globals.length a3] ∧ Blk W (w.heap.size + 1) 26 [.slice B1 d.consts.length b1, .slice B2 d.procs.length b2, .slice B3 d.globals.length b3] ∧ Same [] w W) := Lib.hid (fun W hs => by
    have h1 := (Blk.new w 26 [.slice A1 c.consts.length a1, .slice A2 c.procs.length a2, .slice A3 c.globals.length a3]).alloc (.cells #[.slice B1 d.consts.length b1, .slice B2 d.procs.length b2, .slice B3 d.globals.length b3] 26)
    have h2 := Blk.new (w.alloc (.cells #[.slice A1 c.consts.length a1, .slice A2 c.procs.length a2, .slice A3 c.globals.length a3] 26)) 26 [.slice B1 d.consts.length b1, .slice B2 d.procs.length b2, .slice B3 d.globals.length b3]
    have e : (w.alloc (.cells #[.slice A1 c.consts.length a1, .slice A2 c.procs.length a2, .slice A3 c.globals.length a3] 26)).heap.size = w.heap.size + 1 := by simp
    rw [e] at h2
    exact ⟨h1.frame hs (by simp), h2.frame hs (by simp), (((Same.refl [] w).alloc _).alloc _).trans hs⟩)
  clear hr1 hr2
  go_enter Tryz.func22, Tryz.ntmps22
  have hbig : decide (c = d) = (decide (c.consts = d.consts) && decide (c.globals = d.globals) && decide (c.procs = d.procs)) := by
    obtain ⟨x1, x2, x3⟩ := c
    obtain ⟨y1, y2, y3⟩ := d
    by_cases h : Cd.Co.mk x1 x2 x3 = Cd.Co.mk y1 y2 y3
    · rw [decide_eq_true h]
      injection h with h1 h2 h3
      subst h1 h2 h3
      simp
    · rw [decide_eq_false h]
      symm
      rw [← Bool.not_eq_true]
      intro h0
      simp only [Bool.and_eq_true, decide_eq_true_eq] at h0
      exact h (by rw [h0.1.1, h0.1.2, h0.2])
  have HBIG := Lib.hid hbig
  clear hbig
  go_wp2_with fail
  refine (eqW_any _ _ c.consts d.consts (HR1.out.frame (((Same.refl _ _).alloc _).alloc _)).consts (HR2.out.frame (((Same.refl _ _).alloc _).alloc _)).consts).mono ?_
  rintro e w2 ⟨rfl, hs2⟩
  obtain ⟨q1, q2, q3⟩ := HB.out w2 hs2
  have p0 := q1.cell 0
  have p1 := q1.cell 1
  have p2 := q1.cell 2
  have pz := q1.lt
  have r0 := q2.cell 0
  have r1 := q2.cell 1
  have r2 := q2.cell 2
  have rz := q2.lt
  have HS2 := Lib.hid hs2
  have HQ2 := Lib.hid q3
  clear q1 q2 q3 hs2
  by_cases hc : c.consts = d.consts
  · rw [decide_eq_true hc]
    have HC := Lib.hid hc
    clear hc
    go_wp2_with fail
    refine (eqS_any _ _ c.globals d.globals (HR1.out.frame HQ2.out).globals (HR2.out.frame HQ2.out).globals).mono ?_
    rintro e w3 ⟨rfl, hs3⟩
    obtain ⟨q1, q2, q3⟩ := HB.out w3 (HS2.out.trans hs3)
    have p0 := q1.cell 0
    have p1 := q1.cell 1
    have p2 := q1.cell 2
    have pz := q1.lt
    have r0 := q2.cell 0
    have r1 := q2.cell 1
    have r2 := q2.cell 2
    have rz := q2.lt
    have HQ3 := Lib.hid q3
    clear q1 q2 q3 hs3
    by_cases hg : c.globals = d.globals
    · rw [decide_eq_true hg]
      have HG := Lib.hid hg
      clear hg
      go_wp2_with fail
      refine (eqP_any _ _ c.procs d.procs (HR1.out.frame HQ3.out).procs (HR2.out.frame HQ3.out).procs).mono ?_
      rintro e w4 ⟨rfl, hs4⟩
      have HQ4 := Lib.hid (HQ3.out.trans hs4)
      obtain ⟨x, hx⟩ : ∃ x, decide (c.procs = d.procs) = x := ⟨_, rfl⟩
      rw [hx]
      have HX := Lib.hid hx
      clear hx hs4
      go_wp2_with fail
      go_ret
      exact ⟨by rw [HBIG.out, decide_eq_true HC.out, decide_eq_true HG.out, HX.out]; rfl, HQ4.out⟩
    · rw [decide_eq_false hg]
      have HG := Lib.hid hg
      clear hg
      go_wp2_with fail
      go_ret
      exact ⟨by rw [HBIG.out, decide_eq_true HC.out, decide_eq_false HG.out]; rfl, HQ3.out⟩
  · rw [decide_eq_false hc]
    have HC := Lib.hid hc
    clear hc
    go_wp2_with fail
    go_ret
    exact ⟨by rw [HBIG.out, decide_eq_false HC.out]; rfl, HQ2.out⟩
end Ck
end Go.Proofs.YticaipedpcmhfaaGreatDoor
