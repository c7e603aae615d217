/- Layer 8, package code: slices.Equal at strings; a procedure's comparison. -/
import Derived.Test.YticaipedpcmhfaaGreatDoorCkS1
import Derived.Test.YticaipedpcmhfaaGreatDoorCkW2
namespace Go.Proofs.YticaipedpcmhfaaGreatDoor
open Go.RowKit Hp
namespace Ck
variable {w w' : World}

theorem eqS_any (v1 v2 : Value) (xs ys : List ByteArray) (h1 : Sq w v1 xs.length 1 (fS xs)) (h2 : Sq w v2 ys.length 1 (fS ys)) : Calls Tryz.prog 80 #[v1, v2] w fun e w' => e = .returned (.bool (decide (xs = ys))) ∧ Same [] w w' := by
  obtain ⟨A1, c1, rfl, hx1, hx2, hx3⟩ := h1
  obtain ⟨A2, c2, rfl, hy1, hy2, hy3⟩ := h2
  unfold maxLen at hx2 hy2
  by_cases hn : xs.length = ys.length
  · by_cases h0 : 0 < xs.length
    · obtain ⟨b, o, rfl, hb, hbc⟩ := hx3 h0
      obtain ⟨b', o', rfl, hb', hbc'⟩ := hy3 (by omega)
      refine (Tryz.slices_Equal_string b o xs.length c1 b' o' ys.length c2 xs ys w (Nat.le_refl _) (Nat.le_refl _) (by omega) (by omega) (fun j hj => ?_) (fun j hj => ?_)).mono ?_
      · have := hbc j 0 hj (by omega); simpa [fS] using this
      · have := hbc' j 0 hj (by omega); simpa [fS] using this
      · rintro e w' ⟨rfl, q, rfl⟩
        exact ⟨by rw [List.take_length, List.take_length], (Same.refl _ _).drewN q⟩
    · have e1 : xs = [] := List.eq_nil_of_length_eq_zero (by omega)
      have e2 : ys = [] := List.eq_nil_of_length_eq_zero (by omega)
      subst e1 e2
      refine (Tryz.slices_Equal_string_empty A1 A2 c1 0 c2 w (by omega)).mono ?_
      rintro e w' ⟨rfl, rfl⟩
      exact ⟨rfl, Same.refl _ _⟩
  · have hne : xs ≠ ys := fun e => hn (by rw [e])
    refine (Tryz.slices_Equal_string_lens A1 A2 xs.length c1 ys.length c2 w hn).mono ?_
    rintro e w' ⟨rfl, rfl⟩
    exact ⟨by rw [decide_eq_false hne], Same.refl _ _⟩

set_option maxHeartbeats 4000000 in
set_option maxRecDepth 100000 in
theorem same1_any (v1 v2 : Value) (p q : Cd.Pr) (h1 : RPr w v1 p) (h2 : RPr w v2 q) : Calls Tryz.prog 82 #[v1, v2] w fun e w' => e = .returned (.bool (decide (p = q))) ∧ Same [] w w' := by
  obtain ⟨k1, rfl, hk1⟩ := h1
  obtain ⟨k2, rfl, hk2⟩ := h2
  obtain ⟨A1, C1, e1, f1, f2, f3⟩ := hk1
  obtain ⟨A2, C2, e2, f4, f5, f6⟩ := hk2
  subst e1 e2
  have HK1 : Hid (∀ W, Same [] w W → RIs W (.slice A1 p.code.length C1) p.code) := Lib.hid (fun W hs => Sq.frame ⟨A1, C1, rfl, f1, f2, f3⟩ hs)
  have HK2 : Hid (∀ W, Same [] w W → RIs W (.slice A2 q.code.length C2) q.code) := Lib.hid (fun W hs => Sq.frame ⟨A2, C2, rfl, f4, f5, f6⟩ hs)
  clear f1 f2 f3 f4 f5 f6
  go_enter Tryz.func82, Tryz.ntmps82
  by_cases hp : p.params = q.params
  · obtain ⟨n, hn⟩ : ∃ n, p.params = n := ⟨_, rfl⟩
    rw [hn] at hp ⊢
    rw [← hp]
    have HN := Lib.hid (And.intro hn hp)
    clear hn hp
    go_wp2_with fail
    refine (eqI_any _ _ p.code q.code (HK1.out _ (((Same.refl _ _).alloc _).alloc _)) (HK2.out _ (((Same.refl _ _).alloc _).alloc _))).mono ?_
    rintro e w2 ⟨rfl, hs2⟩
    have hx : decide (p = q) = decide (p.code = q.code) := by
      have h1 := HN.out
      obtain ⟨pp, pc⟩ := p
      obtain ⟨qp, qc⟩ := q
      have e1 : pp = qp := h1.1.trans h1.2
      subst e1
      by_cases h : pc = qc
      · subst h; simp
      · rw [decide_eq_false h, decide_eq_false (fun e => h (by injection e))]
    obtain ⟨x, hx'⟩ : ∃ x, decide (p.code = q.code) = x := ⟨_, rfl⟩
    rw [hx']
    have HXX := Lib.hid (hx.trans hx')
    have HS := Lib.hid ((((Same.refl [] w).alloc _).alloc _).trans hs2)
    clear hs2 hx hx'
    go_wp2_with fail
    go_ret
    exact ⟨by rw [HXX.out]; rfl, HS.out⟩
  · have hne : Hid (p ≠ q) := Lib.hid (fun e => hp (by rw [e]))
    have hb : (p.params == q.params) = false := by simp [hp]
    clear hp
    go_wp2_with fail
    go_ret
    exact ⟨by rw [decide_eq_false hne.out]; rfl, ((Same.refl _ _).alloc _).alloc _⟩
end Ck
end Go.Proofs.YticaipedpcmhfaaGreatDoor
