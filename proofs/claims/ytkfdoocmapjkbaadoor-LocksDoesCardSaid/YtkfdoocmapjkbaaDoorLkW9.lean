/- Layer 19, package locks: New. -/
import Derived.Test.YtkfdoocmapjkbaaDoorLkW8
import Derived.Test.YtkfdoocmapjkbaaDoorHpMake
namespace Go.Proofs.YtkfdoocmapjkbaaDoor
open Go.RowKit Hp
namespace Lk
variable {w w' : World} {B : Nat} {m : Bk} {F : List Nat} {tv lv gv : Value} {rvs : List Value}

def newM (l g : Nat) : Bk := ⟨[], List.replicate l l0, List.replicate g 4⟩
def newOk (l g : Int) : Bool := decide (0 ≤ l ∧ l ≤ 8 ∧ 0 ≤ g ∧ g ≤ 64)

theorem info107 : (Tryd.prog.info? 107).map (fun i => (i.zero, i.size, i.bytes)) = some (some (.agg #[.int .i64 0, .slice none 0 0]), 2, 32) := by kernel_rfl

theorem newM_ok (l g : Nat) (hl : l ≤ 8) (hg : g ≤ 64) : Ok (newM l g) := by
  have h1 : ∀ t, (newM l g).is t = false := fun t => by
    show decide (1 ≤ t ∧ t ≤ ((0 : Nat) : Int)) = false
    simp only [decide_eq_false_iff_not]
    omega
  have h2 : ∀ k, (newM l g).lo k = l0 := fun k => by
    simp only [Bk.lo, newM, List.getD_eq_getElem?_getD, List.getElem?_replicate]
    split <;> rfl
  refine ⟨by simp [newM], by simpa [newM] using hl, by simpa [newM] using hg, ?_, ?_, ?_, ?_, ?_⟩
  · intro k _; rw [h2]; simp [l0]
  · intro k t _ ht; rw [h2] at ht; simp [l0] at ht
  · intro k _; exact .inl (by rw [h2]; simp [l0])
  · intro t ht; rw [h1] at ht; cases ht
  · intro t ht; rw [h1] at ht; cases ht

set_option maxHeartbeats 800000 in
set_option maxRecDepth 100000 in
theorem new_bad (l g : Int) (h : newOk l g = false) : Calls Tryd.prog 8 #[.int .i64 l, .int .i64 g] w fun e w' => e = .returned (.tuple #[.pointer none, .int .i64 1]) ∧ w = w' := by
  have h' : l < 0 ∨ (0 ≤ l ∧ 8 < l) ∨ (0 ≤ l ∧ l ≤ 8 ∧ g < 0) ∨ (0 ≤ l ∧ l ≤ 8 ∧ 0 ≤ g ∧ 64 < g) := by
    simp only [newOk, decide_eq_false_iff_not] at h; omega
  clear h
  rcases h' with h | ⟨h, h1⟩ | ⟨h, h1, h2⟩ | ⟨h, h1, h2, h3⟩
  all_goals
    go_enter Tryd.func8, Tryd.ntmps8
    go_wp2
    go_ret2
    exact ⟨rfl, rfl⟩

theorem lkZero (n : Nat) : ((List.replicate n l0).zip (List.replicate n (Value.slice none 0 0))).flatMap loE = (List.replicate n [Value.int .i64 0, .slice none 0 0]).flatMap id := by
  induction n with
  | zero => rfl
  | succ n ih => simp only [List.replicate_succ, List.zip_cons_cons, List.flatMap_cons, ih]; rfl

set_option maxHeartbeats 800000 in
set_option maxRecDepth 100000 in
theorem new_ok (l g : Nat) (hl : l ≤ 8) (hg : g ≤ 64) (hb : Bnd w) : Calls Tryd.prog 8 #[.int .i64 l, .int .i64 g] w fun e w' =>
    ∃ B F, e = .returned (.tuple #[.pointer (some ⟨B, 0, none⟩), .int .i64 0]) ∧ Rep w' B (newM l g) F ∧ Same [] w w' ∧ ∀ k ∈ F, w.heap.size ≤ k := by
  have HB := Lib.hid hb
  clear hb
  go_enter Tryd.func8, Tryd.ntmps8
  go_wp2_with (first
    | (at_make; refine wpList_make_blk _ rfl (.tmp 23) (.tmp 23) 89 rfl 107 (.agg #[.int .i64 0, .slice none 0 0]) 2 32 Tryd.underlying89 info107 l rfl rfl ?m1 ?m2 ?K))
  case m1 => omega
  case m2 => unfold maxLen; omega
  case K =>
    intro w2 hb2 hs2
    rw [show #[Value.int .i64 0, .slice none 0 0] = [Value.int .i64 0, .slice none 0 0].toArray from rfl, show l * 2 = l * [Value.int .i64 0, .slice none 0 0].length from rfl, madeCells_flat [Value.int .i64 0, .slice none 0 0] l (by simp)] at hb2
    have hlt2 : w.heap.size < w2.heap.size := hb2.lt
    obtain ⟨L, hL⟩ : ∃ L, L = w.heap.size := ⟨_, rfl⟩
    rw [← hL] at hb2 hlt2 ⊢
    have HL := Lib.hid hL
    have HS2 := Lib.hid hs2
    have HB2 := Lib.hid hb2
    clear hL hs2 hb2
    have hb93 := Blk.new w2 93 [.slice none 0 0, .slice (some ⟨L, 0, none⟩) l l, .slice none 0 0]
    obtain ⟨w3, hw3⟩ : ∃ w3, w3 = w2.alloc (.cells #[.slice none 0 0, .slice (some ⟨L, 0, none⟩) l l, .slice none 0 0] 93) := ⟨_, rfl⟩
    have hs3 : Same [] w2 w3 := by rw [hw3]; exact (Same.refl _ _).alloc _
    have hb93' : Blk w3 w2.heap.size 93 [.slice none 0 0, .slice (some ⟨L, 0, none⟩) l l, .slice none 0 0] := by rw [hw3]; exact hb93
    have hsz3 : w3.heap.size = w2.heap.size + 1 := by rw [hw3]; simp
    have HS3 := Lib.hid hs3
    have HB93 := Lib.hid hb93'
    have HSZ3 := Lib.hid hsz3
    have HBND := Lib.hid (make_none ((HB.out.frame HS2.out (by simp)).frame hs3 (by simp)))
    clear hb93 hs3 hb93' hsz3
    go_wp2_with fail
    rw [← hw3]
    clear hw3
    refine HBND.out.mono ?_
    rintro e w4 ⟨rfl, rfl⟩
    have hr := repeat_any (w := w3.alloc (.cells #[.int .u64 4] 33)) w3.heap.size g hg (by simp) (by simp)
    have HR := Lib.hid hr
    clear hr
    go_wp2_with fail
    refine HR.out.mono ?_
    rintro e w5 ⟨v, rfl, hr5, hs5, hb5⟩
    obtain ⟨B, hB⟩ : ∃ B, B = w2.heap.size := ⟨_, rfl⟩
    obtain ⟨ga, gc, rfl, _, _, _⟩ := hr5.form
    have hs35 : Same [] w3 w5 := ((Same.refl _ _).alloc _).trans hs5
    have hB5 : Blk w5 B 93 [.slice none 0 0, .slice (some ⟨L, 0, none⟩) l l, .slice none 0 0] := by rw [hB]; exact HB93.out.frame hs35 (by simp)
    have k2 : w5.cell? ⟨B, 2, none⟩ = some (.slice none 0 0) := by rw [hB5.cell]; rfl
    have f2 : w5.frozen? ⟨B, 2, none⟩ = false := hB5.frozen 2
    have hgB : ∀ x ∈ blk (.slice ga g gc), w3.heap.size ≤ x := fun x hx => by
      have := hb5 x hx
      have h3 : (w3.alloc (.cells #[.int .u64 4] 33)).heap.size = w3.heap.size + 1 := by simp
      omega
    have hBlt : B < w3.heap.size := by rw [HSZ3.out, hB]; omega
    have hLB : L < B := by rw [hB]; exact hlt2
    have hwB : w.heap.size ≤ L := by rw [HL.out]; exact Nat.le_refl _
    have hrep : RepI (w5.setCell ⟨B, 2, none⟩ (.slice ga g gc)) B (newM l g) (B :: L :: blk (.slice ga g gc)) (.slice none 0 0) (.slice (some ⟨L, 0, none⟩) l l) (.slice ga g gc) (List.replicate l (.slice none 0 0)) := by
      refine ⟨hB5.set 2 _, Row.nil _ _ _, ?_, ?_, by simp [newM], ?_, ?_, by simp, by simp [blk], by simp [blk], fun k hk => by simp [hk], ?_, ?_⟩
      · have h2 := HB2.out
        rw [← lkZero] at h2
        have h3 := (h2.frame HS3.out (by simp)).frame hs35 (by simp)
        have h4 := Row.full (h3.setOther (p := ⟨B, 2, none⟩) (by show L ≠ B; omega) (.slice ga g gc)) l 2 (by rw [flat_length loE 2 loE_len]; simp) (by simp [maxLen]; omega)
        simpa [newM] using h4
      · have := hr5.setOther (p := ⟨B, 2, none⟩) (fun hm => by have := hgB B hm; omega) (.slice ga g gc)
        simpa [newM, nE_map] using this
      · intro i hi
        have h1 : (List.replicate l (Value.slice none 0 0)).getD i undef = .slice none 0 0 := by
          have : i < l := by simpa using hi
          simp [List.getD, this]
        have h2 : ((newM l g).lks.getD i l0) = l0 := by
          have : i < l := by simpa using hi
          simp [newM, List.getD, this]
        rw [h1, h2]; exact Row.nil _ _ _
      · intro i j hi hj hij k hk
        have h1 : (List.replicate l (Value.slice none 0 0)).getD i undef = .slice none 0 0 := by
          have : i < l := by simpa using hi
          simp [List.getD, this]
        rw [h1] at hk; simp [blk] at hk
      · intro i hi k hk
        have h1 : (List.replicate l (Value.slice none 0 0)).getD i undef = .slice none 0 0 := by
          have : i < l := by simpa using hi
          simp [List.getD, this]
        rw [h1] at hk; simp [blk] at hk
      · intro k hk
        simp only [World.size_setCell]
        have := hs35.size
        rcases List.mem_cons.1 hk with rfl | hk
        · omega
        · rcases List.mem_cons.1 hk with rfl | hk
          · omega
          · exact hr5.lt k hk
    have hsame : Same [] w (w5.setCell ⟨B, 2, none⟩ (.slice ga g gc)) := ((HS2.out.trans HS3.out).trans hs35).setCell (.inr (by show w.heap.size ≤ B; omega)) _
    have HREP := Lib.hid hrep
    have HSAME := Lib.hid hsame
    have HFT : Hid (∀ k ∈ B :: L :: blk (.slice ga g gc), w.heap.size ≤ k) := Lib.hid (fun k hk => by
      rcases List.mem_cons.1 hk with rfl | hk
      · omega
      · rcases List.mem_cons.1 hk with rfl | hk
        · exact hwB
        · have := hgB k hk; omega)
    rw [← hB]
    clear hr5 hs5 hb5 hs35 hB5 hgB hrep hsame hB
    go_wp2
    go_ret2
    exact ⟨B, _, rfl, ⟨_, _, _, _, HREP.out⟩, HSAME.out, HFT.out⟩
end Lk
end Go.Proofs.YtkfdoocmapjkbaaDoor
