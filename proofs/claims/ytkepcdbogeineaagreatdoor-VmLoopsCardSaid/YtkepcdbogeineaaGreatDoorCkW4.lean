/- Layer 8, package code: a way comes to a place (the closure of depths). -/
import Derived.Test.YtkepcdbogeineaaGreatDoorCkV
import Derived.Test.YtkepcdbogeineaaGreatDoorCd
import Derived.Deep.QuietTactic
import Derived.BigQuiet
import Derived.Maps.AppendAt
namespace Go.Proofs.YtkepcdbogeineaaGreatDoor
open Go.RowKit Hp
namespace Ck
variable {w w' : World}

def encD (d : Cd.De) : List Value := [.int .i64 d.ways, .int .i64 d.deep]
theorem encD_len (d : Cd.De) : (encD d).length = 2 := rfl
def flatD (l : List Cd.De) : List Value := l.flatMap encD
def natsV (l : List Nat) : List Value := l.map (fun i : Nat => Value.int .i64 (i : Int))

/-- The table of depths and the list of places to do, in their boxes; all lie from B on. -/
structure DRep (B : Nat) (w : World) (Lb Tb L : Nat) (tv : Value) (s : List Cd.De × List Nat) : Prop where
  lbox : Blk w Lb 115 [.slice (some ⟨L, 0, none⟩) s.1.length s.1.length]
  tbox : Blk w Tb 42 [tv]
  lrow : Blk w L 118 (flatD s.1)
  trow : Row w 3 1 tv s.2.length (natsV s.2)
  b0 : B ≤ Lb
  b1 : B ≤ Tb
  b2 : B ≤ L
  b3 : ∀ k ∈ blk tv, B ≤ k
  n : s.1.length ≤ 4096

theorem flat_at (l : List Cd.De) (i j : Nat) (h : i < l.length) (hj : j < 2) : (flatD l)[i * 2 + j]? = (encD (l.getD i ⟨2, 0⟩))[j]? := by
  have := flat_get encD 2 encD_len l i j h hj
  rw [flatD, this]
  simp [List.getD, h]

theorem flat_put (l : List Cd.De) (i : Nat) (h : i < l.length) (x : Cd.De) : ((flatD l).set (i * 2) (.int .i64 x.ways)).set (i * 2 + 1) (.int .i64 x.deep) = flatD (l.set i x) := by
  have h1 : (flatD l).set (i * 2 + 0) (.int .i64 x.ways) = flatD (l.set i ⟨x.ways, (l[i]).deep⟩) := flat_set encD 2 encD_len _ 0 _ (by omega) l i h rfl
  rw [Nat.add_zero] at h1
  rw [h1]
  have h2 := flat_set encD 2 encD_len x 1 (.int .i64 x.deep) (by omega) (l.set i ⟨x.ways, (l[i]).deep⟩) i (by simpa using h) (by simp [encD])
  rw [flatD, h2, List.set_set]; rfl

theorem flat_put0 (l : List Cd.De) (i : Nat) (h : i < l.length) (k : Nat) : (flatD l).set (i * 2) (.int .i64 k) = flatD (l.set i ⟨k, (l.getD i ⟨2, 0⟩).deep⟩) := by
  have h1 : (flatD l).set (i * 2 + 0) (.int .i64 k) = flatD (l.set i ⟨k, (l[i]).deep⟩) := flat_set encD 2 encD_len _ 0 _ (by omega) l i h rfl
  rw [Nat.add_zero] at h1
  rw [h1]; simp [List.getD, h]

/-- The world behind a place more to do. -/
theorem DRep.push {B Lb Tb L : Nat} {tv tv' : Value} {s : List Cd.De × List Nat} {w2 w3 : World} (h : DRep B w2 Lb Tb L tv s) (hB : B ≤ w2.heap.size) (at_ : Nat) (hs : Same (blk tv) w2 w3) (hrow : Row w3 3 1 tv' (s.2.length + 1) (natsV s.2 ++ [.int .i64 at_])) (hb : ∀ k ∈ blk tv', k ∈ blk tv ∨ w2.heap.size ≤ k) :
    DRep B (w3.setCell ⟨Tb, 0, none⟩ tv') Lb Tb L tv' (s.1, s.2 ++ [at_]) := by
  have n0 : Lb ∉ blk tv := fun hm => h.trow.ne_blk h.lbox (by decide) _ hm rfl
  have n1 : Tb ∉ blk tv := fun hm => h.trow.ne_blk h.tbox (by decide) _ hm rfl
  have n2 : L ∉ blk tv := fun hm => h.trow.ne_blk h.lrow (by decide) _ hm rfl
  have e1 := h.lbox.frame hs n0
  have e2 := h.tbox.frame hs n1
  have e3 := h.lrow.frame hs n2
  refine ⟨e1.setOther (h.lbox.ne h.tbox (by decide)) _, by simpa using e2.set 0 tv', e3.setOther (h.lrow.ne h.tbox (by decide)) _, ?_, h.b0, h.b1, h.b2, fun k hk => ?_, h.n⟩
  · have := hrow.setOther (p := ⟨Tb, 0, none⟩) (fun hm => hrow.ne_blk e2 (by decide) _ hm rfl) tv'
    simpa [natsV] using this
  · rcases hb k hk with h1 | h1
    · exact h.b3 k h1
    · omega

/-- A place's two cells are stored, a block is made. -/
theorem DRep.stored {B Lb Tb L : Nat} {tv : Value} {s : List Cd.De × List Nat} (h : DRep B w Lb Tb L tv s) (at_ : Nat) (hat : at_ < s.1.length) (d : Cd.De) (o : Obj) :
    DRep B (((w.setCell ⟨L, at_ * 2, none⟩ (.int .i64 d.ways)).setCell ⟨L, at_ * 2 + 1, none⟩ (.int .i64 d.deep)).alloc o) Lb Tb L tv (s.1.set at_ d, s.2) := by
  have n0 : Lb ≠ L := h.lbox.ne h.lrow (by decide)
  have n1 : Tb ≠ L := h.tbox.ne h.lrow (by decide)
  refine ⟨?_, ((h.tbox.setOther n1 _).setOther n1 _).alloc _, ?_, ((h.trow.setOther (fun hm => h.trow.ne_blk h.lrow (by decide) _ hm rfl) _).setOther (fun hm => h.trow.ne_blk h.lrow (by decide) _ hm rfl) _).alloc _, h.b0, h.b1, h.b2, h.b3, by simpa using h.n⟩
  · rw [show (s.1.set at_ d, s.2).1.length = s.1.length by simp]
    exact ((h.lbox.setOther n0 _).setOther n0 _).alloc _
  · rw [← flat_put s.1 at_ hat d]
    exact ((h.lrow.set _ _).set _ _).alloc _

/-- Behind the append, ahead of the store. -/
theorem DRep.pushed {B Lb Tb L : Nat} {tv tv' : Value} {s : List Cd.De × List Nat} {w2 w3 : World} {o : Obj} (h : DRep B w2 Lb Tb L tv s) (hB : B ≤ w2.heap.size) (at_ : Nat) (hs : Same (blk tv) (w2.alloc o) w3) (hrow : Row w3 3 1 tv' (s.2.length + 1) (natsV s.2 ++ [.int .i64 at_])) (hb : ∀ k ∈ blk tv', k ∈ blk tv ∨ w2.heap.size ≤ k) :
    w3.cell? ⟨Tb, 0, none⟩ = some tv ∧ (∀ i, w3.frozen? ⟨Tb, i, none⟩ = false) ∧ Hid (DRep B (w3.setCell ⟨Tb, 0, none⟩ tv') Lb Tb L tv' (s.1, s.2 ++ [at_])) ∧ Hid (Same (Tb :: L :: blk tv) w2 (w3.setCell ⟨Tb, 0, none⟩ tv')) := by
  have hs' : Same (blk tv) w2 w3 := ((Same.refl _ _).alloc _).trans hs
  have n1 : Tb ∉ blk tv := fun hm => h.trow.ne_blk h.tbox (by decide) _ hm rfl
  have e2 := h.tbox.frame hs' n1
  exact ⟨e2.cell 0, e2.frozen, Lib.hid (h.push hB at_ hs' hrow hb), Lib.hid ((hs'.mono (fun x hx => .inl (by simp [hx]))).setCell (p := ⟨Tb, 0, none⟩) (.inl (by simp)) _)⟩

/-- Only the ways are stored. -/
theorem DRep.stored0 {B Lb Tb L : Nat} {tv : Value} {s : List Cd.De × List Nat} (h : DRep B w Lb Tb L tv s) (at_ : Nat) (hat : at_ < s.1.length) (k : Nat) :
    DRep B (w.setCell ⟨L, at_ * 2, none⟩ (.int .i64 k)) Lb Tb L tv (s.1.set at_ ⟨k, (s.1.getD at_ ⟨2, 0⟩).deep⟩, s.2) := by
  have n0 : Lb ≠ L := h.lbox.ne h.lrow (by decide)
  have n1 : Tb ≠ L := h.tbox.ne h.lrow (by decide)
  refine ⟨?_, h.tbox.setOther n1 _, ?_, h.trow.setOther (fun hm => h.trow.ne_blk h.lrow (by decide) _ hm rfl) _, h.b0, h.b1, h.b2, h.b3, by simpa using h.n⟩
  · rw [show (s.1.set at_ (⟨k, (s.1.getD at_ ⟨2, 0⟩).deep⟩ : Cd.De), s.2).1.length = s.1.length by simp]
    exact h.lbox.setOther n0 _
  · rw [← flat_put0 s.1 at_ hat k]
    exact h.lrow.set _ _
theorem DRep.frame {B Lb Tb L : Nat} {tv : Value} {s : List Cd.De × List Nat} (h : DRep B w Lb Tb L tv s) (hs : Same [] w w') : DRep B w' Lb Tb L tv s :=
  ⟨h.lbox.frame hs (by simp), h.tbox.frame hs (by simp), h.lrow.frame hs (by simp), h.trow.frame hs (by simp), h.b0, h.b1, h.b2, h.b3, h.n⟩

theorem cell_one_at {w1 : World} (v : Value) (t b : Nat) (hb : b = w1.heap.size) : ∀ j u, [v][j]? = some u → (w1.alloc (.cells #[v] t)).cell? ((⟨b, 0, none⟩ : Addr).add j) = some u := by
  subst hb
  exact cell_one_new w1 v t

theorem infoInt : (Tryz.prog.info? 3).map (fun i => (i.zero, i.size, i.bytes)) = some (some (.int .i64 0), 1, 8) := by kernel_rfl

/-- What the closure leaves behind. -/
def Came (B : Nat) (w : World) (Lb Tb L : Nat) (tv : Value) (s : List Cd.De × List Nat) (e : Ending) (w' : World) : Prop := e = .returned (.tuple #[]) ∧ ∃ tv', DRep B w' Lb Tb L tv' s ∧ Same (Tb :: L :: blk tv) w w'

set_option maxHeartbeats 4000000 in
theorem comes_any (B Lb Tb L : Nat) (tv : Value) (s : List Cd.De × List Nat) (h : DRep B w Lb Tb L tv s) (hB : B ≤ w.heap.size) (at_ : Nat) (d : Cd.De) (hat : at_ < s.1.length) (_hd : 1 ≤ d.ways ∧ d.ways ≤ 2) (_hx : (s.1.getD at_ ⟨2, 0⟩).ways ≤ 2) (hl : s.2.length ≤ 100000) :
    Calls Tryz.prog 97 #[.int .i64 at_, .agg #[.int .i64 d.ways, .int .i64 d.deep], .pointer (some ⟨Lb, 0, none⟩), .pointer (some ⟨Tb, 0, none⟩)] w (Came B w Lb Tb L tv (Cd.comes s at_ d)) := by
  obtain ⟨x, hxe⟩ : ∃ x, s.1.getD at_ ⟨2, 0⟩ = x := ⟨_, rfl⟩
  have c0 : w.cell? ⟨L, at_ * 2, none⟩ = some (.int .i64 x.ways) := by have := flat_at s.1 at_ 0 hat (by omega); rw [h.lrow.cell, ← Nat.add_zero (at_ * 2), this, hxe]; rfl
  have c1 : w.cell? ⟨L, at_ * 2 + 1, none⟩ = some (.int .i64 x.deep) := by have := flat_at s.1 at_ 1 hat (by omega); rw [h.lrow.cell, this, hxe]; rfl
  have cl : w.cell? ⟨Lb, 0, none⟩ = some (.slice (some ⟨L, 0, none⟩) s.1.length s.1.length) := h.lbox.cell 0
  have ct : w.cell? ⟨Tb, 0, none⟩ = some tv := h.tbox.cell 0
  have zl := h.lbox.lt
  have zt := h.tbox.lt
  have zL := h.lrow.lt
  have fL := h.lrow.frozen
  have fT := h.tbox.frozen
  have hn := h.n
  rw [hxe] at _hx
  have q1 : L ≠ Tb := h.lrow.ne h.tbox (by decide)
  have q2 : Tb ≠ L := fun e => q1 e.symm
  have hB' : B ≤ ((w.setCell ⟨L, at_ * 2, none⟩ (.int .i64 d.ways)).setCell ⟨L, at_ * 2 + 1, none⟩ (.int .i64 d.deep)).heap.size := by simpa using hB
  have H := Lib.hid h
  have HX := Lib.hid hxe
  clear h hxe
  by_cases h0 : x.ways = 0
  · have HC : Hid (Cd.comes s at_ d = (s.1.set at_ d, s.2 ++ [at_])) := Lib.hid (by unfold Cd.comes; rw [HX.out]; simp [h0])
    have h0' : ((x.ways : Int) == 0) = true := by rw [h0]; rfl
    obtain ⟨A, C, htf, hA1, hA2, _⟩ := H.out.trow.form
    subst htf
    go_enter Tryz.func97, Tryz.ntmps97
    have HD : DRep B (((w.setCell ⟨L, at_ * 2, none⟩ (.int .i64 d.ways)).setCell ⟨L, at_ * 2 + 1, none⟩ (.int .i64 d.deep)).alloc (.cells #[.int .i64 d.ways, .int .i64 d.deep] 118)) Lb Tb L (.slice A s.2.length C) (s.1.set at_ d, s.2) := H.out.stored at_ hat d _
    have HD := Lib.hid HD
    go_wp2_with (first
      | (at_builtin; refine wpList_append_row _ rfl (.tmp 42) (.tmp 44) 42 rfl 3 (.int .i64 0) 1 8 Tryz.underlying42 infoInt rfl (by decide) (.slice A s.2.length C) s.2.length (natsV s.2) rfl ?a1 ⟨w.heap.size + 1, 0, none⟩ 1 1 [.int .i64 at_] rfl rfl ?a2 ?a3 ?a4 ?a5 ?a6))
    case a1 => exact HD.out.trow.alloc _
    case a2 => exact cell_one_at _ _ _ (by simp)
    case a3 => intro u hu; simp at hu; subst hu; rfl
    case a4 => unfold maxLen; omega
    case a5 => omega
    case a6 =>
      intro tv' w5 hrow hs hb
      obtain ⟨A', C', rfl, _, _, _⟩ := hrow.form
      have hp := HD.out.pushed (by simp; omega) at_ hs hrow (fun k hk => by rcases hb k hk with h | h; exact .inl h; exact .inr (by simp at h ⊢; omega))
      obtain ⟨p1, p2, p3, p4⟩ := hp
      clear hs hrow hb
      go_wp2
      go_end0
      refine ⟨rfl, .slice A' (s.2.length + 1) C', ?_, ?_⟩
      · rw [HC.out]; exact p3.out
      · exact ((((Same.refl _ w).setCell (p := ⟨L, _, none⟩) (.inl (by simp)) _).setCell (p := ⟨L, _, none⟩) (.inl (by simp)) _).alloc _).trans p4.out
  · have h0' : ((x.ways : Int) == 0) = false := by rw [beq_eq_false_iff_ne]; omega
    by_cases h2 : x.ways = 2
    · have HC : Hid (Cd.comes s at_ d = s) := Lib.hid (by unfold Cd.comes; rw [HX.out]; simp [h2])
      have h2' : ((x.ways : Int) == 2) = true := by rw [h2]; rfl
      clear h0 h2
      go_enter Tryz.func97, Tryz.ntmps97
      go_wp2_with fail
      go_quiet (fail)
      go_wp2
      go_end0
      refine ⟨rfl, tv, ?_, ?_⟩
      · rw [HC.out]; exact H.out.frame (((Same.refl _ _).alloc _).drewN _)
      · exact ((Same.refl _ w).alloc _).drewN _
    · have h2' : ((x.ways : Int) == 2) = false := by rw [beq_eq_false_iff_ne]; omega
      by_cases h3 : d.ways = 1 ∧ d.deep = x.deep
      · have HC : Hid (Cd.comes s at_ d = s) := Lib.hid (by unfold Cd.comes; rw [HX.out]; simp [h3, h0])
        have h3' : ((d.ways : Int) == 1) = true := by rw [h3.1]; rfl
        have h3'' : (d.deep == x.deep) = true := by rw [h3.2]; simp
        clear h0 h2 h3
        go_enter Tryz.func97, Tryz.ntmps97
        go_wp2_with fail
        go_quiet (fail)
        go_wp2
        go_end0
        refine ⟨rfl, tv, ?_, ?_⟩
        · rw [HC.out]; exact H.out.frame (((Same.refl _ _).alloc _).drewN _)
        · exact ((Same.refl _ w).alloc _).drewN _
      · have HC : Hid (Cd.comes s at_ d = (s.1.set at_ ⟨2, x.deep⟩, s.2 ++ [at_])) := Lib.hid (by unfold Cd.comes; rw [HX.out]; simp [h0, h2, h3])
        obtain ⟨A, C, htf, hA1, hA2, _⟩ := H.out.trow.form
        subst htf
        obtain ⟨g, hg1, hg2⟩ : ∃ g : Bool, ((d.ways : Int) == 1) = g ∧ (g = true → (d.deep == x.deep) = false) := ⟨_, rfl, fun h => by
          rw [beq_eq_false_iff_ne]
          intro he
          exact h3 ⟨by have := eq_of_beq h; omega, he⟩⟩
        have HD : ∀ n o, Hid (DRep B (((w.alloc o).drewN n).setCell ⟨L, at_ * 2, none⟩ (.int .i64 2)) Lb Tb L (.slice A s.2.length C) (s.1.set at_ ⟨2, x.deep⟩, s.2)) := fun n o => Lib.hid (by
          have := (H.out.frame (((Same.refl [] w).alloc o).drewN n)).stored0 at_ hat 2
          rw [HX.out] at this
          exact this)
        have HBL : ∀ n o, Hid (Same (Tb :: L :: blk (.slice A s.2.length C)) w (((w.alloc o).drewN n).setCell ⟨L, at_ * 2, none⟩ (.int .i64 2))) := fun n o => Lib.hid (
          (((Same.refl _ w).alloc o).drewN n).setCell (p := ⟨L, _, none⟩) (.inl (by simp)) _)
        cases g
        all_goals
          first | have hg3 := hg2 rfl | skip
          clear h0 h2 h3 hg2
          go_enter Tryz.func97, Tryz.ntmps97
          go_wp2_with fail
          go_quiet (fail)
          go_wp2_with (first
            | (at_builtin; refine wpList_append_row _ rfl (.tmp 42) (.tmp 44) 42 rfl 3 (.int .i64 0) 1 8 Tryz.underlying42 infoInt rfl (by decide) (.slice A s.2.length C) s.2.length (natsV s.2) rfl ((HD _ _).out.trow.alloc _) ⟨w.heap.size + 1, 0, none⟩ 1 1 [.int .i64 at_] rfl rfl (cell_one_at _ _ _ (by simp)) (by intro u hu; simp at hu; subst hu; rfl) (by unfold maxLen; omega) (by omega) ?_))
          intro tv' w5 hrow hs hb
          obtain ⟨A', C', rfl, _, _, _⟩ := hrow.form
          obtain ⟨p1, p2, p3, p4⟩ := (HD _ _).out.pushed (by simp; omega) at_ hs hrow (fun k hk => by rcases hb k hk with h | h; exact .inl h; exact .inr (by simp at h ⊢; omega))
          clear hs hrow hb
          go_wp2
          go_end0
          refine ⟨rfl, .slice A' (s.2.length + 1) C', ?_, ?_⟩
          · rw [HC.out]; exact p3.out
          · exact (HBL _ _).out.trans p4.out
end Ck
end Go.Proofs.YtkepcdbogeineaaGreatDoor
