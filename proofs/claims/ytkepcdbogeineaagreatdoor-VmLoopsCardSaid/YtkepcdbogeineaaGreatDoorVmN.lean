/- How a thread has ended. -/
import Derived.Test.YtkepcdbogeineaaGreatDoorVmJ
namespace Go.Proofs.YtkepcdbogeineaaGreatDoor
open Go.RowKit Hp Ck
namespace Vm
variable {w w' w1 W W' : World} {T M H : Nat} {cv pv gv fv sv rv : Value} {kvs : List Value} {th th' : Th} {FC FT : List Nat}

set_option maxHeartbeats 4000000 in
set_option maxRecDepth 100000 in
theorem ended_any (h : ThAt w T M cv pv gv fv sv rv kvs th FC FT) :
    Calls Tryz.prog 18 #[.pointer (some ⟨T, 0, none⟩)] w fun e w' => e = .returned (.agg #[.bool th.ended, .int .u64 th.word, .int .i64 th.err]) ∧ Same [] w w' := by
  have c10 : w.cell? ⟨T, 10, none⟩ = some (.bool th.ended) := h.b.cell 10
  have c11 : w.cell? ⟨T, 11, none⟩ = some (.int .u64 th.word) := h.b.cell 11
  have c12 : w.cell? ⟨T, 12, none⟩ = some (.int .i64 th.err) := h.b.cell 12
  have tz := h.b.lt
  obtain ⟨e1, he1⟩ : ∃ x, x = th.ended := ⟨_, rfl⟩
  obtain ⟨e2, he2⟩ : ∃ x, x = th.word := ⟨_, rfl⟩
  obtain ⟨e3, he3⟩ : ∃ x, x = th.err := ⟨_, rfl⟩
  rw [← he1] at c10 ⊢
  rw [← he2] at c11 ⊢
  rw [← he3] at c12 ⊢
  clear h he1 he2 he3
  go_enter Tryz.func18, Tryz.ntmps18
  go_wp2_with fail
  refine bodyPost_ret (v := .agg #[.bool e1, .int .u64 e2, .int .i64 e3]) (by simp [results, Tryz.results18, go_sem]) rfl ?_
  exact ⟨rfl, (Same.refl _ _).alloc _⟩

/-- Frames let go: the first n stay. -/
theorem ThAt.cutF {A : Option Addr} {C n : Nat} {w5 : World} (h : ThAt w T M cv pv gv (.slice A th.fr.length C) sv rv kvs th FC FT) (hn : n ≤ th.fr.length) (hs : Same [] w w5) :
    ThAt (w5.setCell ⟨T, 4, none⟩ (.slice A n C)) T M cv pv gv (.slice A n C) sv rv kvs { th with fr := th.fr.take n } FC FT := by
  have h5 := h.frame0 hs
  have hb : ∀ b, (Value.slice A n C).ownBlock = some b → (Value.slice A th.fr.length C).ownBlock = some b := fun b hb => by
    rcases A with _ | ⟨g, o, s⟩
    · cases hb
    · simpa [Value.ownBlock] using hb
  have hS : Same FT w5 (w5.setCell ⟨T, 4, none⟩ (.slice A n C)) := (Same.refl _ _).setCell (.inl h.inT) _
  have hS1 : Same [T] w5 (w5.setCell ⟨T, 4, none⟩ (.slice A n C)) := (Same.refl _ _).setCell (by simp) _
  have hpre : Ow w5 81 4 (.slice A n C) n (flatF (th.fr.take n)) := by
    have hr := (Row.of_own h5.fr).pre (k := n) hn
    have e : (flatF th.fr).take (n * 4) = flatF (th.fr.take n) := flat_take frC 4 (fun _ => rfl) th.fr n
    rw [e] at hr
    refine ⟨hr.1, ?_⟩
    rcases h5.fr.2 with ⟨e1, h0⟩ | ⟨g, cap, cur, e1, g0, g1, g2, g3, g4, g5⟩
    · injection e1 with q1 q2 q3
      subst q1 q3
      exact .inl ⟨by rw [show n = 0 from by omega], by omega⟩
    · injection e1 with q1 q2 q3
      subst q1 q3
      refine .inr ⟨g, C, cur, rfl, g0, g1, by omega, g3, g4, ?_⟩
      rw [← e, ← g5, List.take_take]
      congr 1
      omega
  refine h5.upd hS ?_ rfl ?_ ?_ ?_ h.inT (fun b hb' => h.inF b (hb b hb')) h.inS h.inR h.srd (fun b hb => .inl hb) (fun b hb => Nat.lt_of_lt_of_le (h5.tl b hb) hS.size)
  · exact Blk.set h5.b 4 _
  · have hl : (th.fr.take n).length = n := by rw [List.length_take]; omega
    show Ow _ _ 4 _ (th.fr.take n).length _
    rw [hl]
    exact hpre.frame hS1 (fun b hb' => h5.fne b (hb b hb'))
  · exact h5.st.frame hS1 h5.sne
  · exact h5.rq.frame hS1 h5.rne

/-- return: what it reads of the frame. -/
theorem ret_stack (h : ThAt w T M cv pv gv fv sv rv kvs th FC FT) (hfr : th.fr ≠ []) : ∃ A C g D, sv = .slice A th.st.length C ∧ fv = .slice (some ⟨g, 0, none⟩) th.fr.length D ∧ w.cell? ⟨g, (th.fr.length - 1) * 4 + 3, none⟩ = some (.int .i64 th.top.base) ∧ g < w.heap.size := by
  obtain ⟨A, C, rfl⟩ := st_lit h
  have hl : 0 < th.fr.length := List.length_pos_iff.2 hfr
  obtain ⟨g, D, rfl⟩ : ∃ g D, fv = .slice (some ⟨g, 0, none⟩) th.fr.length D := by
    rcases h.fr.2 with ⟨_, h0⟩ | ⟨g, cap, cur, e, _⟩
    · omega
    · exact ⟨g, cap, e⟩
  obtain ⟨k1, -⟩ := frame_cell (th := th) h.fr hfr 3 (by decide)
  exact ⟨A, C, g, D, rfl, rfl, k1, h.fr.lt rfl⟩
end Vm
end Go.Proofs.YtkepcdbogeineaaGreatDoor
