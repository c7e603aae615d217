/- Roots. -/
import Derived.Test.YtkepcdbogeineaaGreatDoorVmI
import Derived.Deep.LoopGhost
namespace Go.Proofs.YtkepcdbogeineaaGreatDoor
open Go.RowKit Hp Ck
namespace Vm
variable {w w' w1 W W' : World} {T M : Nat} {cv pv gv fv sv rv : Value} {kvs : List Value} {th th' : Th} {FC FT : List Nat}

theorem wpList_append_nil {P : Program} {ops : Array Oper} {rest : List Oper} {o : Oper} {a : Act} {Q : Exit → Act → World → Prop} (hgd : o.guard = none) (s x : Operand) (t : TypeId)
    (ho : o.op = .call { callee := .builtin .append, args := #[s, x], argTypes := #[t, t] }) (e : TypeId) (i : TypeInfo) (size : Nat) (ht : P.underlying t = some (.slice e)) (hi : P.info? e = some i)
    (v : Value) (n : Nat) (xs : List Value) (hs : a.eval s = v) (hown : Ow w e size v n xs) (hx : a.eval x = .slice none 0 0)
    (h : wpList P ops Q rest (a.put o.dst v) w) : wpList P ops Q (o :: rest) a w := by
  refine wpList_plain hgd fun K hK => ?_
  unfold Oper.wp execOp
  have hrun := run_append_owned_none (P := P) (w := w) 0 t o.type e i size ht hi v n xs hown
  simp [ho, resolve, invoke, builtin, hs, hx, hrun, Result.andThen]
  exact hK _ _ h

/-- A new list of words. -/
def NewW (w : World) (l : List Int) (A : Option Addr) (C : Nat) (w' : World) : Prop := Ow w' 30 1 (.slice A l.length C) l.length (l.map (Value.int .u64)) ∧ (∀ b, (Value.slice A l.length C).ownBlock = some b → w.heap.size ≤ b) ∧ Same [] w w'
theorem NewW.same {l : List Int} {A : Option Addr} {C : Nat} (h : NewW w l A C w1) (hs : Same [] w1 w') : NewW w l A C w' := ⟨h.1.frame hs (by simp), h.2.1, h.2.2.trans hs⟩
theorem NewW.add {l m : List Int} {A : Option Addr} {C g C' : Nat} {w5 : World} (h : NewW w l A C w1) (hown : Ow w5 30 1 (.slice (some ⟨g, 0, none⟩) (l.length + m.length) C') (l.length + m.length) (l.map (Value.int .u64) ++ m.map (Value.int .u64)))
    (hs : Same (Value.slice A l.length C).ownBlock.toList w1 w5) (hat : (Value.slice A l.length C).ownBlock = some g ∨ w1.heap.size ≤ g) : NewW w (l ++ m) (some ⟨g, 0, none⟩) C' w5 := by
  refine ⟨by simpa using hown, fun b hb => ?_, h.2.2.trans' hs (fun x hx => .inr (h.2.1 x (by simpa using hx)))⟩
  cases hb
  rcases hat with h4 | h4
  · exact h.2.1 g h4
  · exact Nat.le_trans h.2.2.size h4
def reqL : Option (Int × Int) → List Int
  | none => []
  | some (a, b) => [a, b]
/-- A thread's roots. -/
def Th.roots (th : Th) : List Int := if th.ended then (if th.err = 0 then [th.word] else []) else th.st ++ th.fr.map Fr.env ++ reqL th.req

theorem fr_cell (h : ThAt w T M cv pv gv fv sv rv kvs th FC FT) (j : Nat) (hj : j < th.fr.length) : ∃ g D, fv = .slice (some ⟨g, 0, none⟩) th.fr.length D ∧ g < w.heap.size ∧ ∀ r, r < 4 → w.cell? ⟨g, j * 4 + r, none⟩ = (frC (th.fr.getD j ⟨0, 0, 0, 0⟩))[r]? := by
  obtain ⟨g, D, rfl⟩ : ∃ g D, fv = .slice (some ⟨g, 0, none⟩) th.fr.length D := by
    rcases h.fr.2 with ⟨_, h0⟩ | ⟨g, cap, cur, e, _⟩
    · omega
    · exact ⟨g, cap, e⟩
  refine ⟨g, D, rfl, h.fr.lt rfl, fun r hr => ?_⟩
  rw [(own_cell h.fr (j * 4 + r) (by omega)).1]
  unfold flatF
  rw [flat_get frC 4 (fun _ => rfl) th.fr _ r hj hr, List.getD_eq_getElem?_getD, List.getElem?_eq_getElem hj]
  rfl

set_option maxHeartbeats 4000000 in
set_option maxRecDepth 100000 in
theorem roots_any (h : ThAt w T M cv pv gv fv sv rv kvs th FC FT) (hl : th.st.length ≤ 1000000) (hfl : th.fr.length ≤ 1000000) :
    Calls Tryz.prog 16 #[.pointer (some ⟨T, 0, none⟩)] w fun e w' => ∃ A C, e = .returned (.slice A th.roots.length C) ∧ NewW w th.roots A C w' := by
  unfold Th.roots
  have t10 : w.cell? ⟨T, 10, none⟩ = some (.bool th.ended) := h.b.cell 10
  have t11 : w.cell? ⟨T, 11, none⟩ = some (.int .u64 th.word) := h.b.cell 11
  have t12 : w.cell? ⟨T, 12, none⟩ = some (.int .i64 th.err) := h.b.cell 12
  have tz := h.b.lt
  have H := Lib.hid h
  by_cases he : th.ended = true
  · rw [he] at t10 ⊢
    simp only [if_true]
    by_cases hr : th.err = 0
    · rw [hr] at t12 ⊢
      simp only [if_true]
      obtain ⟨x, hx⟩ : ∃ x, x = th.word := ⟨_, rfl⟩
      rw [← hx] at t11 ⊢
      clear h he hr hx H
      go_enter Tryz.func16, Tryz.ntmps16
      go_wp2_with fail
      go_ret
      exact ⟨_, _, rfl, ⟨rfl, .inr ⟨w.heap.size, 1, _, rfl, Nat.zero_le _, heap_alloc_new w _, Nat.le_refl _, by decide, by simp, by simp⟩⟩, fun b hb => by cases hb; exact Nat.le_refl _, (Same.refl _ _).alloc _⟩
    · simp only [if_neg hr]
      have hne : (th.err != 0) = true := by simpa using hr
      obtain ⟨x, hx⟩ : ∃ x, x = th.err := ⟨_, rfl⟩
      rw [← hx] at t12 hne
      clear h he hr hx H t11
      go_enter Tryz.func16, Tryz.ntmps16
      go_wp2_with fail
      go_ret
      exact ⟨none, 0, rfl, World.ownsRow_nil _ _ _ _, (fun b hb => by cases hb), Same.refl _ _⟩
  · have he' : th.ended = false := by simpa using he
    rw [he'] at t10 ⊢
    simp only [Bool.false_eq_true, if_false]
    clear he he' t11 t12
    obtain ⟨A, C, hsv⟩ := own_lit h.st
    obtain ⟨A2, D, hfv⟩ := own_lit h.fr
    subst hsv hfv
    obtain ⟨i0, hi1, hz0, hz1, hz2⟩ := info_parts infoV_W
    have HI0 := Lib.hid (And.intro hi1 (And.intro hz0 (And.intro hz1 hz2)))
    have c5 : w.cell? ⟨T, 5, none⟩ = some (.slice A th.st.length C) := h.b.cell 5
    have c4 : w.cell? ⟨T, 4, none⟩ = some (.slice A2 th.fr.length D) := h.b.cell 4
    have c8 : w.cell? ⟨T, 8, none⟩ = some rv := h.b.cell 8
    have HCL := Lib.hid (cloneW_any (w := w) (.slice A th.st.length C) th.st.length (fun i _ => .int .u64 (th.st.getD i 0)) (h.st.sq (fun i j hi hj => by
      obtain rfl : j = 0 := by omega
      rw [Nat.mul_one, Nat.add_zero, List.getElem?_map, List.getElem?_eq_getElem hi, List.getD, List.getElem?_eq_getElem hi]; rfl)) (fun i j _ _ => rfl) (by omega))
    clear h hi1 hz0 hz1 hz2
    go_enter Tryz.func16, Tryz.ntmps16
    go_wp2_with fail
    refine HCL.out.mono ?_
    rintro e w1 ⟨A3, C3, rfl, hown, hnew, hs1⟩
    have hN1 : NewW w th.st A3 C3 w1 := ⟨by
      rw [show vals th.st.length (cellsOf 1 (fun i _ => Value.int .u64 (th.st.getD i 0))) = th.st.map (Value.int .u64) from vals_W th.st] at hown
      exact hown, hnew, hs1⟩
    have d4 := (hs1.cell tz (by simp)).trans c4
    have d8 := (hs1.cell tz (by simp)).trans c8
    have HN1 := Lib.hid hN1
    clear hown hnew hs1 hN1 HCL c4 c5 c8 t10
    go_wp2_with fail
    go_loopg [3, 33] th.fr.length (fun gk lv i wr => ∃ (j : Nat) (ls : List Int) (B : Option Addr) (E : Nat), j ≤ th.fr.length ∧ gk = th.fr.length - j ∧ i = .int .i64 j ∧ lv = .slice B ls.length E ∧ ls = th.st ++ (th.fr.take j).map Fr.env ∧ NewW w ls B E wr)
    case atStart => exact ⟨0, th.st, A3, C3, Nat.zero_le _, rfl, rfl, rfl, by simp, HN1.out⟩
    case round =>
      obtain ⟨j, ls, B, E, hj, rfl, rfl, rfl, hls, hN⟩ := hrel
      have hlen : ls.length ≤ 2000000 := by rw [hls]; simp; omega
      have HN := Lib.hid hN
      have d8 := (hN.2.2.cell tz (by simp)).trans (H.out.b.cell 8)
      simp only [List.getElem?_cons_zero, List.getElem?_cons_succ] at d8
      have dz := Nat.lt_of_lt_of_le tz hN.2.2.size
      clear hN HN1
      by_cases hlt : j < th.fr.length
      · obtain ⟨g, D2, e2, gz, hcell⟩ := fr_cell H.out j hlt
        injection e2 with e2 _ e3
        subst e2 e3
        have f0 := (HN.out.2.2.cell gz (by simp)).trans (hcell 0 (by decide))
        have f1 := (HN.out.2.2.cell gz (by simp)).trans (hcell 1 (by decide))
        have f2 := (HN.out.2.2.cell gz (by simp)).trans (hcell 2 (by decide))
        have f3 := (HN.out.2.2.cell gz (by simp)).trans (hcell 3 (by decide))
        obtain ⟨fj, hfj⟩ : ∃ f, f = th.fr.getD j ⟨0, 0, 0, 0⟩ := ⟨_, rfl⟩
        rw [← hfj] at f0 f1 f2 f3
        simp only [frC, List.getElem?_cons_zero, List.getElem?_cons_succ, Nat.add_zero] at f0 f1 f2 f3
        have hls2 : th.st ++ (th.fr.take (j + 1)).map Fr.env = ls ++ [fj.env] := by
          rw [hls, List.take_succ_eq_append_getElem hlt, List.map_append, List.append_assoc, hfj, List.getD_eq_getElem?_getD, List.getElem?_eq_getElem hlt]
          rfl
        have HL2 := Lib.hid hls2
        have gz2 := Nat.lt_of_lt_of_le gz HN.out.2.2.size
        have b1 : (0 : Int) ≤ (j : Int) := by omega
        have b2 : (j : Int) < (th.fr.length : Int) := by omega
        clear hls hcell hfj hls2 d4 gz
        go_upto_region 9 with fail
        obtain ⟨wq, hwq⟩ : ∃ wq, wq = wr.alloc (.cells #[.int .i64 fj.proc, .int .i64 fj.at_, .int .u64 fj.env, .int .i64 fj.base] 81) := ⟨_, rfl⟩
        rw [← hwq]
        have hbq : Blk wq wr.heap.size 81 [.int .i64 fj.proc, .int .i64 fj.at_, .int .u64 fj.env, .int .i64 fj.base] := by rw [hwq]; exact Blk.new wr _ _
        have q2 : wq.cell? ⟨wr.heap.size, 2, none⟩ = some (.int .u64 fj.env) := hbq.cell 2
        have qz := hbq.lt
        have HS := Lib.hid (show Same [] wr wq from by rw [hwq]; exact (Same.refl _ _).alloc _)
        clear hwq hbq
        go_wp2_with (at_builtin; refine wpList_append_lies _ rfl (.tmp 37) (.tmp 40) 23 rfl 0 30 i0 _ 1 8 Tryz.underlying23 HI0.out.1 HI0.out.2.1 HI0.out.2.2.1 HI0.out.2.2.2 rfl (by decide) (.slice B ls.length E) ls.length (ls.map (Value.int .u64)) rfl (HN.out.1.frame (HS.out.alloc _) (by simp)) _ 1 1 [.int .u64 fj.env] rfl rfl (cells1_new _ _ _) (by intro u hu; simp at hu; subst hu; rfl) (by omega) (by unfold maxLen; omega) (by omega) (Nat.zero_le _) _ rfl ?_)
        intro g5 C5 w5 hown hgrow hat hlt5
        have hsA : Same (Value.slice B ls.length E).ownBlock.toList wr w5 := ((HS.out.mono (by simp)).alloc _).trans (Same.of_grown hgrow)
        have HN5 := Lib.hid (HN.out.add (m := [fj.env]) hown hsA (by
          rcases hat with h | h
          · exact .inl h
          · right; rw [h]; have := HS.out.size; omega))
        clear hown hgrow hat hlt5 hsA f0 f1 f2 f3 gz2 d8 dz q2 qz
        go_wp2_with fail
        go_roundg (th.fr.length - (j + 1))
        case measure => omega
        case rel => exact ⟨j + 1, ls ++ [fj.env], some ⟨g5, 0, none⟩, C5, by omega, rfl, by go_num, by simp, HL2.out.symm, HN5.out⟩
      · obtain rfl : j = th.fr.length := by omega
        rw [List.take_length] at hls
        have HL2 := Lib.hid hls
        have hq := H.out.rq
        cases hreq : th.req with
        | none =>
          rw [hreq] at hq
          have HRQ := Lib.hid hreq
          clear hreq
          have e : rv = .slice none 0 0 := hq
          subst e
          clear hls hq
          go_wp2_with (at_builtin; refine wpList_append_nil rfl (.tmp 43) (.tmp 47) 23 rfl 30 i0 1 Tryz.underlying23 HI0.out.1 (.slice B ls.length E) ls.length (ls.map (Value.int .u64)) rfl HN.out.1 rfl ?_)
          go_wp2_with fail
          go_ret
          rw [HRQ.out]
          refine ⟨B, E, ?_, ?_⟩
          · simp [reqL, ← HL2.out]
          · simp only [reqL, List.append_nil]; rw [← HL2.out]; exact HN.out
        | some p =>
          obtain ⟨ra, rb⟩ := p
          rw [hreq] at hq
          have HRQ := Lib.hid hreq
          clear hreq
          obtain ⟨g, C8, e, ho⟩ := hq
          subst e
          have ho2 := ho.frame HN.out.2.2 (by simp)
          have hnews : ∀ i u, [Value.int .u64 ra, Value.int .u64 rb][i]? = some u → wr.cell? ((⟨g, 0, none⟩ : Addr).add i) = some u := fun i u hu => by
            have hadd : (⟨g, 0, none⟩ : Addr).add i = ⟨g, i, none⟩ := by unfold Addr.add; split <;> simp_all
            have hi : i < 2 := by
              rcases Nat.lt_or_ge i 2 with h | h
              · exact h
              · rw [List.getElem?_eq_none (by simpa using h)] at hu; cases hu
            rw [hadd, (own_cell ho2 i (by omega)).1]; exact hu
          have HNW := Lib.hid hnews
          clear hls ho ho2 hnews
          go_wp2_with (at_builtin; refine wpList_append_lies _ rfl (.tmp 43) (.tmp 47) 23 rfl 0 30 i0 _ 1 8 Tryz.underlying23 HI0.out.1 HI0.out.2.1 HI0.out.2.2.1 HI0.out.2.2.2 rfl (by decide) (.slice B ls.length E) ls.length (ls.map (Value.int .u64)) rfl HN.out.1 _ 2 C8 [.int .u64 ra, .int .u64 rb] rfl rfl HNW.out (by intro u hu; simp at hu; rcases hu with rfl | rfl <;> rfl) (by omega) (by unfold maxLen; omega) (by omega) (Nat.zero_le _) _ rfl ?_)
          intro g5 C5 w5 hown hgrow hat hlt5
          have HN5 := Lib.hid (HN.out.add (m := [ra, rb]) hown (Same.of_grown hgrow) (by
            rcases hat with h | h
            · exact .inl h
            · right; rw [h]; exact Nat.le_refl _))
          clear hown hgrow hat hlt5 d8 dz
          go_wp2_with fail
          go_ret
          have e : th.st ++ th.fr.map Fr.env ++ reqL (some (ra, rb)) = ls ++ [ra, rb] := by rw [HL2.out]; rfl
          rw [HRQ.out, e]
          exact ⟨some ⟨g5, 0, none⟩, C5, by simp, HN5.out⟩
end Vm
end Go.Proofs.YtkepcdbogeineaaGreatDoor
