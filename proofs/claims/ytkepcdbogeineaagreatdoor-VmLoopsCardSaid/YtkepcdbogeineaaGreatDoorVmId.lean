/- What a call does: begin; applies. (Printed by mkVmId.py.) -/
import Derived.Test.YtkepcdbogeineaaGreatDoorVmIc
import Derived.Test.YtkepcdbogeineaaGreatDoorVmN
namespace Go.Proofs.YtkepcdbogeineaaGreatDoor
open Go.RowKit Hp Ck
namespace Vm
variable {w w' w1 W W' : World} {k : Kx} {th th' : Th} {FT G G1 : List Nat} {t t' : Toy}

theorem infoV_F : (Tryz.prog.info? 81).map (fun i => (i.zero, i.size, i.bytes)) = some (some (.agg #[.int .i64 0, .int .i64 0, .int .u64 0, .int .i64 0]), 4, 32) := by kernel_rfl

/-- A frame more. -/
theorem ThAt.pushedF {T M : Nat} {cv pv gv sv rv : Value} {kvs : List Value} {FC : List Nat} {A : Option Addr} {C g C' : Nat} {f : Fr} {w5 : World} (h : ThAt w T M cv pv gv (.slice A th.fr.length C) sv rv kvs th FC FT)
    (hown : Ow w5 81 4 (.slice (some ⟨g, 0, none⟩) (th.fr.length + 1) C') (th.fr.length + 1) (flatF th.fr ++ frC f)) (hs : Same (Value.slice A th.fr.length C).ownBlock.toList w w5) (hat : (Value.slice A th.fr.length C).ownBlock = some g ∨ w.heap.size ≤ g) (hlt : g < w5.heap.size) :
    Gs w T M cv pv gv kvs { th with fr := th.fr ++ [f] } FC FT (w5.setCell ⟨T, 4, none⟩ (.slice (some ⟨g, 0, none⟩) (th.fr.length + 1) C')) := by
  have hsF : Same FT w w5 := hs.mono (fun y hy => .inl (h.inF y (by simpa using hy)))
  have hb5 : Blk w5 T 84 (thC M cv pv gv (.slice A th.fr.length C) sv rv th) := Blk.frame h.b hs (fun hm => h.fne T (by simpa using hm) (by simp))
  have hgT : g ≠ T := fun e => by
    rcases hat with h1 | h1
    · exact h.fne g h1 (by rw [e]; simp)
    · have := h.b.lt; omega
  have hS : Same FT w (w5.setCell ⟨T, 4, none⟩ (.slice (some ⟨g, 0, none⟩) (th.fr.length + 1) C')) := hsF.setCell (.inl h.inT) _
  have hS1 : Same [T] w5 (w5.setCell ⟨T, 4, none⟩ (.slice (some ⟨g, 0, none⟩) (th.fr.length + 1) C')) := (Same.refl _ _).setCell (by simp) _
  refine ⟨.slice (some ⟨g, 0, none⟩) (th.fr.length + 1) C', sv, rv, g :: FT, h.upd (th' := { th with fr := th.fr ++ [f] }) hS ?_ rfl ?_ ?_ ?_ (List.mem_cons_of_mem _ h.inT) (fun b hb => ?_) (fun b hb => List.mem_cons_of_mem _ (h.inS b hb)) (fun b hb => List.mem_cons_of_mem _ (h.inR b hb)) h.srd (fun b hb => ?_) (fun b hb => ?_), hS, fun b hb => ?_⟩
  · exact Blk.set hb5 4 _
  · have h2 := hown.frame hS1 (fun b hb hm => hgT (by cases hb; simpa using hm))
    simpa [flatF] using h2
  · exact (h.st.frame hs (fun b hb hm => h.st.ne h.fr (by decide) hb (by simpa using hm))).frame hS1 h.sne
  · refine (h.rq.frame hs (fun b hb hm => ?_)).frame hS1 h.rne
    obtain ⟨n, xs, ho⟩ := h.rq.type
    exact ho.ne h.fr (by decide) hb (by simpa using hm)
  · cases hb; simp
  · rcases List.mem_cons.1 hb with h1 | h1
    · subst h1
      rcases hat with h2 | h2
      · exact .inl (h.inF b h2)
      · exact .inr h2
    · exact .inl h1
  · rcases List.mem_cons.1 hb with h1 | h1
    · subst h1; simpa using hlt
    · exact Nat.lt_of_lt_of_le (h.tl b h1) hS.size
  · rcases List.mem_cons.1 hb with h1 | h1
    · subst h1
      rcases hat with h2 | h2
      · exact .inl (h.inF b h2)
      · exact .inr h2
    · exact .inl h1

/-- A frame of the procedure that was loaded begins. -/
def Th.begin (th : Th) (base : Nat) : Th := { th with st := th.st.take base, phase := 0, fr := th.fr ++ [⟨(ofN' th.number).toNat, 0, th.at 0, base⟩] }
set_option maxHeartbeats 4000000 in
set_option maxRecDepth 100000 in
theorem begin_any {T M : Nat} {cv pv gv fv sv rv : Value} {kvs : List Value} {FC : List Nat} (h : ThAt w T M cv pv gv fv sv rv kvs th FC FT) (hv : Vars w) (hst : 0 < th.st.length) (base : Nat) (hb : base ≤ th.st.length) (hl : th.fr.length ≤ 1000000) (hnum : 0 ≤ th.number ∧ th.number < 18446744073709551616) (hp : 0 ≤ ofN' th.number) :
    Calls Tryz.prog 84 #[.pointer (some ⟨T, 0, none⟩), .int .i64 base] w fun e w' => e = .returned (.tuple #[]) ∧ Gs w T M cv pv gv kvs (th.begin base) FC FT w' := by
  have HI := Lib.hid (integer_any th.number hnum hv)
  have HT := Lib.hid (top_any h 0 hst)
  obtain ⟨A, C, hsv⟩ := st_lit h
  subst hsv
  obtain ⟨hc1, hc2⟩ := cap_le h rfl
  obtain ⟨A2, C2, hfv⟩ := own_lit h.fr
  subst hfv
  obtain ⟨i0, hi1, hz0, hz1, hz2⟩ := info_parts infoV_F
  have HI0 := Lib.hid (And.intro hi1 (And.intro hz0 (And.intro hz1 hz2)))
  have t7 : w.cell? ⟨T, 7, none⟩ = some (.int .u64 th.number) := h.b.cell 7
  have t5 : w.cell? ⟨T, 5, none⟩ = some (.slice A th.st.length C) := h.b.cell 5
  have t6 : w.cell? ⟨T, 6, none⟩ = some (.int .i64 th.phase) := h.b.cell 6
  have t4 : w.cell? ⟨T, 4, none⟩ = some (.slice A2 th.fr.length C2) := h.b.cell 4
  have tz := h.b.lt
  have tf := h.b.frozen
  have H := Lib.hid h
  obtain ⟨pn, hpn⟩ : ∃ pn : Nat, ofN' th.number = pn := ⟨(ofN' th.number).toNat, by omega⟩
  rw [hpn] at HI
  have HPN := Lib.hid hpn
  obtain ⟨x, hx⟩ : ∃ x, x = th.at 0 := ⟨_, rfl⟩
  rw [← hx] at HT
  have HX := Lib.hid hx
  have b0 : (0 : Int) ≤ (base : Int) := by omega
  have b1 : (base : Int) ≤ (C : Int) := by omega
  clear h hv hnum hp hpn hx hi1 hz0 hz1 hz2
  go_enter Tryz.func84, Tryz.ntmps84
  go_wp2_with fail
  refine HI.out.mono ?_
  rintro e w1 ⟨rfl, rfl⟩
  go_wp2_with fail
  refine HT.out.mono ?_
  rintro e w1 ⟨g, C9, e9, rfl, kc, -, gz, -, hs1⟩
  injection e9 with e9 _ e9c
  subst e9 e9c
  have kc1 : w1.cell? ⟨g, th.st.length - 1, none⟩ = some (.int .u64 x) := (hs1.cell gz (by simp)).trans (by simpa using kc)
  have d5 := (hs1.cell tz (by simp)).trans t5
  have d6 := (hs1.cell tz (by simp)).trans t6
  have d4 := (hs1.cell tz (by simp)).trans t4
  have HQ := Lib.hid (H.out.frame0 hs1)
  have qf := HQ.out.b.frozen
  have HS1 := Lib.hid hs1
  clear t7 t5 t6 t4 tf kc gz hs1
  go_upto_region 4 with fail
  have hd := HQ.out.dropped (n := th.st.length - base) (by omega) (Same.refl [] _)
  rw [show th.st.length - (th.st.length - base) = base from by omega] at hd
  have hd2 := hd.scal (th' := { th with st := th.st.take base, phase := 0 }) 6 (.int .i64 0) rfl rfl rfl rfl rfl
  have hs2 : Same FT w1 ((w1.setCell ⟨T, 5, none⟩ (.slice (some ⟨g, 0, none⟩) base C)).setCell ⟨T, 6, none⟩ (.int .i64 0)) := (((Same.refl FT w1).setCell (.inl HQ.out.inT) _).setCell (.inl HQ.out.inT) _)
  obtain ⟨w2, hw2⟩ : ∃ w2, w2 = (w1.setCell ⟨T, 5, none⟩ (.slice (some ⟨g, 0, none⟩) base C)).setCell ⟨T, 6, none⟩ (.int .i64 0) := ⟨_, rfl⟩
  rw [← hw2] at hd2 hs2 ⊢
  have H2 := Lib.hid hd2
  have HS2 := Lib.hid hs2
  have f4 : w2.cell? ⟨T, 4, none⟩ = some (.slice A2 th.fr.length C2) := hd2.b.cell 4
  have f4z := hd2.b.lt
  have f4f := hd2.b.frozen
  have HT4 : Hid (T ∉ (Value.slice A2 th.fr.length C2).ownBlock.toList) := Lib.hid (fun hm => hd2.fne T (by simpa using hm) (by simp))
  clear hw2 hd hd2 hs2 d4 d5 d6 qf kc1
  go_wp2_with (at_builtin; refine wpList_append_lies _ rfl (.tmp 35) (.tmp 40) 82 rfl 0 81 i0 _ 4 32 Tryz.underlying82 HI0.out.1 HI0.out.2.1 HI0.out.2.2.1 HI0.out.2.2.2 rfl (by decide) (.slice A2 th.fr.length C2) th.fr.length (flatF th.fr) rfl (H2.out.fr.frame ((Same.refl [] w2).alloc _) (by simp)) _ 1 1 [.int .i64 pn, .int .i64 0, .int .u64 x, .int .i64 base] rfl rfl (cells4_new _ _ _ _ _ _) (by intro u hu; simp at hu; rcases hu with rfl | rfl | rfl | rfl <;> rfl) (by omega) (by unfold maxLen; omega) (by omega) (Nat.zero_le _) _ rfl ?_)
  intro g5 C5 w5 hown hgrow hat hlt
  have hsA : Same (Value.slice A2 th.fr.length C2).ownBlock.toList w2 w5 := ((Same.refl _ w2).alloc _).trans (Same.of_grown hgrow)
  have hx1 := (hsA.cell f4z HT4.out).trans f4
  have hx2 : ∀ j, w5.frozen? ⟨T, j, none⟩ = false := (fun j => (hsA.frozen f4z HT4.out).trans (f4f j))
  have HG := Lib.hid (ThAt.pushedF (th := { th with st := th.st.take base, phase := 0 }) (f := ⟨pn, 0, x, base⟩) H2.out hown hsA (by
    rcases hat with h | h
    · exact .inl h
    · right; rw [h]; simp) hlt)
  clear hown hgrow hat hlt hsA f4
  go_wp2_with fail
  go_end0
  have e : th.begin base = { th with st := th.st.take base, phase := 0, fr := th.fr ++ [⟨pn, 0, x, base⟩] } := by
    unfold Th.begin
    rw [HPN.out, ← HX.out, Int.toNat_natCast]
  rw [e]
  exact ⟨rfl, Gs.trans ((HS1.out.mono (by simp)).trans HS2.out) (fun b hb => .inl hb) HG.out⟩
end Vm
end Go.Proofs.YtkepcdbogeineaaGreatDoor
