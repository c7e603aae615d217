/- Instructions: return. -/
import Derived.Test.YtkepcdbogeineaaGreatDoorVmU
import Derived.Test.YtkepcdbogeineaaGreatDoorVmN
import Derived.Deep.RegionWith
import Derived.BigRegion
namespace Go.Proofs.YtkepcdbogeineaaGreatDoor
open Go.RowKit Hp Ck
namespace Vm
variable {w w' w1 W W' : World} {k : Kx} {th th' : Th} {FT G : List Nat} {t t' : Toy}

def retM (th : Th) (t : Toy) : Out :=
  if th.fr.length = 1 then .did { what := 17, new := th.at 0 } [] { th with st := th.st.take th.top.base, fr := th.fr.take (th.fr.length - 1), ended := true, word := th.at 0, err := 0 } t
  else .quiet { th with st := th.st.take th.top.base ++ [th.at 0], fr := th.fr.take (th.fr.length - 1) } t

set_option maxHeartbeats 4000000 in
set_option maxRecDepth 100000 in
theorem returns_any (h : Sit k w th t FT G) (hst : 0 < th.st.length) (hfn : th.fr ≠ []) (hb : th.top.base ≤ th.st.length) (hl : th.st.length ≤ 1000000) (hv : Value) (a : Int) :
    Calls Tryz.prog 54 #[.pointer (some ⟨k.T, 0, none⟩), hv, .int .i64 a] w (InsP k w FT G (retM th t)) := by
  unfold retM
  obtain ⟨x, hx⟩ : ∃ x, x = th.at 0 := ⟨_, rfl⟩
  rw [← hx]
  have HX := Lib.hid hx
  obtain ⟨b, hbE⟩ : ∃ b, b = th.top.base := ⟨_, rfl⟩
  rw [← hbE]
  have HBE := Lib.hid hbE
  rw [← hbE] at hb
  have HB := Lib.hid (VB.open_ h)
  clear h hx hbE
  have key : ∀ (P : Ending → World → Prop), InsP k w FT G (if th.fr.length = 1 then .did { what := 17, new := x } [] { th with st := th.st.take b, fr := th.fr.take (th.fr.length - 1), ended := true, word := x, err := 0 } t else .quiet { th with st := th.st.take b ++ [x], fr := th.fr.take (th.fr.length - 1) } t) = P → Calls Tryz.prog 54 #[.pointer (some ⟨k.T, 0, none⟩), hv, .int .i64 a] w P := by
    intro P hP
    have HPP := Lib.hid hP
    clear hP
    go_enter Tryz.func54, Tryz.ntmps54
    go_wp2_with fail
    obtain ⟨w0, hw0⟩ : ∃ w0, w0 = w.alloc (.cells #[.int .i64 0, .int .u8 0, .int .i64 0, .int .i64 0, .int .u64 0, .int .u64 0, .slice none 0 0, .int .i64 0, .bool false, .int .i64 0] 44) := ⟨_, rfl⟩
    rw [← hw0]
    have HB0 := Lib.hid (HB.out.box zeros hw0)
    clear hw0
    obtain ⟨fv, sv, rv, q⟩ := HB0.out.sit.vt.th
    obtain ⟨A, C, g, D, rfl, rfl, kb, gz⟩ := ret_stack q hfn
    obtain ⟨hc1, hc2⟩ := cap_le q rfl
    have c5 : w0.cell? ⟨k.T, 5, none⟩ = some (.slice A th.st.length C) := q.b.cell 5
    have tz := q.b.lt
    have HQ := Lib.hid q
    rw [← HBE.out] at kb
    refine (top_any q 0 hst).mono ?_
    rintro e w1 ⟨g9, C9, e9, rfl, kc, -, g9z, -, hs1⟩
    rw [← HX.out] at kc
    have kc1 : w1.cell? ⟨g9, th.st.length - 1, none⟩ = some (.int .u64 x) := (hs1.cell g9z (by simp)).trans (by simpa using kc)
    injection e9 with e9 _ e9c
    subst e9 e9c
    have d5 : w1.cell? ⟨k.T, 5, none⟩ = some (.slice (some ⟨g9, 0, none⟩) th.st.length C) := (hs1.cell tz (by simp)).trans c5
    have dz := Nat.lt_of_lt_of_le tz hs1.size
    have db : w1.cell? ⟨g, (th.fr.length - 1) * 4 + 3, none⟩ = some (.int .i64 b) := (hs1.cell gz (by simp)).trans (by simpa using kb)
    have dgz := Nat.lt_of_lt_of_le gz hs1.size
    have HB1 := Lib.hid (HB0.out.same hs1)
    have HS1 := Lib.hid hs1
    have b0 : (0 : Int) ≤ (b : Int) := by omega
    have b1 : (b : Int) ≤ (C : Int) := by omega
    have HFm := Lib.hid (fun W (hs : Same [] w1 W) => frame_any (HQ.out.frame0 (hs1.trans hs)) hfn)
    clear hs1 c5 kb kc q
    go_wp2_with fail
    go_cut [] (fun wx => ∃ FT1 G1, VB k w wx { th with st := th.st.take b } t FT G FT1 G1 [] (.slice none 0 0) [(w.heap.size, 44, zeros)])
    case first =>
      go_region_with (first
        | (go_simp; go_at_call 79; refine (HFm.out _ (by repeat (first | exact Same.refl _ _ | refine Same.drew ?_ | refine Same.drewN ?_ _))).mono ?_; rintro e w2 ⟨g2, C2, e2, rfl, hs2⟩; injection e2 with e2 _ _; injection e2 with e2; injection e2 with e2 _ _; subst e2; have HS2 : Hid (Same [] w1 w2) := Lib.hid (Same.trans (by repeat (first | exact Same.refl _ _ | refine Same.drew ?_ | refine Same.drewN ?_ _)) hs2); have s5 := (HS2.out.cell dz (by simp)).trans d5; have sb := (HS2.out.cell dgz (by simp)).trans db; have sf : ∀ j, w2.frozen? ⟨k.T, j, none⟩ = false := (fun j => (HQ.out.frame0 (HS1.out.trans HS2.out)).b.frozen j); clear hs2))
      all_goals
        go_wp2_with fail
        go_meet
        have hd := HQ.out.dropped (n := th.st.length - b) (by omega) (HS1.out.trans HS2.out)
        have e : th.st.length - (th.st.length - b) = b := by omega
        rw [e] at hd
        have hB2 := HB1.out.same HS2.out
        have hq1 : ThAt w2 k.T k.M k.cv k.pv k.gv _ _ _ k.kvs th k.FC FT := HQ.out.frame0 (HS1.out.trans HS2.out)
        have hg := Gs.of (w := w2) hd ((Same.refl FT w2).setCell (.inl hq1.inT) _)
        obtain ⟨FT1, G1, h3⟩ := hB2.callT hg
        first
          | exact ⟨FT1, G1, h3⟩
          | exact ⟨FT1, G1, h3.same ((Same.refl [] _).drew)⟩
    case rest =>
      obtain ⟨FT1, G1, h2⟩ := hcut
      clear d5 dz db dgz kc1 g9z gz tz HFm HS1 HB1 HB0 HQ b0 b1 hc1 hc2
      obtain ⟨th2, hth2⟩ : ∃ s : Th, s = { th with st := th.st.take b } := ⟨_, rfl⟩
      rw [← hth2] at h2
      have hfr2 : th2.fr = th.fr := by rw [hth2]
      have HTH2 := Lib.hid hth2
      have hfn2 : th2.fr ≠ [] := by rw [hfr2]; exact hfn
      have hL2 : th2.fr.length = th.fr.length := by rw [hfr2]
      have HFR2 := Lib.hid hfr2
      clear hth2 hfr2
      obtain ⟨fv2, sv2, rv2, q2⟩ := h2.sit.vt.th
      obtain ⟨A2, C2, g2, D2, rfl, rfl, -, -⟩ := ret_stack q2 hfn2
      have HB2 := Lib.hid h2
      have c4 := q2.b.cell 4
      have tf := q2.b.frozen
      have HQ2 := Lib.hid q2
      obtain ⟨L, hL⟩ : ∃ L, L = th2.fr.length := ⟨_, rfl⟩
      have hLp : 0 < L := by rw [hL]; exact List.length_pos_iff.2 hfn2
      have hLD : L ≤ D2 ∧ D2 ≤ 9223372036854775807 := by
        rcases q2.fr.2 with ⟨e1, h0⟩ | ⟨g, cap, cur, e1, _, _, h1, h2, _⟩
        · cases e1
        · injection e1 with _ _ e3
          unfold maxLen at h2
          omega
      simp only [List.getElem?_cons_zero, List.getElem?_cons_succ] at c4
      rw [← hL] at c4
      have HL := Lib.hid hL
      have m1 : IntKind.i64.wrap ((L : Int) - 1) = (L : Int) - 1 := by rw [IntKind.wrap_i64]; omega
      have m2 : (0 : Int) ≤ (L : Int) - 1 := by omega
      have m3 : (L : Int) - 1 ≤ (D2 : Int) := by omega
      have m4 : ((L : Int) - 1).toNat = L - 1 := by omega
      clear h2 q2 hL
      go_wp2_with fail
      go_cut [] (fun wx => ∃ FT1 G1, VB k w wx { th2 with fr := th2.fr.take (L - 1) } t FT G FT1 G1 [] (.slice none 0 0) [(w.heap.size, 44, zeros)])
      case first =>
        go_region
        all_goals
          go_wp2_with fail
          go_meet
          have hd := HQ2.out.cutF (n := L - 1) (by rw [← HL.out]; omega) (Same.refl [] _)
          obtain ⟨FT2, G2, h3⟩ := HB2.out.callT (Gs.of hd ((Same.refl _ _).setCell (.inl HQ2.out.inT) _))
          exact ⟨FT2, G2, h3.same ((Same.refl [] _).drew)⟩
      case rest =>
        obtain ⟨FT2, G2, h3⟩ := hcut
        clear c4 tf HQ2 HB2 m1 m2 m3 m4
        obtain ⟨th3, hth3⟩ : ∃ s : Th, s = { th2 with fr := th2.fr.take (L - 1) } := ⟨_, rfl⟩
        rw [← hth3] at h3
        have hl3 : th3.fr.length = L - 1 := by rw [hth3]; simp only [List.length_take]; rw [← HL.out]; omega
        obtain ⟨fv3, sv3, rv3, q3⟩ := h3.sit.vt.th
        obtain ⟨A3, C3, rfl⟩ := own_lit q3.fr
        have HB3 := Lib.hid h3
        have HQ3 := Lib.hid q3
        have c4 := q3.b.cell 4
        simp only [List.getElem?_cons_zero, List.getElem?_cons_succ] at c4
        rw [hl3] at c4
        have HT3 := Lib.hid (And.intro hth3 (And.intro hl3 (And.intro HTH2.out HL.out)))
        have tz := q3.b.lt
        have tf := q3.b.frozen
        clear h3 q3 hth3 hl3 hL2 hfn2 HL HTH2 HFR2
        by_cases hone : L = 1
        · subst hone
          simp only [Nat.sub_self] at c4
          have t10 := HQ3.out.b.cell 10
          have t11 := HQ3.out.b.cell 11
          have t12 := HQ3.out.b.cell 12
          simp only [List.getElem?_cons_zero, List.getElem?_cons_succ] at t10 t11 t12
          obtain ⟨r0, r1, r2, r3, r4, r5, r6, r7, r8, r9, rz, rf⟩ := HB3.out.get (List.Mem.head _)
          go_wp2_with fail
          refine bodyPost_ret (v := .tuple #[.agg (evC { what := 17, new := x } (.slice none 0 0)).toArray, .bool true]) (by simp [results, Tryz.results54, go_sem, evC, r0, r1, r2, r3, r4, r5, r6, r7, r8, r9]) rfl ?_
          obtain ⟨a1, a2, a3, a4⟩ := HT3.out
          have a5 : th.fr.length = 1 := by rw [a4, a3]
          rw [← HPP.out, if_pos a5]
          have h1 := HQ3.out.scal (th' := { th3 with ended := true }) 10 (.bool true) rfl rfl rfl rfl rfl
          have h2 := h1.scal (th' := { th3 with ended := true, word := x }) 11 (.int .u64 x) rfl rfl rfl rfl rfl
          have h3 := h2.scal (th' := { th3 with ended := true, word := x, err := 0 }) 12 (.int .i64 0) rfl rfl rfl rfl rfl
          obtain ⟨FT4, G4, h4⟩ := HB3.out.callT (Gs.of h3 ((((Same.refl FT2 wc).setCell (.inl HQ3.out.inT) _).setCell (.inl HQ3.out.inT) _).setCell (.inl HQ3.out.inT) _))
          have e : ({ th3 with ended := true, word := x, err := 0 } : Th) = { th with st := th.st.take b, fr := th.fr.take (th.fr.length - 1), ended := true, word := x, err := 0 } := by rw [a1, a3, a5]
          rw [e] at h4
          exact ⟨_, rfl, h4.fin (List.Mem.head _) (same10 (Same.refl _ _) (.inl (by simp)) _ _ _ _ _ _ _ _ _ _)⟩
        · have hz : ((L - 1 : Nat) : Int) ≠ 0 := by omega
          have hz2 : (((L - 1 : Nat) : Int) == 0) = false := by simpa using hz
          obtain ⟨n3, hn3⟩ : ∃ n, n = L - 1 := ⟨_, rfl⟩
          rw [← hn3] at c4 hz hz2
          have HN3 := Lib.hid hn3
          obtain ⟨i0, hi1, hz0, hz1, hz2'⟩ := info_parts infoV_W
          have HI0 := Lib.hid (And.intro hi1 (And.intro hz0 (And.intro hz1 hz2')))
          obtain ⟨A5, C5, rfl⟩ := st_lit HQ3.out
          have c5 := HQ3.out.b.cell 5
          simp only [List.getElem?_cons_zero, List.getElem?_cons_succ] at c5
          obtain ⟨l5, hl5⟩ : ∃ l, l = th3.st.length := ⟨_, rfl⟩
          have hl5' : l5 ≤ 1000000 := by rw [hl5, HT3.out.1, HT3.out.2.2.1]; simp only [List.length_take]; omega
          have HT : Hid (k.T ∉ (Value.slice A5 th3.st.length C5).ownBlock.toList) := Lib.hid (fun hm => HQ3.out.sne k.T (by simpa using hm) (by simp))
          clear hi1 hz0 hz1 hz2' hn3
          have HL5 := Lib.hid hl5
          go_wp2_with (at_builtin; refine wpList_append_lies _ rfl (.tmp 57) (.tmp 59) 23 rfl 0 30 i0 _ 1 8 Tryz.underlying23 HI0.out.1 HI0.out.2.1 HI0.out.2.2.1 HI0.out.2.2.2 rfl (by decide) (.slice A5 th3.st.length C5) th3.st.length (th3.st.map (Value.int .u64)) rfl (HQ3.out.st.frame ((Same.refl [] wc).alloc _) (by simp)) _ 1 1 [.int .u64 x] rfl rfl (cells1_new _ _ _) (by intro u hu; simp at hu; subst hu; rfl) (by omega) (by unfold maxLen; omega) (by omega) (Nat.zero_le _) _ rfl ?_)
          intro g C' w5 hown hgrow hat hlt
          have hsA : Same (Value.slice A5 th3.st.length C5).ownBlock.toList wc w5 := ((Same.refl _ wc).alloc _).trans (Same.of_grown hgrow)
          have hx1 := (hsA.cell tz HT.out).trans c5
          have hx2 : ∀ j, w5.frozen? ⟨k.T, j, none⟩ = false := (fun j => (hsA.frozen tz HT.out).trans (tf j))
          have HG := Lib.hid (HQ3.out.pushed (x := x) hown hsA (by
            rcases hat with h | h
            · exact .inl h
            · right; rw [h]; simp) hlt)
          have hRF : w.heap.size ∉ FT2 := (HB3.out.bx _ (List.Mem.head _)).2.2.1
          have b5 : Blk w5 w.heap.size 44 zeros := (HB3.out.bx _ (List.Mem.head _)).1.frame hsA (fun hm => hRF (HQ3.out.inS _ (by simpa using hm)))
          have hRT : ¬ w.heap.size = k.T := fun e => hRF (by rw [e]; exact HQ3.out.inT)
          have r0 := b5.cell 0
          have r1 := b5.cell 1
          have r2 := b5.cell 2
          have r3 := b5.cell 3
          have r4 := b5.cell 4
          have r5 := b5.cell 5
          have r6 := b5.cell 6
          have r7 := b5.cell 7
          have r8 := b5.cell 8
          have r9 := b5.cell 9
          have rz := b5.lt
          have rf := b5.frozen
          simp only [zeros, List.getElem?_cons_zero, List.getElem?_cons_succ] at r0 r1 r2 r3 r4 r5 r6 r7 r8 r9
          clear hown hgrow hat hlt hsA b5 c5 c4 tf
          go_wp2_with fail
          refine bodyPost_ret (v := .tuple #[.agg (evC {} (.slice none 0 0)).toArray, .bool false]) (by simp [results, Tryz.results54, go_sem, evC, r0, r1, r2, r3, r4, r5, r6, r7, r8, r9]) rfl ?_
          obtain ⟨a1, a2, a3, a4⟩ := HT3.out
          have a5 : ¬ th.fr.length = 1 := by
            have : th2.fr.length = th.fr.length := by rw [a3]
            omega
          rw [← HPP.out, if_neg a5]
          obtain ⟨FT4, G4, h4⟩ := HB3.out.callT HG.out
          have e : ({ th3 with st := th3.st ++ [x] } : Th) = { th with st := th.st.take b ++ [x], fr := th.fr.take (th.fr.length - 1) } := by rw [a1, a4, a3]
          rw [e] at h4
          exact ⟨rfl, h4.fin (List.Mem.head _) (same10 (Same.refl _ _) (.inl (by simp)) _ _ _ _ _ _ _ _ _ _)⟩
  exact key _ rfl
end Vm
end Go.Proofs.YtkepcdbogeineaaGreatDoor
