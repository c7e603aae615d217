/- Layer 19, LocksInOrder: handed. -/
import Derived.Test.YtkfdoocmapjkbaaDoorLkO
namespace Go.Proofs.YtkfdoocmapjkbaaDoor
open Go.RowKit Hp
namespace Lk
variable {w w' W : World} {B : Nat} {m m' : Bk} {F G : List Nat} {ro : Value} {rvs : List Value}

theorem rowsOf_hand (m : Bk) (l : Int) : rowsOf (hand m l) = (rowsOf m).set l.toNat (m.lo l).row.tail := by
  unfold hand
  split
  · rename_i hc; rw [hc, rowsOf_set]; rfl
  · rename_i t r hc; rw [hc, rowsOf_setT, rowsOf_set]; rfl

set_option maxHeartbeats 1600000 in
set_option maxRecDepth 100000 in
theorem handed_any (t n : Int) (s : St w W B m F ro rvs G) (ht : m.is t = true) (hn : m.isL n = true) (hg : (m.th t).goes = true) :
    Calls Tryd.prog 15 #[.pointer (some ⟨B, 0, none⟩), .int .i64 t, .int .i64 n, ro] W fun e w' =>
      e = .returned (.tuple #[ro, .bool true]) ∧ ∃ F' rvs' G', St w w' B (unlockF m t n).2.2 F' ro rvs' G' ∧ Both F G F' G' W w' := by
  have hask : askF m t n = 0 := by simp [askF, ht, hn, hg]
  have hh : holderF m n = (m.lo n).ho := by simp [holderF, hn]
  have H1 := Lib.hid (own_holder s.own n _ hh)
  have hlk := own_unlock s.own s.hw t n (unlockF m t n).1 (unlockF m t n).2.1 (unlockF m t n).2.2 rfl
  have HLK := Lib.hid hlk
  have HS := Lib.hid s
  clear hlk
  have ht1 : 1 ≤ t := ((is_iff m t).1 ht).1
  have hn' := (isL_iff m n).1 hn
  rw [s.nl] at hn'
  obtain ⟨hn1, hn2⟩ := hn'
  by_cases h1 : (m.lo n).ho ≠ t
  · have e1 : unlockF m t n = (0, 192, m) := by unfold unlockF; rw [if_neg (by simp [hask]), if_pos h1]
    rw [e1] at HLK ⊢
    have e2 : ((m.lo n).ho != t) = true := by simpa using h1
    have HH := Lib.hid hh
    have et : ((m.lo n).ho == (m.lo n).ho) = true := by simp
    clear s hh h1 e1 hask ht hn hg
    generalize (m.lo n).ho = ho0 at *
    go_enter Tryd.func15, Tryd.ntmps15
    go_wp2_with fail
    refine H1.out.mono ?_
    rintro e w1 ⟨rfl, rfl⟩
    go_wp2_with fail
    refine HLK.out.mono ?_
    rintro e w2 ⟨rfl, F', ho, u⟩
    have S2 := Lib.hid (HS.out.upd ho u rfl HS.out.nt HS.out.nl)
    have H2 := Lib.hid (own_holder ho n _ HH.out)
    have U2 := Lib.hid (Both.of_upd u G)
    clear ho u
    go_wp2_with fail
    refine H2.out.mono ?_
    rintro e w3 ⟨rfl, rfl⟩
    go_wp2
    go_ret2
    exact ⟨rfl, F', rvs, G, S2.out, U2.out⟩
  · have h1 : (m.lo n).ho = t := by simpa using h1
    have e1 : unlockF m t n = (handTo m n, 0, hand m n) := by unfold unlockF; rw [if_neg (by simp [hask]), if_neg (by simp [h1])]
    rw [e1] at HLK ⊢
    rw [h1] at H1 hh
    have et : (t != t) = false := by simp
    obtain ⟨i5, i3, -, -⟩ := hand_inv m n
    rw [s.nt] at i5
    rw [s.nl] at i3
    have hisn : (hand m n).isL n = true := by rw [hand_isL]; exact hn
    have hh2 : holderF (hand m n) n = handTo m n := by simp only [holderF, hisn, if_true]; rw [hand_lo m n n hn hn, if_pos rfl]
    have hgr : (rowsOf m).getD n.toNat [] = (m.lo n).row := by
      have := rowsOf_get m n.toNat (by rw [s.nl]; omega)
      rw [this]; congr 2; omega
    have hin : n.toNat < (rowsOf m).length := by rw [rowsOf_len, s.nl]; omega
    have hlen8 := row_len8 s.own.ok hn
    have hl3 : (rowsOf m).length = 3 := by rw [rowsOf_len, s.nl]
    have hrh := rowsOf_hand m n
    have HH := Lib.hid hh2
    have HGR := Lib.hid hgr
    have HIN := Lib.hid hin
    have HL3 := Lib.hid hl3
    have HRH := Lib.hid hrh
    have L5 := Lib.hid i5
    have L3 := Lib.hid i3
    have HLO := Lib.hid h1
    cases hrow0 : (m.lo n).row with
    | nil =>
      have hto : handTo m n = 0 := by simp [handTo, hrow0]
      rw [hto] at HLK HH
      have hrs : rowsOf (hand m n) = rowsOf m := by
        rw [hrh, hrow0]
        have : (rowsOf m).getD n.toNat [] = [] := by rw [hgr, hrow0]
        have h2 := set_getD (rowsOf m) n.toNat []
        rw [this] at h2; exact h2
      have HRS := Lib.hid hrs
      have HRW := Lib.hid hrow0
      clear s hh h1 e1 hask ht hn hg hh2 i5 i3 hisn hgr hin hl3 hrh hrow0 hto hrs hlen8
      go_enter Tryd.func15, Tryd.ntmps15
      go_wp2_with fail
      refine H1.out.mono ?_
      rintro e w1 ⟨rfl, rfl⟩
      go_wp2_with fail
      refine HLK.out.mono ?_
      rintro e w2 ⟨rfl, F', ho, u⟩
      have ll2 := HS.out.ll.frame u.same HS.out.gf
      obtain ⟨g, off, cap, hro, hglt, hgG, hcell, hfr, hfar, -⟩ := ll2.at_ n.toNat HIN.out (by decide)
      have hrow := ll2.rows n.toNat HIN.out
      rw [HGR.out, HRW.out] at hrow
      obtain ⟨ra, rc, hra, -, -, -⟩ := hrow.form
      rw [hra] at hcell
      rw [HL3.out] at hro
      subst hro
      simp only [List.length_nil] at hcell
      have S2 := Lib.hid (HS.out.upd ho u HRS.out L5.out L3.out)
      have H2 := Lib.hid (own_holder ho n _ HH.out)
      have U2 := Lib.hid (Both.of_upd u G)
      clear ho u ll2 hrow hra hfar hgG
      go_wp2_with fail
      refine H2.out.mono ?_
      rintro e w3 ⟨rfl, rfl⟩
      go_wp2
      go_ret2
      exact ⟨rfl, F', rvs, G, S2.out, U2.out⟩
    | cons a r =>
      have hto : handTo m n = a := by simp [handTo, hrow0]
      rw [hto] at HLK HH
      have ha1 : 1 ≤ a := ((is_iff m a).1 (s.own.ok.rowIn n a hn (by rw [hrow0]; simp)).1).1
      have eaa : (a == a) = true := by simp
      rw [hrow0] at hrh hlen8
      simp only [List.tail_cons] at hrh
      simp only [List.length_cons] at hlen8
      have HRS := Lib.hid hrh
      have HRW := Lib.hid hrow0
      clear s hh h1 e1 hask ht hn hg hh2 i5 i3 hisn hgr hin hl3 hrow0 hto hrh HRH
      go_enter Tryd.func15, Tryd.ntmps15
      go_wp2_with fail
      refine H1.out.mono ?_
      rintro e w1 ⟨rfl, rfl⟩
      go_wp2_with fail
      refine HLK.out.mono ?_
      rintro e w2 ⟨rfl, F', ho, u⟩
      have ll2 := HS.out.ll.frame u.same HS.out.gf
      have gf2 := u.apart HS.out.gf HS.out.ll.lt
      obtain ⟨g, off, cap, hro, hglt, hgG, hcell, hfr, hfar, hset⟩ := ll2.at_ n.toNat HIN.out (by decide)
      have hrow := ll2.rows n.toNat HIN.out
      rw [HGR.out, HRW.out] at hrow
      obtain ⟨gr, or_, rc, hra, hrc, hrlt, hcr, -⟩ := hrow.at_ (by simp)
      rw [hra] at hcell
      rw [HL3.out] at hro
      subst hro
      simp only [List.length_cons] at hcell hrc
      have r0 : w2.cell? ⟨gr, or_, none⟩ = some (.int .i64 a) := by
        have := hcr 0 (by simp)
        simpa [nE] using this
      have hnews : ∀ j u, (r.flatMap (nE .i64))[j]? = some u → w2.cell? ⟨gr, or_ + 1 + j, none⟩ = some u := fun j u hu => by
        have hjl : j < r.length := by
          have := (List.getElem?_eq_some_iff.1 hu).1
          rw [flat_length (nE .i64) 1 (nE_len _)] at this; omega
        have := hcr (1 + j) (by simp; omega)
        rw [← Nat.add_assoc] at this
        rw [this, ← hu, Nat.add_comm 1 j]
        simp [nE]
      have HO := Lib.hid ho
      have HU := Lib.hid u
      have HLL := Lib.hid ll2
      have HGF := Lib.hid gf2
      have HSET := Lib.hid hset
      have HFAR := Lib.hid (hfar n.toNat HIN.out)
      have HGG := Lib.hid hgG
      have H2 := Lib.hid (own_holder ho n _ HH.out)
      have HNEWS := Lib.hid hnews
      obtain ⟨q, hq⟩ : ∃ q, q = r.length := ⟨_, rfl⟩
      have HQ := Lib.hid hq
      rw [← hq] at hcell hrc hlen8
      have i1 : (1 : Int) ≤ (rc : Int) := by omega
      have i2 : (q : Int) + 1 ≤ (rc : Int) := by omega
      have hone : Hid (∀ u ∈ r.flatMap (nE .i64), u.oneCell' = true) := Lib.hid (fun u hu => by
        rw [nE_map] at hu; obtain ⟨x, _, rfl⟩ := List.mem_map.1 hu; rfl)
      clear ho u ll2 gf2 hset hrow hfar hgG hcr hnews hq
      -- what stands behind the new list
      have FIN : Hid (∀ w3 v', Row w3 3 1 v' r.length (r.flatMap (nE .i64)) → Same [] w2 w3 → (∀ k ∈ blk v', w2.heap.size ≤ k) →
          ∃ F' rvs' G', St w (w3.setCell ⟨g, off + n.toNat, none⟩ v') B (hand m n) F' (.slice (some ⟨g, off, none⟩) 3 cap) rvs' G' ∧ Both F G F' G' W (w3.setCell ⟨g, off + n.toNat, none⟩ v')) := by
        refine Lib.hid (fun w3 v' hrow' hs3 hb3 => ?_)
        have hnew := HSET.out w3 v' r (hs3.mono (by simp)) (fun k hk => .inr (hb3 k hk)) hrow'
        have hT : Same G w2 (w3.setCell ⟨g, off + n.toNat, none⟩ v') := (hs3.mono (by simp)).setCell (.inl HGG.out) _
        refine ⟨F', _, G ++ blk v', ⟨HO.out.frame hT (fun k hk hm => HGF.out k hm hk), by rw [HRS.out]; exact hnew, fun k hk hm => ?_, fun k hk => ?_, L5.out, L3.out, ?_⟩, ?_⟩
        · rcases List.mem_append.1 hk with hk | hk
          · exact HGF.out k hk hm
          · have := hb3 k hk; have := HO.out.rep.lt k hm; omega
        · rcases List.mem_append.1 hk with hk | hk
          · exact HS.out.gn k hk
          · have := hb3 k hk; have := HS.out.hw; have := HU.out.same.size; omega
        · have := HS.out.hw; have := HU.out.same.size; have := hT.size; omega
        · refine (Both.of_upd HU.out G).trans ⟨hT.mono (fun x hx => .inl (by simp [hx])), fun k hk => ?_⟩
          simp only [List.mem_append] at hk
          rcases hk with hk | hk | hk
          · exact .inl (by simp [hk])
          · exact .inl (by simp [hk])
          · exact .inr (hb3 k hk)
      by_cases hrc1 : rc = 1
      · subst hrc1
        have hq0 : q = 0 := by omega
        subst hq0
        have hr0 : r = [] := List.eq_nil_of_length_eq_zero HQ.out.symm
        clear i2
        go_wp2_with (first
          | (go_at_call 18; refine H2.out.mono ?_; rintro e w3 ⟨rfl, rfl⟩)
          | (at_builtin; refine wpList_append_row _ rfl (.tmp 80) (.tmp 85) 29 rfl 3 (.int .i64 0) 1 8 Tryd.underlying29 info3 rfl (by decide) (.slice none 0 0) 0 [] rfl ?a1 ⟨gr, or_, none⟩ 0 0 [] rfl rfl ?a2 ?a3 ?a4 ?a5 ?a6))
        case a1 => exact Row.nil _ _ _
        case a2 => intro j u hu; simp at hu
        case a3 => intro u hu; simp at hu
        case a4 => unfold maxLen; omega
        case a5 => omega
        case a6 =>
          intro v' w3 hrow' hsm hbk
          have hs3 : Same [] w2 w3 := hsm.mono (by simp [blk])
          have hb3 : ∀ k ∈ blk v', w2.heap.size ≤ k := fun k hk => by
            rcases hbk k hk with h | h
            · simp [blk] at h
            · exact h
          obtain ⟨a', c', rfl, -, -, -⟩ := hrow'.form
          have HF := Lib.hid (FIN.out w3 _ (by rw [hr0]; simpa using hrow') hs3 hb3)
          have k1 := (hs3.cell (b := g) (o := off + n.toNat) hglt (by simp)).trans hcell
          have f1 : w3.frozen? ⟨g, off + n.toNat, none⟩ = false := (hs3.frozen hglt (by simp)).trans (hfr _)
          clear hrow' hsm hbk hs3 hb3 hr0
          go_wp2
          go_ret2
          exact ⟨rfl, HF.out⟩
      · have hrc2 : 1 < rc := by omega
        have hne : (rc = 1) = False := by simpa using hrc1
        clear hrc1
        go_wp2_with (first
          | (go_at_call 18; refine H2.out.mono ?_; rintro e w3 ⟨rfl, rfl⟩)
          | (at_builtin; refine wpList_append_row _ rfl (.tmp 80) (.tmp 85) 29 rfl 3 (.int .i64 0) 1 8 Tryd.underlying29 info3 rfl (by decide) (.slice none 0 0) 0 [] rfl ?d1 ⟨gr, or_ + 1, none⟩ q (rc - 1) (r.flatMap (nE .i64)) rfl ?d0 ?d2 ?d3 ?d4 ?d5 ?d6))
        case d0 => rw [flat_length (nE .i64) 1 (nE_len _), HQ.out]
        case d1 => exact Row.nil _ _ _
        case d2 => intro j u hu; rw [Addr.add_lit]; exact HNEWS.out j u hu
        case d3 => exact hone.out
        case d4 => unfold maxLen; omega
        case d5 => omega
        case d6 =>
          intro v' w3 hrow' hsm hbk
          have hs3 : Same [] w2 w3 := hsm.mono (by simp [blk])
          have hb3 : ∀ k ∈ blk v', w2.heap.size ≤ k := fun k hk => by
            rcases hbk k hk with h | h
            · simp [blk] at h
            · exact h
          obtain ⟨a', c', rfl, -, -, -⟩ := hrow'.form
          have HF := Lib.hid (FIN.out w3 _ (by rw [← HQ.out]; simpa using hrow') hs3 hb3)
          have k1 := (hs3.cell (b := g) (o := off + n.toNat) hglt (by simp)).trans hcell
          have f1 : w3.frozen? ⟨g, off + n.toNat, none⟩ = false := (hs3.frozen hglt (by simp)).trans (hfr _)
          clear hrow' hsm hbk hs3 hb3
          go_wp2
          go_ret2
          exact ⟨rfl, HF.out⟩
end Lk
end Go.Proofs.YtkfdoocmapjkbaaDoor
