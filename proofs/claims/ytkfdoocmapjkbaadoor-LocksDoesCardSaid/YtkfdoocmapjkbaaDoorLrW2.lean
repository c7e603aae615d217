/- Layer 19, the document's answer: hands. -/
import Derived.Test.YtkfdoocmapjkbaaDoorLrW1
import Derived.StillTailTactics
namespace Go.Proofs.YtkfdoocmapjkbaaDoor
open Go.RowKit Hp
namespace Lk
variable {w w' : World} {B : Nat} {m : Bk} {gs : List Int} {F : List Nat} {tv lv gv : Value} {rvs : List Value}

set_option maxHeartbeats 1600000 in
set_option maxRecDepth 100000 in
theorem r_hands (l : Int) (h : Rr w B m F) (hnl : m.lks.length ≤ 8) (hnt : m.ths.length ≤ 8) (hl : m.isL l = true) (hr8 : (m.lo l).row.length ≤ 8) (hrow : ∀ t ∈ (m.lo l).row, m.is t = true ∧ (m.th t).fin = 0) :
    Calls Tryd.prog 75 #[.pointer (some ⟨B, 0, none⟩), .int .i64 l] w fun e w' => e = .returned (.int .i64 (handTo m l)) ∧ DidR B F w w' (hand m l) := by
  obtain ⟨gs, tv, lv, gv, rvs, h⟩ := h
  obtain ⟨gl, ol, cl, rfl⟩ := h.llit hl
  have b1 := h.b1
  obtain ⟨hllt, hlF, hBl, htl, hrv, l0, l1, lf, hro, lho, lrow⟩ := h.lok l hl
  have hB := h.book.lt
  have HL := Lib.hid hl
  rw [isL_iff] at hl
  obtain ⟨hl1, hl2⟩ := hl
  have h0 := lho 0
  cases hcase : (m.lo l).row with
  | nil =>
    have e1 : handTo m l = 0 := by simp [handTo, hcase]
    have e2 : hand m l = m.setL l { m.lo l with ho := 0 } := by simp [hand, hcase]
    rw [e1, e2]
    rw [hcase] at hro
    obtain ⟨ra, rc, hra, _, _, _⟩ := hro.form
    simp only [List.length_nil] at hra
    rw [hra] at l1
    have HD : Hid (DidR B F w (w.setCell ⟨gl, ol + l.toNat * 2, none⟩ (.int .i64 0)) (m.setL l { m.lo l with ho := 0 })) :=
      Lib.hid ⟨F, ⟨_, _, _, _, _, h0⟩, (Same.refl _ _).setCell (.inl hlF) _, fun _ hk => .inl hk⟩
    clear h hrow hcase htl hrv hro lho lrow h0 e1 e2 hra hr8
    go_enter Tryd.func75, Tryd.ntmps75
    go_wp2
    go_ret
    exact ⟨rfl, HD.out⟩
  | cons t r =>
    have e1 : handTo m l = t := by simp [handTo, hcase]
    have e2 : hand m l = (m.setL l ⟨t, r⟩).setT t { m.th t with lk := 0 } := by simp [hand, hcase]
    obtain ⟨ht, hfin⟩ := hrow t (by rw [hcase]; simp)
    rw [e1, e2]
    rw [hcase] at hro hr8
    obtain ⟨gr, or_, rc, hra, hrc, hrlt, hcr, hfr⟩ := hro.at_ (by simp)
    rw [hra] at l1
    have r0 : w.cell? ⟨gr, or_, none⟩ = some (.int .i64 t) := by
      have := hcr 0 (by simp)
      simpa [nE] using this
    obtain ⟨gt, ot, ct, rfl⟩ := h.tlit ht
    have b0 := h.b0
    have hgr := hrv gr (by rw [hra]; simp [blk])
    have h1 := (h0.lok l (by rw [isL_setL]; exact HL.out)).2.2.2.2.2.2.2.2.2.1 t
    rw [lo_setL _ _ _ HL.out, setL_setL] at h1
    have HH1 := Lib.hid (h1.lok l (by rw [isL_setL]; exact HL.out)).2.2.2.2.2.2.2.2.2.2
    have hgrl : gr ≠ gl := hgr.2.1
    have hnews : ∀ j u, (r.flatMap (nE .i64))[j]? = some u → w.cell? ⟨gr, or_ + 1 + j, none⟩ = some u := fun j u hu => by
      have hjl : j < r.length := by
        have := (List.getElem?_eq_some_iff.1 hu).1
        rw [flat_length (nE .i64) 1 (nE_len _)] at this; omega
      have := hcr (1 + j) (by simp; omega)
      rw [← Nat.add_assoc] at this
      rw [this, ← hu, Nat.add_comm 1 j]
      simp [nE]
    have HNEWS := Lib.hid hnews
    have htb : gt ≠ gl := htl gt (by simp [blk])
    obtain ⟨htlt, htF, hBt, t0, -, -, -, -, tf, -, -⟩ := h.thr t ht
    have hk2 := (h1.lok l (by rw [isL_setL]; exact HL.out)).2.2.2.2.2.1
    rw [lo_setL _ _ _ HL.out] at hk2
    have HK2 := Lib.hid hk2
    have hk4 := (h1.lok l (by rw [isL_setL]; exact HL.out)).2.2.2.2.2.2.1
    rw [hra] at hk4
    have HK4 := Lib.hid hk4
    clear hk2 hk4
    have htr : gr ≠ gt := fun e => (hgr.2.2.2) (by simp [blk, e])
    have HT := Lib.hid ht
    have HFIN := Lib.hid hfin
    have HRV := Lib.hid hrv
    have HLF := Lib.hid hlF
    have HTF := Lib.hid htF
    have hgt : ∀ k, k ∈ blk (rvs.getD l.toNat undef) → k ∈ F := fun k hk => (hrv k hk).1
    have HGT := Lib.hid hgt
    have HSZ : Hid (∀ k ∈ F, k < w.heap.size) := Lib.hid h.lt
    have hone : Hid (∀ u ∈ r.flatMap (nE .i64), u.oneCell' = true) := Lib.hid (fun u hu => by
      rw [nE_map] at hu; obtain ⟨x, _, rfl⟩ := List.mem_map.1 hu; rfl)
    rw [is_iff] at ht
    obtain ⟨ht1, ht2⟩ := ht
    -- what stands at the end
    have FIN : Hid (∀ w3 v', Row w3 3 1 v' r.length (r.flatMap (nE .i64)) → Same [] ((w.setCell ⟨gl, ol + l.toNat * 2, none⟩ (.int .i64 0)).setCell ⟨gl, ol + l.toNat * 2, none⟩ (.int .i64 t)) w3 → (∀ k ∈ blk v', w.heap.size ≤ k) →
        DidR B F w ((w3.setCell ⟨gl, ol + l.toNat * 2 + 1, none⟩ v').setCell ⟨gt, ot + (t.toNat - 1) * 5, none⟩ (.int .i64 0)) ((m.setL l ⟨t, r⟩).setT t { m.th t with lk := 0 })) := by
      refine Lib.hid (fun w3 v' hrow' hs3 hb3 => ?_)
      have q := HH1.out w3 v' r (hs3.mono (by simp)) (fun k hk => .inr (by simpa using hb3 k hk)) hrow'
      rw [lo_setL _ _ _ HL.out, setL_setL] at q
      have q2 := (q.thr t (show m.is t = true from HT.out)).2.2.2.2.2.2.2.2.2.2 0 (.int .i64 0) { m.th t with lk := 0 } (fun g0 => frOf (m.th t) g0) (by omega) (fun g0 => by
        have hth : (m.setL l ⟨t, r⟩).th t = m.th t := rfl
        rw [hth]
        simp [rE, wtOf, frOf, HFIN.out])
      obtain ⟨gs', q2⟩ := q2
      refine ⟨_, ⟨gs', _, _, _, _, q2⟩, ?_, fun k hk => ?_⟩
      · have hs : Same F w w3 := (((Same.refl F w).setCell (p := ⟨gl, ol + l.toNat * 2, none⟩) (.inl HLF.out) _).setCell (p := ⟨gl, ol + l.toNat * 2, none⟩) (.inl HLF.out) _).trans' hs3 (by simp)
        exact (hs.setCell (.inl HLF.out) _).setCell (.inl HTF.out) _
      · rcases List.mem_append.1 hk with hk | hk
        · exact .inl hk
        · exact .inr (hb3 k hk)
    obtain ⟨q, hq⟩ : ∃ q, q = r.length := ⟨_, rfl⟩
    have HQ := Lib.hid hq
    simp only [List.length_cons] at l1 hrc hr8
    rw [← hq] at l1 hrc hr8
    have i1 : (1 : Int) ≤ (rc : Int) := by omega
    have i2 : (q : Int) + 1 ≤ (rc : Int) := by omega
    clear h h0 h1 lho lrow hrow hcase hra hro hrv hlF hcr hfr e1 e2 htl hgr htF hnews hgt hq hfin
    by_cases hrc1 : rc = 1
    · subst hrc1
      have hq0 : q = 0 := by omega
      subst hq0
      have hr0 : r = [] := List.eq_nil_of_length_eq_zero HQ.out.symm
      have HR0 := Lib.hid hr0
      clear i2 hr0
      go_enter Tryd.func75, Tryd.ntmps75
      go_wp2_with (first
        | (at_builtin; refine wpList_append_row _ rfl (.tmp 31) (.tmp 36) 29 rfl 3 (.int .i64 0) 1 8 Tryd.underlying29 info3 rfl (by decide) (.slice none 0 0) 0 [] rfl ?a1 ⟨gr, or_, none⟩ 0 0 [] rfl rfl ?a2 ?a3 ?a4 ?a5 ?a6))
      case a1 => exact Row.nil _ _ _
      case a6 =>
        intro v' w3 hrow' hsm hbk
        have hs3 := hsm.mono (F' := []) (by simp [blk])
        have hb3 : ∀ k ∈ blk v', w.heap.size ≤ k := fun k hk => by
          rcases hbk k hk with h | h
          · simp [blk] at h
          · simpa using h
        obtain ⟨a', c', rfl, -, -, -⟩ := hrow'.form
        have HF := Lib.hid (FIN.out w3 _ (by rw [HR0.out]; simpa using hrow') hs3 hb3)
        have hs4 : Same [gl] w w3 := ((((Same.refl [gl] w).setCell (p := ⟨gl, ol + l.toNat * 2, none⟩) (by simp) _).setCell (p := ⟨gl, ol + l.toNat * 2, none⟩) (by simp) _)).trans' hs3 (by simp)
        have k0 := (hs4.cell (b := B) (o := 0) hB (by simpa using hBl)).trans b0
        have k1 := (hs3.cell (b := gl) (o := ol + l.toNat * 2) (by simpa using hllt) (by simp))
        have k2 : w3.cell? ⟨gl, ol + l.toNat * 2, none⟩ = some (.int .i64 t) := by
          rw [k1]; exact HK2.out
        have k4 := (hs3.cell (b := gl) (o := ol + l.toNat * 2 + 1) (by simpa using hllt) (by simp)).trans HK4.out
        have k3 := (hs4.cell (b := gt) (o := ot + (t.toNat - 1) * 5) htlt (by simpa using htb)).trans t0
        have f1 : ∀ j, w3.frozen? ⟨gl, j, none⟩ = false := fun j => by
          have e := hs3.frozen (b := gl) (o := j) (by simpa using hllt) (by simp)
          rw [e]; simpa using lf j
        have f2 : ∀ j, w3.frozen? ⟨gt, j, none⟩ = false := fun j => (hs4.frozen (b := gt) (o := j) htlt (by simpa using htb)).trans (tf j)
        have i5 := hs4.size
        have hl3 : gl < w3.heap.size := Nat.lt_of_lt_of_le hllt i5
        have ht3 : gt < w3.heap.size := Nat.lt_of_lt_of_le htlt i5
        have hB3 : B < w3.heap.size := Nat.lt_of_lt_of_le hB i5
        clear hrow' hsm hbk hs3 hb3 hs4 k1
        go_wp2
        go_region
        go_wp2
        go_ret
        exact ⟨rfl, HF.out.drew⟩
    · have hrc2 : 1 < rc := by omega
      have hne : (rc = 1) = False := by simpa using hrc1
      have D0 : Hid ((r.flatMap (nE .i64)).length = q * 1) := Lib.hid (by rw [flat_length (nE .i64) 1 (nE_len _), HQ.out])
      clear hrc1
      go_enter Tryd.func75, Tryd.ntmps75
      go_wp2_with (first
        | (at_builtin; refine wpList_append_row _ rfl (.tmp 31) (.tmp 36) 29 rfl 3 (.int .i64 0) 1 8 Tryd.underlying29 info3 rfl (by decide) (.slice none 0 0) 0 [] rfl ?d1 ⟨gr, or_ + 1, none⟩ q (rc - 1) (r.flatMap (nE .i64)) rfl ?d0 ?d2 ?d3 ?d4 ?d5 ?d6))
      case d0 => first | exact D0.out | (have := D0.out; simpa using this)
      case d1 => exact Row.nil _ _ _
      case d2 => exact HNEWS.out
      case d3 => first | exact hone.out | (have := hone.out; simpa using this)
      case d4 => unfold maxLen; omega
      case d5 => omega
      case d6 =>
        intro v' w3 hrow' hsm hbk
        have hs3 := hsm.mono (F' := []) (by simp [blk])
        have hb3 : ∀ k ∈ blk v', w.heap.size ≤ k := fun k hk => by
          rcases hbk k hk with h | h
          · simp [blk] at h
          · simpa using h
        obtain ⟨a', c', rfl, -, -, -⟩ := hrow'.form
        have HF := Lib.hid (FIN.out w3 _ (by rw [← HQ.out]; simpa using hrow') hs3 hb3)
        have hs4 : Same [gl] w w3 := ((((Same.refl [gl] w).setCell (p := ⟨gl, ol + l.toNat * 2, none⟩) (by simp) _).setCell (p := ⟨gl, ol + l.toNat * 2, none⟩) (by simp) _)).trans' hs3 (by simp)
        have k0 := (hs4.cell (b := B) (o := 0) hB (by simpa using hBl)).trans b0
        have k1 := (hs3.cell (b := gl) (o := ol + l.toNat * 2) (by simpa using hllt) (by simp))
        have k2 : w3.cell? ⟨gl, ol + l.toNat * 2, none⟩ = some (.int .i64 t) := by
          rw [k1]; exact HK2.out
        have k4 := (hs3.cell (b := gl) (o := ol + l.toNat * 2 + 1) (by simpa using hllt) (by simp)).trans HK4.out
        have k3 := (hs4.cell (b := gt) (o := ot + (t.toNat - 1) * 5) htlt (by simpa using htb)).trans t0
        have f1 : ∀ j, w3.frozen? ⟨gl, j, none⟩ = false := fun j => by
          have e := hs3.frozen (b := gl) (o := j) (by simpa using hllt) (by simp)
          rw [e]; simpa using lf j
        have f2 : ∀ j, w3.frozen? ⟨gt, j, none⟩ = false := fun j => (hs4.frozen (b := gt) (o := j) htlt (by simpa using htb)).trans (tf j)
        have i5 := hs4.size
        have hl3 : gl < w3.heap.size := Nat.lt_of_lt_of_le hllt i5
        have ht3 : gt < w3.heap.size := Nat.lt_of_lt_of_le htlt i5
        have hB3 : B < w3.heap.size := Nat.lt_of_lt_of_le hB i5
        clear hrow' hsm hbk hs3 hb3 hs4 k1
        go_wp2
        go_region
        go_wp2
        go_ret
        exact ⟨rfl, HF.out.drew⟩
end Lk
end Go.Proofs.YtkfdoocmapjkbaaDoor
