/- Layer 19, package locks: hand, Unlock, Join. -/
import Derived.Test.YtkfdoocmapjkbaaDoorLkW3
import Derived.StillTailTactics
namespace Go.Proofs.YtkfdoocmapjkbaaDoor
open Go.RowKit Hp
namespace Lk
variable {w w' : World} {B : Nat} {m : Bk} {F : List Nat} {tv lv gv : Value} {rvs : List Value}

theorem lo_setL (m : Bk) (l : Int) (x : Lo) (hl : m.isL l = true) : (m.setL l x).lo l = x := by
  rw [isL_iff] at hl
  simp only [Bk.lo, Bk.setL]
  exact getD_set_eq _ _ _ _ (by omega)
theorem setL_setL (m : Bk) (l : Int) (x y : Lo) : (m.setL l x).setL l y = m.setL l y := by simp [Bk.setL]
theorem isL_setL (m : Bk) (l k : Int) (x : Lo) : (m.setL l x).isL k = m.isL k := by simp [Bk.isL, Bk.setL]
theorem is_setT (m : Bk) (n k : Int) (x : Th) : (m.setT n x).is k = m.is k := by simp [Bk.is, Bk.setT]

set_option maxHeartbeats 800000 in
set_option maxRecDepth 100000 in
theorem hand_any (l : Int) (h : Rep w B m F) (hnl : m.lks.length ≤ 8) (hnt : m.ths.length ≤ 8) (hl : m.isL l = true) (hr8 : (m.lo l).row.length ≤ 8) (hrow : ∀ t ∈ (m.lo l).row, m.is t = true) :
    Calls Tryd.prog 68 #[.pointer (some ⟨B, 0, none⟩), .int .i64 l] w fun e w' => e = .returned (.int .i64 (handTo m l)) ∧ Did B F w w' (hand m l) := by
  obtain ⟨tv, lv, gv, rvs, h⟩ := h
  obtain ⟨gl, ol, cl, rfl⟩ := h.llit hl
  have b1 := h.b1
  obtain ⟨hllt, hlF, hBl, htl, hrv, l0, l1, lf, hro, lho, lrow⟩ := h.lok l hl
  have hB := h.book.lt
  have HL := Lib.hid hl
  rw [isL_iff] at hl
  obtain ⟨hl1, hl2⟩ := hl
  have h0 := lho 0
  cases hcase : (m.lo l).row with
  | nil =>
    have e1 : handTo m l = 0 := by simp [handTo, hcase]
    have e2 : hand m l = m.setL l { m.lo l with ho := 0 } := by simp [hand, hcase]
    rw [e1, e2]
    rw [hcase] at hro
    obtain ⟨ra, rc, hra, _, _, _⟩ := hro.form
    simp only [List.length_nil] at hra
    rw [hra] at l1
    have HD : Hid (Did B F w (w.setCell ⟨gl, ol + l.toNat * 2, none⟩ (.int .i64 0)) (m.setL l { m.lo l with ho := 0 })) :=
      Lib.hid ⟨F, ⟨_, _, _, _, h0⟩, (Same.refl _ _).setCell (.inl hlF) _, fun _ hk => .inl hk⟩
    clear h hrow hcase htl hrv hro lho lrow h0 e1 e2 hra hr8
    go_enter Tryd.func68, Tryd.ntmps68
    go_wp2
    go_ret
    exact ⟨rfl, HD.out⟩
  | cons t r =>
    have e1 : handTo m l = t := by simp [handTo, hcase]
    have e2 : hand m l = (m.setL l ⟨t, r⟩).setT t { m.th t with lk := 0 } := by simp [hand, hcase]
    have ht : m.is t = true := hrow t (by rw [hcase]; simp)
    rw [e1, e2]
    rw [hcase] at hro hr8
    obtain ⟨gr, or_, rc, hra, hrc, hrlt, hcr, hfr⟩ := hro.at_ (by simp)
    rw [hra] at l1
    have r0 : w.cell? ⟨gr, or_, none⟩ = some (.int .i64 t) := by
      have := hcr 0 (by simp)
      simpa [nE] using this
    obtain ⟨gt, ot, ct, rfl⟩ := h.tlit ht
    have b0 := h.b0
    have hgr := hrv gr (by rw [hra]; simp [blk])
    -- the book behind each store
    have h1 := (h0.lok l (by rw [isL_setL]; exact HL.out)).2.2.2.2.2.2.2.2.2.1 t
    rw [lo_setL _ _ _ HL.out, setL_setL] at h1
    have h2 := fun c (hc : r.length ≤ c) (hc2 : c ≤ rc - 1) => (h1.lok l (by rw [isL_setL]; exact HL.out)).2.2.2.2.2.2.2.2.2.2
      ((w.setCell ⟨gl, ol + l.toNat * 2, none⟩ (.int .i64 0)).setCell ⟨gl, ol + l.toNat * 2, none⟩ (.int .i64 t)) (.slice (some ⟨gr, or_ + 1, none⟩) r.length c) r (Same.refl _ _)
      (fun x hx => .inl (by rw [hra]; simpa [blk] using hx)) (by
        have hro2 := (hro.setOther (p := ⟨gl, ol + l.toNat * 2, none⟩) (fun hm => (hrv gl hm).2.1 rfl) (.int .i64 0)).setOther (p := ⟨gl, ol + l.toNat * 2, none⟩) (fun hm => (hrv gl hm).2.1 rfl) (.int .i64 t)
        rw [hra] at hro2
        have := hro2.drop 1 c (by simp) (by omega) (by simpa using hc)
        simpa [nE] using this)
    have HRO := Lib.hid hro
    have HT := Lib.hid ht
    have HRV := Lib.hid hrv
    have HH1 := Lib.hid h1
    have HH2 := Lib.hid h2
    have HLF := Lib.hid hlF
    have HRA := Lib.hid hra
    have HH := Lib.hid h
    have HC := Lib.hid hcase
    have htb : gt ≠ gl := htl gt (by simp [blk])
    obtain ⟨htlt, htF, hBt, -, -, -, -, t4, tf, -⟩ := h.thr t ht
    have htr : gr ≠ gt := fun e => (hgr.2.2.2) (by simp [blk, e])
    have hgr1 := hgr.2.1
    rw [is_iff] at ht
    obtain ⟨ht1, ht2⟩ := ht
    have HTF := Lib.hid htF
    clear h0 h1 h2 lho lrow hrow hcase hra hro h hrv hlF hcr hfr e1 e2 htl hgr htF
    obtain ⟨n, hn⟩ : ∃ n, n = (t :: r).length := ⟨_, rfl⟩
    rw [← hn] at l1 hrc hr8
    have hn1 : (1 : Int) ≤ (n : Int) := by rw [hn]; simp; omega
    have hn2 : (n : Int) ≤ (rc : Int) := by omega
    have hmx : max (n : Int) 0 = n := by omega
    have HN := Lib.hid hn
    clear hn
    have far : ∀ v c, (∀ x ∈ blk v, x ∈ blk (rvs.getD l.toNat undef)) → RepI
        (((w.setCell ⟨gl, ol + l.toNat * 2, none⟩ (.int .i64 0)).setCell ⟨gl, ol + l.toNat * 2, none⟩ (.int .i64 t)).setCell ⟨gl, ol + l.toNat * 2 + 1, none⟩ v) B
        ((m.setL l ⟨t, (m.lo l).row⟩).setL l ⟨((m.setL l ⟨t, (m.lo l).row⟩).lo l).ho, r⟩) (F ++ blk v) (.slice (some ⟨gt, ot, none⟩) m.ths.length ct) (.slice (some ⟨gl, ol, none⟩) m.lks.length cl) gv c →
        Did B F w ((((w.setCell ⟨gl, ol + l.toNat * 2, none⟩ (.int .i64 0)).setCell ⟨gl, ol + l.toNat * 2, none⟩ (.int .i64 t)).setCell ⟨gl, ol + l.toNat * 2 + 1, none⟩ v).setCell ⟨gt, ot + (t.toNat - 1) * 5 + 4, none⟩ (.int .i64 0)) ((m.setL l ⟨t, r⟩).setT t { m.th t with lk := 0 }) := by
      intro v c hv hq
      rw [lo_setL _ _ _ HL.out, setL_setL] at hq
      have q := (hq.thr t (show m.is t = true from HT.out)).2.2.2.2.2.2.2.2.2 4 (.int .i64 0) { m.th t with lk := 0 } (by omega) rfl
      refine ⟨_, ⟨_, _, _, _, q⟩, ((((Same.refl _ _).setCell (.inl HLF.out) _).setCell (.inl HLF.out) _).setCell (.inl HLF.out) _).setCell (.inl HTF.out) _, fun k hk => ?_⟩
      rcases List.mem_append.1 hk with hk | hk
      · exact .inl hk
      · exact .inl (HRV.out k (hv k hk)).1
    have FAR := Lib.hid far
    clear far
    by_cases hone : n = 1
    · subst hone
      have hr : r = [] := by cases r with
        | nil => rfl
        | cons a b => have := HN.out; simp at this
      subst hr
      have q := (HH1.out.lok l (by rw [isL_setL]; exact HL.out)).2.2.2.2.2.2.2.2.2.2
        ((w.setCell ⟨gl, ol + l.toNat * 2, none⟩ (.int .i64 0)).setCell ⟨gl, ol + l.toNat * 2, none⟩ (.int .i64 t)) (.slice (some ⟨gr, or_, none⟩) 0 0) [] (Same.refl _ _)
        (fun x hx => .inl (by rw [HRA.out]; simpa [blk] using hx)) (by
          have hro2 := (HRO.out.setOther (p := ⟨gl, ol + l.toNat * 2, none⟩) (fun hm => (HRV.out gl hm).2.1 rfl) (.int .i64 0)).setOther (p := ⟨gl, ol + l.toNat * 2, none⟩) (fun hm => (HRV.out gl hm).2.1 rfl) (.int .i64 t)
          rw [HRA.out] at hro2
          exact hro2.empty 0 (Nat.zero_le _))
      have HD := Lib.hid (FAR.out _ _ (by rw [HRA.out]; simp [blk]) q)
      clear hmx hn1 q
      go_enter Tryd.func68, Tryd.ntmps68
      go_wp2
      go_region
      go_wp2
      go_region
      go_wp2
      go_ret
      refine ⟨rfl, ?_⟩
      obtain ⟨F', ⟨tv', lv', gv', rv', hr1⟩, hr2, hr3⟩ := HD.out
      exact ⟨F', ⟨tv', lv', gv', rv', hr1.drew.drew⟩, hr2.drew.drew, hr3⟩
    · have hone' : 1 < n := by omega
      have hr : r.length = n - 1 := by have := HN.out; simp at this; omega
      have q := HH2.out (n - 1) (by omega) (by omega)
      rw [hr] at q
      have HD := Lib.hid (FAR.out _ _ (by rw [HRA.out]; simp [blk]) q)
      clear q hr hone
      go_enter Tryd.func68, Tryd.ntmps68
      go_wp2
      go_region
      go_wp2
      go_region
      go_wp2
      go_ret
      refine ⟨rfl, ?_⟩
      obtain ⟨F', ⟨tv', lv', gv', rv', hr1⟩, hr2, hr3⟩ := HD.out
      exact ⟨F', ⟨tv', lv', gv', rv', hr1.drew.drew⟩, hr2.drew.drew, hr3⟩

end Lk
end Go.Proofs.YtkfdoocmapjkbaaDoor
