/- Layer 19, package locks: End. -/
import Derived.Test.YtkfdoocmapjkbaaDoorLkW6
import Derived.Test.YtkfdoocmapjkbaaDoorShelf
import Derived.Test.YtkfdoocmapjkbaaDoorHpSort
namespace Go.Proofs.YtkfdoocmapjkbaaDoor
open Go.RowKit Hp
namespace Lk
variable {w w' : World} {B : Nat} {m : Bk} {F : List Nat} {tv lv gv : Value} {rvs : List Value}

theorem nE_map (k : IntKind) (l : List Int) : l.flatMap (nE k) = l.map (Value.int k) := by
  induction l with
  | nil => rfl
  | cons a l ih => simp [List.flatMap_cons, nE, ih]

def le (x y : Int) : Bool := decide (x ≤ y)

theorem sort_any (xs : List Int) (v : Value) (h : Row w 3 1 v xs.length (xs.flatMap (nE .i64))) (hx : xs.length ≤ 1000) :
    Calls Tryd.prog 69 #[v] w fun e w' => e = .returned (.tuple #[]) ∧ Row w' 3 1 v xs.length ((xs.mergeSort le).flatMap (nE .i64)) ∧ Same (blk v) w w' := by
  by_cases h0 : xs.length = 0
  · have : xs = [] := List.eq_nil_of_length_eq_zero h0
    subst this
    obtain ⟨a, c, rfl, _⟩ := h.form
    refine (Tryd.slices_Sort_int_none a c w).mono ?_
    rintro e w1 ⟨rfl, rfl⟩
    exact ⟨rfl, by simpa using h, Same.refl _ _⟩
  · obtain ⟨g, off, cap, rfl, _, hg, _, _⟩ := h.at_ (by omega)
    rw [nE_map] at h
    refine (Tryd.slices_Sort_int g off cap xs w (h.holds _ rfl) hg (by omega)).mono ?_
    rintro e w1 ⟨rfl, n, os, rfl⟩
    refine ⟨rfl, ?_, by simpa [blk] using same_putRow _ _ _ _⟩
    rw [nE_map]
    exact h.putRow _ (by simp) n os

/-- What 'hand' leaves of rows and counts. -/
theorem hand_inv (m : Bk) (l : Int) : (hand m l).ths.length = m.ths.length ∧ (hand m l).lks.length = m.lks.length ∧ (hand m l).gl = m.gl ∧
    ∀ k : Int, m.isL k = true → ((hand m l).lo k).row.length ≤ (m.lo k).row.length ∧ ∀ t ∈ ((hand m l).lo k).row, t ∈ (m.lo k).row := by
  unfold hand
  split
  · rename_i hc
    refine ⟨rfl, by simp [Bk.setL], rfl, fun k hk => ?_⟩
    by_cases hkl : l.toNat = k.toNat
    · rw [isL_iff] at hk
      simp only [Bk.lo, Bk.setL]
      rw [hkl, getD_set_eq _ _ _ _ (by omega)]
      simp
    · simp only [Bk.lo, Bk.setL]
      rw [getD_set_ne _ _ _ _ _ hkl]
      exact ⟨Nat.le_refl _, fun t ht => ht⟩
  · rename_i t r hc
    refine ⟨by simp [Bk.setL, Bk.setT], by simp [Bk.setL, Bk.setT], rfl, fun k hk => ?_⟩
    by_cases hkl : l.toNat = k.toNat
    · rw [isL_iff] at hk
      have hc' : (m.lo k).row = t :: r := by rw [← hc]; simp only [Bk.lo, hkl]
      rw [hc']
      simp only [Bk.lo, Bk.setL, Bk.setT]
      rw [hkl, getD_set_eq _ _ _ _ (by omega)]
      exact ⟨by simp, fun x hx => by simp [hx]⟩
    · simp only [Bk.lo, Bk.setL, Bk.setT]
      rw [getD_set_ne _ _ _ _ _ hkl]
      exact ⟨Nat.le_refl _, fun t ht => ht⟩

theorem handAll_inv (m : Bk) (n : Int) : ∀ (k : Nat), (handAll m n k).1.ths.length = m.ths.length ∧ (handAll m n k).1.lks.length = m.lks.length ∧ (handAll m n k).1.gl = m.gl ∧ (handAll m n k).2.length ≤ k ∧
    ∀ j : Int, m.isL j = true → ((handAll m n k).1.lo j).row.length ≤ (m.lo j).row.length ∧ ∀ t ∈ ((handAll m n k).1.lo j).row, t ∈ (m.lo j).row
  | 0 => ⟨rfl, rfl, rfl, Nat.le_refl _, fun j _ => ⟨Nat.le_refl _, fun t ht => ht⟩⟩
  | k + 1 => by
    obtain ⟨h1, h2, h3, h4, h5⟩ := handAll_inv m n k
    simp only [handAll]
    split
    · obtain ⟨g1, g2, g3, g4⟩ := hand_inv (handAll m n k).1 k
      refine ⟨g1.trans h1, g2.trans h2, g3.trans h3, ?_, fun j hj => ?_⟩
      · dsimp only
        split
        · simp; omega
        · omega
      · have hj' : (handAll m n k).1.isL j = true := by rw [isL_iff] at hj ⊢; rw [h2]; exact hj
        exact ⟨Nat.le_trans (g4 j hj').1 (h5 j hj).1, fun t ht => (h5 j hj).2 t ((g4 j hj').2 t ht)⟩
    · exact ⟨h1, h2, h3, by omega, h5⟩

/-- The first k threads no longer wait for n's end. -/
def freeTo (m : Bk) (n : Int) (k : Nat) : Bk := { m with ths := (m.ths.take k).map (freeT n) ++ m.ths.drop k }
theorem freeTo_zero (m : Bk) (n : Int) : freeTo m n 0 = m := by simp [freeTo]
theorem freeTo_len (m : Bk) (n : Int) (k : Nat) : (freeTo m n k).ths.length = m.ths.length := by simp [freeTo]; omega
theorem freeTo_th (m : Bk) (n : Int) (k : Nat) (hk : k < m.ths.length) : (freeTo m n k).th ((k : Int) + 1) = m.ths.getD k t0 := by
  have e : ((k : Int) + 1).toNat - 1 = k := by omega
  simp only [Bk.th, freeTo, e]
  simp only [List.getD_eq_getElem?_getD]
  rw [List.getElem?_append_right (by simp; omega)]
  simp only [List.length_map, List.length_take, List.getElem?_drop]
  congr 2; omega
theorem freeTo_succ (m : Bk) (n : Int) (k : Nat) (hk : k < m.ths.length) : freeTo m n (k + 1) = (freeTo m n k).setT ((k : Int) + 1) (freeT n (m.ths.getD k t0)) := by
  have e : ((k : Int) + 1).toNat - 1 = k := by omega
  simp only [freeTo, Bk.setT, e]
  congr 1
  rw [List.set_append_right _ _ (by simp; omega)]
  rw [List.take_succ_eq_append_getElem hk]
  have e2 : k - ((m.ths.take k).map (freeT n)).length = 0 := by simp; omega
  have hg : m.ths.getD k t0 = m.ths[k] := by simp [List.getD, hk]
  rw [e2, List.drop_eq_getElem_cons hk, List.set_cons_zero, hg]
  simp only [List.map_append, List.map_cons, List.map_nil, List.append_assoc, List.cons_append, List.nil_append]
theorem freeTo_all (m : Bk) (n : Int) : freeTo m n m.ths.length = { m with ths := m.ths.map (freeT n) } := by simp [freeTo]

theorem joiners_succ (l : List Th) (n : Int) (k : Nat) : joiners l n (k + 1) = joiners l n k ++ if (l.getD k t0).fin == n then [(k : Int) + 1] else [] := by
  simp only [joiners, List.range_succ, List.filter_append, List.map_append, List.filter_cons, List.filter_nil]
  split <;> simp
theorem joiners_len (l : List Th) (n : Int) (k : Nat) : (joiners l n k).length ≤ k := by
  have := List.length_filter_le (fun i => (l.getD i t0).fin == n) (List.range k)
  simpa [joiners] using this

/-- Who goes, as the code has it: sorted. -/
def endL (m : Bk) (n x e : Int) : List Int := ((endB m n x e).2 ++ joiners (endB m n x e).1.ths n (endB m n x e).1.ths.length).mergeSort le

set_option maxHeartbeats 800000 in
set_option maxRecDepth 100000 in
theorem end_bad (n x e : Int) (h : Rep w B m F) (ok : Ok m) (hbad : m.is n = false ∨ (m.th n).goes = false) :
    Calls Tryd.prog 26 #[.pointer (some ⟨B, 0, none⟩), .int .i64 n, .int .u64 x, .int .i64 e] w fun en w' =>
      en = .returned (.tuple #[.slice none 0 0, .int .i64 (if m.is n = false then 190 else 192)]) ∧ w = w' := by
  have hnt := ok.nt
  obtain ⟨tv, lv, gv, rvs, h⟩ := h
  by_cases hn : m.is n = true
  · have hg : (m.th n).goes = false := by
      rcases hbad with hb | hb
      · rw [hn] at hb; cases hb
      · exact hb
    rw [if_neg (by simp [hn])]
    obtain ⟨gt, ot, ct, rfl⟩ := h.tlit hn
    have H1 := Lib.hid (find_yes n gt ot _ ct h hnt hn)
    obtain ⟨htlt, htF, hBt, t0, t1, t2, t3, t4, tf, tset⟩ := h.thr n hn
    have hgo := goes_any gt _ (m.th n) w t0 t3 t4
    rw [hg] at hgo
    have HG := Lib.hid hgo
    clear h ok hbad hn hg hgo t0 t1 t2 t3 t4 tset
    go_enter Tryd.func26, Tryd.ntmps26
    go_wp2_with (first | (go_at_call 31; refine H1.out.mono ?_; rintro e w1 ⟨rfl, rfl⟩) | (go_at_call 34; refine HG.out.mono ?_; rintro e w1 ⟨rfl, rfl⟩))
    go_ret2
    exact ⟨rfl, rfl⟩
  · have hn : m.is n = false := by simpa using hn
    rw [if_pos hn]
    have H1 := Lib.hid (find_no n h hnt hn)
    clear h ok hbad hn
    go_enter Tryd.func26, Tryd.ntmps26
    go_wp2_with (first | (go_at_call 31; refine H1.out.mono ?_; rintro e w1 ⟨rfl, rfl⟩))
    go_ret2
    exact ⟨rfl, rfl⟩


theorem setT_setT (m : Bk) (n : Int) (a b : Th) : (m.setT n a).setT n b = m.setT n b := by simp [Bk.setT]
theorem th_setT (m : Bk) (n : Int) (a : Th) (hn : m.is n = true) : (m.setT n a).th n = a := by
  rw [is_iff] at hn
  simp only [Bk.th, Bk.setT]
  exact getD_set_eq _ _ _ _ (by omega)

/-- The book and the list of those who go, that lies apart. -/
def Going (w : World) (B : Nat) (F : List Nat) (wr : World) (m' : Bk) (out : Value) (l : List Int) : Prop :=
  ∃ F', Rep wr B m' F' ∧ Same F w wr ∧ (∀ k ∈ F', k ∈ F ∨ w.heap.size ≤ k) ∧ Row wr 3 1 out l.length (l.flatMap (nE .i64)) ∧ (∀ x ∈ blk out, w.heap.size ≤ x ∧ x ∉ F')

/-- One more goes. -/
theorem Going.app {wr w1 : World} {m' : Bk} {out v' : Value} {l : List Int} {x : Int} (h : Going w B F wr m' out l) (hF : ∀ k ∈ F, k < w.heap.size)
    (hr : Row w1 3 1 v' (l.length + 1) (l.flatMap (nE .i64) ++ [.int .i64 x])) (hs : Same (blk out) (wr.alloc (.cells #[.int .i64 x] 3)) w1) (hb : ∀ k ∈ blk v', k ∈ blk out ∨ wr.heap.size + 1 ≤ k) :
    Going w B F w1 m' v' (l ++ [x]) := by
  obtain ⟨F', h1, h2, h3, h4, h5⟩ := h
  have hs1 : Same (blk out) wr w1 := ((Same.refl _ _).alloc _).trans hs
  have hsz := h2.size
  have hrepl : ∀ k ∈ F', k < wr.heap.size := fun k hk => by
    obtain ⟨_, _, _, _, hr⟩ := h1
    exact hr.lt k hk
  refine ⟨F', h1.frame hs1 (fun k hk hm => (h5 k hm).2 hk), h2.trans' hs1 (fun k hk => .inr (h5 k hk).1), h3, by simpa [nE] using hr, fun k hk => ?_⟩
  rcases hb k hk with h6 | h6
  · exact h5 k h6
  · exact ⟨by omega, fun hm => by have := hrepl k hm; omega⟩

/-- The book goes on by itself. -/
theorem Going.step {wr w1 : World} {m2 : Bk} {out : Value} {l : List Int} {F' : List Nat} (h2 : Same F w wr) (h3 : ∀ k ∈ F', k ∈ F ∨ w.heap.size ≤ k) (h4 : Row wr 3 1 out l.length (l.flatMap (nE .i64)))
    (h5 : ∀ x ∈ blk out, w.heap.size ≤ x ∧ x ∉ F') (hd : Did B F' wr w1 m2) : Going w B F w1 m2 out l := by
  obtain ⟨F2, g1, g2, g3⟩ := hd
  have hsz := h2.size
  refine ⟨F2, g1, h2.trans' g2 h3, fun k hk => ?_, h4.frame g2 (fun k hk => (h5 k hk).2), fun k hk => ⟨(h5 k hk).1, fun hm => ?_⟩⟩
  · rcases g3 k hk with h6 | h6
    · exact h3 k h6
    · exact .inr (by omega)
  · rcases g3 k hm with h6 | h6
    · exact (h5 k hk).2 h6
    · have := h4.lt k hk; omega

set_option maxHeartbeats 3200000 in
set_option maxRecDepth 100000 in
theorem end_ok (n x e : Int) (h : Rep w B m F) (ok : Ok m) (hn : m.is n = true) (hg : (m.th n).goes = true) :
    Calls Tryd.prog 26 #[.pointer (some ⟨B, 0, none⟩), .int .i64 n, .int .u64 x, .int .i64 e] w fun en w' =>
      ∃ v, en = .returned (.tuple #[v, .int .i64 0]) ∧ Going w B F w' (endM m n x e) v (endL m n x e) := by
  have hnt := ok.nt
  have hnl := ok.nl
  obtain ⟨tv, lv, gv, rvs, h⟩ := h
  obtain ⟨gt, ot, ct, rfl⟩ := h.tlit hn
  have H1 := Lib.hid (find_yes n gt ot _ ct h hnt hn)
  obtain ⟨htlt, htF, hBt, t0, t1, t2, t3, t4, tf, tset⟩ := h.thr n hn
  have hgo := goes_any gt _ (m.th n) w t0 t3 t4
  rw [hg] at hgo
  have HG := Lib.hid hgo
  obtain ⟨x', hx'⟩ : ∃ x', x' = if e = 0 then x else 0 := ⟨_, rfl⟩
  have g1 : Going w B F (((w.setCell ⟨gt, ot + (n.toNat - 1) * 5, none⟩ (.bool true)).setCell ⟨gt, ot + (n.toNat - 1) * 5 + 1, none⟩ (.int .u64 x')).setCell ⟨gt, ot + (n.toNat - 1) * 5 + 2, none⟩ (.int .i64 e)) (ended m n x e) (.slice none 0 0) [] := by
    have q1 := tset 0 (.bool true) { m.th n with en := true } (by omega) rfl
    have q2 := (q1.thr n (by rw [is_setT]; exact hn)).2.2.2.2.2.2.2.2.2 1 (.int .u64 x') { m.th n with en := true, w := x' } (by omega) (by rw [th_setT _ _ _ hn]; rfl)
    rw [setT_setT] at q2
    have q3 := (q2.thr n (by rw [is_setT]; exact hn)).2.2.2.2.2.2.2.2.2 2 (.int .i64 e) { m.th n with en := true, w := x', e := e } (by omega) (by rw [th_setT _ _ _ hn]; rfl)
    rw [setT_setT] at q3
    have e1 : ended m n x e = m.setT n { m.th n with en := true, w := x', e := e } := by rw [hx']; rfl
    rw [e1]
    exact ⟨F, ⟨_, _, _, _, q3⟩, (((Same.refl _ _).setCell (.inl htF) _).setCell (.inl htF) _).setCell (.inl htF) _, fun k hk => .inl hk, Row.nil _ _ _, by simp [blk]⟩
  have G1 := Lib.hid g1
  have HLT := Lib.hid h.lt
  have hm1 : (ended m n x e).ths.length = m.ths.length := by simp [ended, Bk.setT]
  have hl1 : (ended m n x e).lks.length = m.lks.length := by simp [ended, Bk.setT]
  have HM1 := Lib.hid hm1
  have HL1 := Lib.hid hl1
  have HO := Lib.hid ok
  have hms : (endB m n x e) = handAll (ended m n x e) n m.lks.length := rfl
  have HMS := Lib.hid hms
  have hm2 : (endB m n x e).1.ths.length = m.ths.length := (handAll_inv _ n _).1.trans hm1
  have HM2 := Lib.hid hm2
  obtain ⟨m2, hm2e⟩ : ∃ m2, m2 = (endB m n x e).1 := ⟨_, rfl⟩
  obtain ⟨l2, hl2e⟩ : ∃ l2, l2 = (endB m n x e).2 := ⟨_, rfl⟩
  have HL2 := Lib.hid hl2e
  have HE2 := Lib.hid hm2e
  have hfin : ∀ wr out, Going w B F wr (freeTo m2 n m.ths.length) out ((l2 ++ joiners m2.ths n m.ths.length).mergeSort le) → Going w B F wr (endM m n x e) out (endL m n x e) := by
    intro wr out hh
    have : endM m n x e = freeTo m2 n m.ths.length := by
      rw [hm2e, ← hm2, freeTo_all]; rfl
    rw [this]
    have : endL m n x e = (l2 ++ joiners m2.ths n m.ths.length).mergeSort le := by rw [hm2e, hl2e, ← hm2]; rfl
    rw [this]; exact hh
  have HFIN := Lib.hid hfin
  have hb1 := h.b1
  obtain ⟨la, lc, rfl⟩ := h.lform
  have hb0 := h.b0
  have hB := h.book.lt
  have t5 := t0
  have HLO : Hid (∀ j, (ended m n x e).lo j = m.lo j) := Lib.hid (fun j => rfl)
  have HM22 : Hid (m2.ths.length = m.ths.length) := by rw [hm2e]; exact hm2
  clear ok hgo hg g1 tset hm1 hl1 hm2 hms hm2e hfin hl2e
  generalize ended m n x e = m1 at *
  have hrow8 : ∀ j : Int, m.isL j = true → (m.lo j).row.length ≤ 8 := fun j hj => row_len8 HO.out hj
  have hrowI : ∀ j : Int, m.isL j = true → ∀ t ∈ (m.lo j).row, m.is t = true := fun j hj t ht => (HO.out.rowIn j t hj ht).1
  have HR8 := Lib.hid hrow8
  have HRI := Lib.hid hrowI
  have HB : Hid (B ≠ gt) := hBt
  clear h hrow8 hrowI
  have hx2 : (e = 0 ∧ x' = x) ∨ ((e != 0) = true ∧ x' = 0) := by
    by_cases he : e = 0
    · exact .inl ⟨he, by rw [hx', if_pos he]⟩
    · exact .inr ⟨by simpa using he, by rw [hx', if_neg he]⟩
  have HX := Lib.hid hx'
  clear hx'
  go_enter Tryd.func26, Tryd.ntmps26
  rcases hx2 with ⟨rfl, rfl⟩ | ⟨he, rfl⟩
  all_goals
    go_wp2_with (first | (go_at_call 31; refine H1.out.mono ?_; rintro e w1 ⟨rfl, rfl⟩) | (go_at_call 34; refine HG.out.mono ?_; rintro e w1 ⟨rfl, rfl⟩))
    clear t0 t1 t2 t3 t4 t5 hb1 hb0
    go_loopw [11, 36] (fun out c wr => ∃ k : Nat, k ≤ m.lks.length ∧ c = .int .i64 k ∧ Going w B F wr (handAll m1 n k).1 out (handAll m1 n k).2)
      (fun _ c _ => m.lks.length - (intOf c).toNat)
    case atStart => exact ⟨0, Nat.zero_le _, rfl, G1.out⟩
    case round =>
      obtain ⟨k, hk, rfl, hgo⟩ := hrel
      obtain ⟨i1, i2, i3, i4, i5⟩ := handAll_inv m1 n k
      have hsuc : handAll m1 n (k + 1) = (if ((handAll m1 n k).1.lo k).ho = n then (hand (handAll m1 n k).1 k, if handTo (handAll m1 n k).1 k != 0 then (handAll m1 n k).2 ++ [handTo (handAll m1 n k).1 k] else (handAll m1 n k).2) else handAll m1 n k) := rfl
      rw [HM1.out] at i1
      rw [HL1.out] at i2
      have i5' : ∀ j : Int, m.isL j = true → ((handAll m1 n k).1.lo j).row.length ≤ (m.lo j).row.length ∧ ∀ t ∈ ((handAll m1 n k).1.lo j).row, t ∈ (m.lo j).row := fun j hj => by
        have := i5 j (by rw [isL_iff] at hj ⊢; rw [HL1.out]; exact hj)
        rw [HLO.out] at this; exact this
      have hend : k = m.lks.length → (handAll m1 n k).1 = m2 ∧ (handAll m1 n k).2 = l2 := fun e => by rw [e, HE2.out, HL2.out, HMS.out]; exact ⟨rfl, rfl⟩
      generalize handAll m1 n k = q at *
      have HSUC := Lib.hid hsuc
      have I1 := Lib.hid i1
      have I2 := Lib.hid i2
      have I4 := Lib.hid i4
      have I5 := Lib.hid i5'
      have HEND := Lib.hid hend
      clear i1 i2 i3 i5 hsuc i5' hend i4
      obtain ⟨F', hrep, hsame, hF', hrow, hblk⟩ := hgo
      obtain ⟨oa, oc, rfl, -, -, -⟩ := hrow.form
      have HGO : Hid (Going w B F wr q.1 (.slice oa q.2.length oc) q.2) := ⟨F', hrep, hsame, hF', hrow, hblk⟩
      by_cases hlt : k < m.lks.length
      · have hl : q.1.isL (k : Int) = true := by rw [isL_iff, I2.out]; omega
        have hlm : m.isL (k : Int) = true := by rw [isL_iff]; omega
        have HH := Lib.hid (hand_any (k : Int) hrep (by rw [I2.out]; exact hnl) (by rw [I1.out]; exact hnt) hl (Nat.le_trans (I5.out k hlm).1 (HR8.out k hlm)) (fun t ht => by
          have := HRI.out k hlm t ((I5.out k hlm).2 t ht)
          rw [is_iff] at this ⊢
          rw [I1.out]; exact this))
        have HREP := Lib.hid hrep
        obtain ⟨tv', lv', gv', rvs', hr⟩ := hrep
        obtain ⟨gl, ol, cl, rfl⟩ := hr.llit hl
        have c1 := hr.b1
        obtain ⟨hllt, -, -, -, -, l0, -⟩ := hr.lok (k : Int) hl
        rw [I2.out] at c1
        rw [Int.toNat_natCast] at l0
        have hbB : B < wr.heap.size := hr.book.lt
        have HSAME := Lib.hid hsame
        have HF2 := Lib.hid hF'
        have HROW := Lib.hid hrow
        have HBLK := Lib.hid hblk
        by_cases hho : (q.1.lo (k : Int)).ho = n
        · have e1 : (n == n) = true := by simp
          have HS2 : Hid (handAll m1 n (k + 1) = (hand q.1 k, if handTo q.1 k != 0 then q.2 ++ [handTo q.1 k] else q.2)) := by
            have := HSUC.out; rw [if_pos hho] at this; exact this
          rw [hho] at l0
          clear hho hr hrow hsame hF' hblk HSUC hl hlm
          generalize handTo q.1 (k : Int) = t at *
          go_wp2_with fail
          refine HH.out.mono ?_
          rintro en w2 ⟨rfl, hd⟩
          have HG2 : Hid (Going w B F w2 (hand q.1 k) (.slice oa q.2.length oc) q.2) := Going.step HSAME.out HF2.out HROW.out HBLK.out hd
          have hrow2 : Row w2 3 1 (.slice oa q.2.length oc) q.2.length (q.2.flatMap (nE .i64)) := by
            obtain ⟨_, _, _, _, r, _⟩ := HG2.out; exact r
          have HROW2 := Lib.hid hrow2
          clear hd hrow2
          by_cases ht0 : t = 0
          · subst ht0
            have HS3 : Hid (handAll m1 n (k + 1) = (hand q.1 k, q.2)) := Lib.hid (by have := HS2.out; simpa using this)
            go_wp2
            go_roundw
            case rel => exact ⟨k + 1, by omega, by go_num, by rw [HS3.out]; exact HG2.out⟩
            case measure => simp [intOf]; omega
          · have ht1 : (t != 0) = true := by simpa using ht0
            have HS3 : Hid (handAll m1 n (k + 1) = (hand q.1 k, q.2 ++ [t])) := Lib.hid (by have := HS2.out; rw [ht1] at this; simpa using this)
            have hq2 : q.2.length ≤ 8 := by have := I4.out; omega
            clear ht0
            go_wp2_with (at_builtin; refine wpList_append_row _ rfl (.tmp 55) (.tmp 57) 29 rfl 3 (.int .i64 0) 1 8 Tryd.underlying29 info3 rfl (by decide) (.slice oa q.2.length oc) q.2.length (q.2.flatMap (nE .i64)) rfl ?hrow1 ⟨w2.heap.size, 0, none⟩ 1 1 [.int .i64 t] rfl rfl ?c1 ?c2 ?b1 ?b2 ?K)
            case hrow1 => exact HROW2.out.alloc _
            case c1 => exact cell_one_new w2 (.int .i64 t) 3
            case c2 => intro u hu; simp at hu; subst hu; rfl
            case b1 => unfold maxLen; omega
            case b2 => omega
            case K =>
              intro v' w3 hrow' hsm hbk
              have HG3 : Hid (Going w B F w3 (hand q.1 k) v' (q.2 ++ [t])) := Going.app HG2.out HLT.out hrow' hsm hbk
              clear hrow' hsm hbk
              go_wp2
              go_roundw
              case rel => exact ⟨k + 1, by omega, by go_num, by rw [HS3.out]; exact HG3.out⟩
              case measure => simp [intOf]; omega
        · have e1 : ((q.1.lo (k : Int)).ho == n) = false := by simpa using hho
          have HS2 : Hid (handAll m1 n (k + 1) = q) := by
            have := HSUC.out; rw [if_neg hho] at this; exact this
          clear hho hr hrow hsame hF' hblk HSUC hl hlm
          go_wp2
          go_roundw
          case rel => exact ⟨k + 1, by omega, by go_num, by rw [HS2.out]; exact HGO.out⟩
          case measure => simp [intOf]; omega
      · have hkn : k = m.lks.length := by omega
        obtain ⟨z1, z2⟩ := HEND.out hkn
        have G2 : Hid (Going w B F wr (freeTo m2 n 0) (.slice oa q.2.length oc) (l2 ++ joiners m2.ths n 0)) := Lib.hid (by
          rw [freeTo_zero, ← z1, ← z2]; simpa [joiners] using HGO.out)
        obtain ⟨tv', lv', gv', rvs', hr⟩ := hrep
        obtain ⟨ta, tc, rfl⟩ := hr.tform
        have c0 := hr.b0
        rw [I1.out] at c0
        have HZ2 := Lib.hid z2
        have hz3 : q.2.length = l2.length := by rw [z2]
        have hz4 : l2.length ≤ 8 := by have := I4.out; omega
        rw [hz3] at G2
        clear hr hrow hsame hF' hblk hkn z1 z2
        rw [hz3]
        clear hz3
        go_wp2
        obtain ⟨wo, rfl⟩ : ∃ wo : World, wo = wr := ⟨_, rfl⟩
        have HNT2 := HM22.out
        go_loopw [11, 65] (fun out c wr => ∃ k : Nat, k ≤ m.ths.length ∧ c = .int .i64 k ∧ Going w B F wr (freeTo m2 n k) out (l2 ++ joiners m2.ths n k))
          (fun _ c _ => m.ths.length - (intOf c).toNat)
        case atStart => exact ⟨0, Nat.zero_le _, rfl, G2.out⟩
        case round =>
          obtain ⟨j, hj, rfl, hgo⟩ := hrel
          have hjl := joiners_len m2.ths n j
          have hlen : (l2 ++ joiners m2.ths n j).length ≤ 16 := by simp; omega
          have hjs := joiners_succ m2.ths n j
          obtain ⟨F', hrep, hsame, hF', hrow, hblk⟩ := hgo
          obtain ⟨oa, oc, rfl, -, -, -⟩ := hrow.form
          have HGO : Hid (Going w B F wr (freeTo m2 n j) (.slice oa (l2 ++ joiners m2.ths n j).length oc) (l2 ++ joiners m2.ths n j)) := ⟨F', hrep, hsame, hF', hrow, hblk⟩
          by_cases hlt : j < m.ths.length
          · have hfs := freeTo_succ m2 n j (by omega)
            have hft := freeTo_th m2 n j (by omega)
            have hfl := freeTo_len m2 n j
            have hval : (freeTo m2 n j).is ((j : Int) + 1) = true := by rw [is_iff, hfl]; omega
            obtain ⟨tv', lv', gv', rvs', hr⟩ := hrep
            obtain ⟨g2, o2, c2, rfl⟩ := hr.tlit hval
            have c0 := hr.b0
            rw [hfl, HNT2] at c0
            obtain ⟨htl2, htF2, hBt2, -, -, -, s3, -, sf, sset⟩ := hr.thr ((j : Int) + 1) hval
            rw [show ((j : Int) + 1).toNat - 1 = j from by omega] at s3 sset
            rw [hft] at s3 sset
            have hbB : B < wr.heap.size := hr.book.lt
            generalize freeTo m2 n j = mj at *
            generalize hlj : l2 ++ joiners m2.ths n j = lj at *
            by_cases hfj : (m2.ths.getD j t0).fin = n
            · have hj1 : l2 ++ joiners m2.ths n (j + 1) = lj ++ [(j : Int) + 1] := by rw [hjs, hfj, ← hlj]; simp
              have hm1' : freeTo m2 n (j + 1) = mj.setT ((j : Int) + 1) { m2.ths.getD j t0 with fin := 0 } := by rw [hfs]; unfold freeT; rw [if_pos hfj]
              have hq := sset 3 (.int .i64 0) { m2.ths.getD j t0 with fin := 0 } (by omega) rfl
              have hdid : Did B F' wr (wr.setCell ⟨g2, o2 + j * 5 + 3, none⟩ (.int .i64 0)) (freeTo m2 n (j + 1)) := by
                rw [hm1']; exact ⟨F', ⟨_, _, _, _, hq⟩, (Same.refl _ _).setCell (.inl htF2) _, fun k hk => .inl hk⟩
              have HG4 := Lib.hid (Going.step hsame hF' hrow hblk hdid)
              have hrow4 : Row (wr.setCell ⟨g2, o2 + j * 5 + 3, none⟩ (.int .i64 0)) 3 1 (.slice oa lj.length oc) lj.length (lj.flatMap (nE .i64)) := by
                obtain ⟨_, _, _, _, r, _⟩ := HG4.out; exact r
              have HROW4 := Lib.hid hrow4
              have HJ1 := Lib.hid hj1
              have e1 : (n == n) = true := by simp
              rw [hfj] at s3
              clear hj1 hm1' hq hdid hrow4 hfj hjs hfs hft hfl hval hr hsame hF' hrow hblk sset hlj hjl htF2
              go_wp2_with (at_builtin; refine wpList_append_row _ rfl (.tmp 85) (.tmp 88) 29 rfl 3 (.int .i64 0) 1 8 Tryd.underlying29 info3 rfl (by decide) (.slice oa lj.length oc) lj.length (lj.flatMap (nE .i64)) rfl ?hrow1 ⟨wr.heap.size, 0, none⟩ 1 1 [.int .i64 ((j : Int) + 1)] rfl rfl ?c1 ?c2 ?b1 ?b2 ?K)
              case hrow1 => exact HROW4.out.alloc _
              case c1 =>
                have := cell_one_new (wr.setCell ⟨g2, o2 + j * 5 + 3, none⟩ (.int .i64 0)) (.int .i64 ((j : Int) + 1)) 3
                simp only [World.size_setCell] at this
                exact this
              case c2 => intro u hu; simp at hu; subst hu; rfl
              case b1 => unfold maxLen; omega
              case b2 => omega
              case K =>
                intro v' w3 hrow' hsm hbk
                have HG3 : Hid (Going w B F w3 (freeTo m2 n (j + 1)) v' (l2 ++ joiners m2.ths n (j + 1))) := by
                  rw [HJ1.out]; exact Going.app HG4.out HLT.out hrow' hsm (by simpa using hbk)
                clear hrow' hsm hbk
                go_wp2
                go_roundw
                case rel => exact ⟨j + 1, by omega, by go_num, HG3.out⟩
                case measure => simp [intOf]; omega
            · have hf2 : ((m2.ths.getD j t0).fin == n) = false := by simpa using hfj
              have hj1 : l2 ++ joiners m2.ths n (j + 1) = lj := by rw [hjs, hf2, ← hlj]; simp
              have hm1' : freeTo m2 n (j + 1) = mj := by
                rw [hfs]
                have : freeT n (m2.ths.getD j t0) = mj.th ((j : Int) + 1) := by rw [hft]; simp only [freeT]; rw [if_neg hfj]
                rw [this]
                simp only [Bk.setT, Bk.th]
                rw [set_getD]
              have HG3 : Hid (Going w B F wr (freeTo m2 n (j + 1)) (.slice oa lj.length oc) (l2 ++ joiners m2.ths n (j + 1))) := by rw [hm1', hj1]; exact HGO.out
              clear hj1 hm1' hfj hjs hfs hft hfl hval hr hsame hF' hrow hblk sset hlj hjl htF2
              generalize (m2.ths.getD j t0).fin = fj at *
              go_wp2
              go_roundw
              case rel => exact ⟨j + 1, by omega, by go_num, HG3.out⟩
              case measure => simp [intOf]; omega
          · have hjn : j = m.ths.length := by omega
            subst hjn
            have HS := Lib.hid (sort_any _ _ hrow (by omega))
            generalize hlj : l2 ++ joiners m2.ths n m.ths.length = lj at *
            have HLJ := Lib.hid hlj
            have HSAME := Lib.hid hsame
            have HF2 := Lib.hid hF'
            have HBLK := Lib.hid hblk
            have HREP := Lib.hid hrep
            clear hjl hjs hrep hsame hF' hrow hblk hlj
            go_wp2_with fail
            refine HS.out.mono ?_
            rintro en w2 ⟨rfl, hr2, hs2⟩
            have HF3 : Hid (Going w B F w2 (freeTo m2 n m.ths.length) (.slice oa lj.length oc) (lj.mergeSort le)) := by
              refine ⟨F', HREP.out.frame hs2 (fun k hk hm => (HBLK.out k hm).2 hk), HSAME.out.trans' hs2 (fun k hk => .inr (HBLK.out k hk).1), HF2.out, ?_, HBLK.out⟩
              have : (lj.mergeSort le).length = lj.length := by simp
              rw [this]; exact hr2
            clear hr2 hs2
            go_wp2
            go_ret2
            exact ⟨_, rfl, HFIN.out _ _ (by first | exact HF3.out | (rw [HLJ.out]; exact HF3.out))⟩

end Lk
end Go.Proofs.YtkfdoocmapjkbaaDoor
