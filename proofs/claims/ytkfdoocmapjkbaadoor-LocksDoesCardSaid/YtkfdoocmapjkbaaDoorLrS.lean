/- Layer 19: a step of both books. -/
import Derived.Test.YtkfdoocmapjkbaaDoorLrK
namespace Go.Proofs.YtkfdoocmapjkbaaDoor
open Go.RowKit Hp
namespace Lk
variable {w w' W : World} {B R D : Nat} {m m' mr mr' : Bk} {F G V : List Nat} {ls : List (List Int)}

/-- Where both books and the book of lists stand behind a step. -/
def Stepped (w W w' : World) (B R D : Nat) (m' mr' : Bk) (ls0 : List (List Int)) (F G V : List Nat) : Prop :=
  ∃ F' G' V' ls', Trio w w' B R D m' mr' ls' F' G' V' ∧ Upd (F ++ G ++ D :: V) (F' ++ G' ++ D :: V') W w' ∧ ls'.length ≤ ls0.length + 1 ∧ ∀ l ∈ ls', l ∈ ls0 ∨ l.length ≤ 8

theorem Stepped.of {W0 w2 : World} {F' G' V' : List Nat} {ls' ls0 : List (List Int)} (hs : Same [] W W0) (t : Trio w w2 B R D m' mr' ls' F' G' V') (u : Upd (F ++ G ++ D :: V) (F' ++ G' ++ D :: V') W0 w2) (hl : ls'.length ≤ ls0.length + 1 ∧ ∀ l ∈ ls', l ∈ ls0 ∨ l.length ≤ 8) :
    Stepped w W w2 B R D m' mr' ls0 F G V :=
  ⟨F', G', V', ls', t, ⟨(hs.mono (by simp)).trans u.same, fun k hk => by
    rcases u.new k hk with h | h
    · exact .inl h
    · have := hs.size; exact .inr (by omega)⟩, hl⟩

/-- The step's own cells. -/
def opC (kd t n x e : Int) : List Value := [.int .i64 kd, .int .i64 t, .int .i64 n, .int .u64 x, .int .i64 e]

theorem ok_endF (ok : Ok m) (n x e : Int) : Ok (endF m n x e).2.2 := by
  unfold endF
  split
  · exact ok
  · rename_i h1
    split
    · exact ok
    · rename_i h2
      exact ok.ended x e (by simpa using h1) (by simpa using h2)
theorem endF_len (ok : Ok m) (n x e : Int) : (endF m n x e).1.length ≤ 8 := by
  have := ok.nt
  unfold endF
  split
  · simp
  · split
    · simp
    · unfold endOut
      refine Nat.le_trans (List.length_filter_le _ _) ?_
      simp; omega

set_option maxHeartbeats 3200000 in
set_option maxRecDepth 100000 in
theorem step_any (kd t n x e : Int) (T : Trio w W B R D m mr ls F G V) (hw : w.heap.size ≤ W.heap.size) (hls : ls.length ≤ 1000000) :
    Calls Tryd.prog 21 #[.pointer (some ⟨B, 0, none⟩), .pointer (some ⟨R, 0, none⟩), (.agg #[.int .i64 kd, .int .i64 t, .int .i64 n, .int .u64 x, .int .i64 e]), .pointer (some ⟨D, 0, none⟩)] W fun en w' =>
      ∃ c, en = .returned (.bool c) ∧ (m = mr → c = true) ∧ Stepped w W w' B R D (stepM m kd t n x e) (stepM mr kd t n x e) ls F G V := by
  obtain ⟨W0, hW0⟩ : ∃ W0, W0 = W.alloc (.cells #[.int .i64 kd, .int .i64 t, .int .i64 n, .int .u64 x, .int .i64 e] 35) := ⟨_, rfl⟩
  have hs0 : Same [] W W0 := by rw [hW0]; exact (Same.refl _ _).alloc _
  have hb0 : Blk W0 W.heap.size 35 (opC kd t n x e) := by rw [hW0]; exact Blk.new W 35 _
  have HT0 : Hid (Trio w W0 B R D m mr ls F G V) := Lib.hid (T.frame hs0 (by simp) (by simp) (by simp) (by simp))
  have hw0 : w.heap.size ≤ W0.heap.size := Nat.le_trans hw hs0.size
  have hoF : W.heap.size ∉ F := fun h => by have := T.p.b.rep.lt _ h; omega
  have hoG : W.heap.size ∉ G := fun h => by have := T.p.r.lt _ h; omega
  have HS0 := Lib.hid hs0
  have HB0 := Lib.hid hb0
  have HW0 := Lib.hid hw0
  have HoF := Lib.hid hoF
  have HoG := Lib.hid hoG
  have HE := Lib.hid hW0
  have hnt := T.p.b.ok.nt
  have HOK := Lib.hid T.p.b.ok
  have HZR := Lib.hid T.p.zr
  have HKR := Lib.hid T.p.okr
  clear hs0 hb0 hw0 hoF hoG hW0 T hw
  by_cases k1 : kd = 1
  · as_aux_lemma =>
    subst k1
    obtain ⟨⟨a, b_, m'⟩, hs⟩ : ∃ r, start m = r := ⟨_, rfl⟩
    obtain ⟨⟨a2, b2_, mr'⟩, hs2⟩ : ∃ r, start mr = r := ⟨_, rfl⟩
    have hz := zr_start HZR.out
    rw [hs2] at hz
    have HZ := Lib.hid hz
    have HS := Lib.hid hs
    have HS2 := Lib.hid hs2
    have hk := HKR.out.start
    rw [hs2] at hk
    have HK := Lib.hid hk
    have EQ : Hid (m = mr → a = a2 ∧ b_ = b2_) := Lib.hid (fun e => by
      rw [e, hs2] at hs
      injection hs with i1 i2
      injection i2 with i2 i3
      exact ⟨i1.symm, i2.symm⟩)
    have HM : Hid (stepM m 1 t n x e = m') := Lib.hid (by simp [stepM, hs])
    rw [HM.out]
    have HM2 : Hid (stepM mr 1 t n x e = mr') := Lib.hid (by simp [stepM, hs2])
    rw [HM2.out]
    clear hz hk hs hs2 HM HM2 
    go_enter Tryd.func21, Tryd.ntmps21
    go_wp2_with fail
    rw [← HE.out]
    refine (own_start HT0.out.p.b HW0.out a b_ m' HS.out).mono ?_
    rintro en w1 ⟨rfl, F1, ho, u⟩
    have hr1 := r_start (HT0.out.p.first u).1 HKR.out.nt
    rw [HS2.out] at hr1
    have HR1 := Lib.hid hr1
    have HO := Lib.hid ho
    have HU := Lib.hid u
    clear hr1 ho u
    go_wp2_with fail
    refine HR1.out.mono ?_
    rintro en w2 ⟨rfl, hd⟩
    obtain ⟨G2, p2, u2⟩ := HT0.out.p.both HW0.out HO.out HU.out HK.out HZ.out hd
    have HFIN := Lib.hid (HT0.out.both p2 u2)
    clear hd p2 u2
    cases h1 : (a == a2) with
    | false =>
      go_wp2
      go_ret
      exact ⟨false, rfl, fun e => by have h0 := (EQ.out e).1; rw [h0] at h1; simp at h1, Stepped.of HS0.out HFIN.out.1 HFIN.out.2 ⟨Nat.le_succ _, fun _ h => .inl h⟩⟩
    | true =>
      cases h2 : (b_ == b2_) with
      | false =>
        go_wp2
        go_ret
        exact ⟨false, rfl, fun e => by have h0 := (EQ.out e).2; rw [h0] at h2; simp at h2, Stepped.of HS0.out HFIN.out.1 HFIN.out.2 ⟨Nat.le_succ _, fun _ h => .inl h⟩⟩
      | true =>
        go_wp2
        go_ret
        exact ⟨true, rfl, fun _ => rfl, Stepped.of HS0.out HFIN.out.1 HFIN.out.2 ⟨Nat.le_succ _, fun _ h => .inl h⟩⟩
  · by_cases k2 : kd = 2
    · as_aux_lemma =>
      subst k2
      obtain ⟨⟨l, b_, m'⟩, hs⟩ : ∃ r, endF m t x e = r := ⟨_, rfl⟩
      obtain ⟨⟨l2, b2_, mr'⟩, hs2⟩ : ∃ r, endF mr t x e = r := ⟨_, rfl⟩
      have hz := zr_end HKR.out HZR.out t x e
      rw [hs2] at hz
      have HZ := Lib.hid hz
      have hk := ok_endF HKR.out t x e
      rw [hs2] at hk
      have HK := Lib.hid hk
      have HS := Lib.hid hs
      have HS2 := Lib.hid hs2
      have EQ : Hid (m = mr → l = l2 ∧ b_ = b2_) := Lib.hid (fun e => by
        rw [e, hs2] at hs
        injection hs with i1 i2
        injection i2 with i2 i3
        exact ⟨i1.symm, i2.symm⟩)
      have HM : Hid (stepM m 2 t n x e = m') := Lib.hid (by simp [stepM, hs])
      rw [HM.out]
      have HM2 : Hid (stepM mr 2 t n x e = mr') := Lib.hid (by simp [stepM, hs2])
      rw [HM2.out]
      have hll : l.length ≤ 8 := by have := endF_len HOK.out t x e; rw [hs] at this; exact this
      have hll2 : l2.length ≤ 8 := by have := endF_len HKR.out t x e; rw [hs2] at this; exact this
      have HLL := Lib.hid hll
      have HLL2 := Lib.hid hll2
      clear hz hk hs hs2 HM HM2 k1 hll hll2
      go_enter Tryd.func21, Tryd.ntmps21
      go_wp2_with fail
      rw [← HE.out]
      refine (own_end HT0.out.p.b HW0.out t x e l b_ m' HS.out).mono ?_
      rintro en w1 ⟨v, F1, rfl, ho, u, hrow, hvn⟩
      have hr1 := r_endF t x e (HT0.out.p.first u).1 HKR.out l2 b2_ mr' HS2.out
      have HR1 := Lib.hid hr1
      have HO := Lib.hid ho
      have HU := Lib.hid u
      have hbo := HB0.out.frame u.same HoF.out
      have q1 : w1.cell? ⟨W.heap.size, 1, none⟩ = some (.int .i64 t) := hbo.cell 1
      have q3 : w1.cell? ⟨W.heap.size, 3, none⟩ = some (.int .u64 x) := hbo.cell 3
      have q4 : w1.cell? ⟨W.heap.size, 4, none⟩ = some (.int .i64 e) := hbo.cell 4
      have HROW := Lib.hid hrow
      have HVN := Lib.hid hvn
      obtain ⟨va, vc, rfl, -, -, -⟩ := hrow.form
      clear hr1 ho u hbo hrow hvn
      go_wp2_with fail
      refine HR1.out.mono ?_
      rintro en w2 ⟨v2, rfl, hd, hrow2, hv2⟩
      have hG : ∀ k ∈ blk (.slice va l.length vc), k ∉ G := fun k hk hm => by
        have := (HVN.out k hk).1
        have := HT0.out.p.r.lt k hm
        omega
      have hsame2 : Same G w1 w2 := by obtain ⟨_, _, h, _⟩ := hd; exact h
      obtain ⟨G2, p2, u2, hg2⟩ := HT0.out.p.both' HW0.out HO.out HU.out HK.out HZ.out hd
      have hfin := HT0.out.both p2 u2
      have hrow1 := HROW.out.frame hsame2 hG
      have hvs : ∀ k ∈ blk (.slice va l.length vc), w.heap.size ≤ k ∧ k ∉ F1 ∧ k ∉ G2 := fun k hk => by
        obtain ⟨h1, h2⟩ := HVN.out k hk
        refine ⟨Nat.le_trans HW0.out h1, h2, fun hm => ?_⟩
        exact hg2 k (HROW.out.lt k hk) (hG k hk) hm
      have hvD : ∀ k ∈ blk (.slice va l.length vc), k ∉ V ∧ k ≠ D := fun k hk => by
        have h1 := (HVN.out k hk).1
        refine ⟨fun hm => ?_, fun he => ?_⟩
        · have := HT0.out.vlt k hm; omega
        · have := HT0.out.dlt; omega
      have hv2D : ∀ k ∈ blk v2, k ∉ D :: V := fun k hk hm => by
        have h1 := hv2 k hk
        have := HU.out.same.size
        rcases List.mem_cons.1 hm with h | h
        · have := HT0.out.dlt; omega
        · have := HT0.out.vlt k h; omega
      have hvDV : ∀ k ∈ blk (.slice va l.length vc), k ∉ D :: V := fun k hk hm => by
        rcases List.mem_cons.1 hm with h | h
        · exact (hvD k hk).2 h
        · exact (hvD k hk).1 h
      have HI := Lib.hid (ints_any ls l _ hfin.1.i hrow1 hvD hfin.1.dV hls)
      have HT2 := Lib.hid hfin.1
      have HU2 := Lib.hid hfin.2
      have HROW1 := Lib.hid hrow1
      have HROW2 := Lib.hid hrow2
      have HVS := Lib.hid hvs
      have HV2D := Lib.hid hv2D
      have HVDV := Lib.hid hvDV
      have HSZ : Hid (W0.heap.size ≤ w2.heap.size) := Lib.hid u2.same.size
      obtain ⟨v2a, v2c, rfl, -, -, -⟩ := hrow2.form
      clear hd hsame2 p2 u2 hfin hrow1 hvs hvD hv2D hvDV hrow2 hv2 hG q1 q3 q4 hg2
      go_wp2_with fail
      refine HI.out.mono ?_
      rintro en w3 ⟨rfl, V2, i1, i2, i3, i4⟩
      have hr3 := HROW1.out.frame i3 HVDV.out
      have hr4 := HROW2.out.frame i3 HV2D.out
      have hsi := same_ints l l2 _ _ hr3 hr4 (by have := HLL.out; omega) (by have := HLL2.out; omega)
      obtain ⟨dl, hdl⟩ : ∃ dl, dl = decide (l = l2) := ⟨_, rfl⟩
      rw [← hdl] at hsi
      have HDL := Lib.hid hdl
      clear hdl
      have HSI := Lib.hid hsi
      have ht3 := HT2.out.ints HVS.out (fun k hk => HROW1.out.lt k hk) i1 i2 i3 i4 (Nat.le_trans HW0.out HSZ.out)
      have HT3 := Lib.hid ht3
      have hu3 : Upd (F ++ G ++ D :: V) (F1 ++ G2 ++ D :: V2) W0 w3 := by
        refine ⟨HU2.out.same.trans' i3 (fun k hk => .inl (by simp only [List.mem_append]; exact .inr hk)), fun k hk => ?_⟩
        simp only [List.mem_append, List.mem_cons] at hk
        have base : ∀ k, k ∈ F1 ++ G2 ++ D :: V → k ∈ F ++ G ++ D :: V ∨ W0.heap.size ≤ k := HU2.out.new
        rcases hk with (hk | hk) | hk | hk
        · exact base k (by simp [hk])
        · exact base k (by simp [hk])
        · exact base k (by simp [hk])
        · rcases i4 k hk with h | h | h
          · exact base k (by simp [h])
          · exact .inr (HVN.out k h).1
          · have := HSZ.out; exact .inr (by omega)
      have HU3 := Lib.hid hu3
      clear hr3 hr4 hsi ht3 hu3 i1 i2 i3 i4
      go_wp2_with fail
      refine HSI.out.mono ?_
      rintro en w4 ⟨rfl, hs4⟩
      have ht4 := HT3.out.frame hs4 (by simp) (by simp) (by simp) (by simp)
      have hu4 : Upd (F ++ G ++ D :: V) (F1 ++ G2 ++ D :: V2) W0 w4 := ⟨HU3.out.same.trans' hs4 (by simp), HU3.out.new⟩
      have HT4 := Lib.hid ht4
      have HU4 := Lib.hid hu4
      clear hs4 ht4 hu4
      have HFIN : Hid (Stepped w W w4 B R D m' mr' ls F G V) := Lib.hid (Stepped.of HS0.out HT4.out HU4.out ⟨by simp, fun y hy => (List.mem_append.1 hy).imp id (fun h => by rw [List.mem_singleton.1 h]; exact HLL.out)⟩)
      cases dl with
      | false =>
        go_wp2
        go_ret
        exact ⟨false, rfl, fun e => by have h0 := (EQ.out e).1; have h1 := HDL.out; rw [decide_eq_true h0] at h1; exact h1, HFIN.out⟩
      | true =>
        cases h2 : (b_ == b2_) with
        | false =>
          go_wp2
          go_ret
          exact ⟨false, rfl, fun e => by have h0 := (EQ.out e).2; rw [h0] at h2; simp at h2, HFIN.out⟩
        | true =>
          go_wp2
          go_ret
          exact ⟨true, rfl, fun _ => rfl, HFIN.out⟩
    · by_cases k3 : kd = 3
      · as_aux_lemma =>
        subst k3
        obtain ⟨⟨y, a, b_, m'⟩, hs⟩ : ∃ r, joinF m t n = r := ⟨_, rfl⟩
        obtain ⟨⟨y2, a2, b2_, mr'⟩, hs2⟩ : ∃ r, joinF mr t n = r := ⟨_, rfl⟩
        have hz := zr_join HZR.out t n
        rw [hs2] at hz
        have HZ := Lib.hid hz
        have HS := Lib.hid hs
        have HS2 := Lib.hid hs2
        have hk := HKR.out.join t n
        rw [hs2] at hk
        have HK := Lib.hid hk
        have EQ : Hid (m = mr → y = y2 ∧ a = a2 ∧ b_ = b2_) := Lib.hid (fun e => by
          rw [e, hs2] at hs
          injection hs with i1 i2
          injection i2 with i2 i3
          injection i3 with i3 i4
          exact ⟨i1.symm, i2.symm, i3.symm⟩)
        have HM : Hid (stepM m 3 t n x e = m') := Lib.hid (by simp [stepM, hs])
        rw [HM.out]
        have HM2 : Hid (stepM mr 3 t n x e = mr') := Lib.hid (by simp [stepM, hs2])
        rw [HM2.out]
        clear hz hk hs hs2 HM HM2 k1 k2
        go_enter Tryd.func21, Tryd.ntmps21
        go_wp2_with fail
        rw [← HE.out]
        refine (own_join HT0.out.p.b HW0.out t n y a b_ m' HS.out).mono ?_
        rintro en w1 ⟨rfl, F1, ho, u⟩
        have hr1 := r_join t n (HT0.out.p.first u).1 HKR.out HZR.out
        rw [HS2.out] at hr1
        have HR1 := Lib.hid hr1
        have HO := Lib.hid ho
        have HU := Lib.hid u
        have hbo := HB0.out.frame u.same HoF.out
        have q1 : w1.cell? ⟨W.heap.size, 1, none⟩ = some (.int .i64 t) := hbo.cell 1
        have q2 : w1.cell? ⟨W.heap.size, 2, none⟩ = some (.int .i64 n) := hbo.cell 2
        clear hbo
        clear hr1 ho u
        go_wp2_with fail
        refine HR1.out.mono ?_
        rintro en w2 ⟨rfl, hd⟩
        obtain ⟨G2, p2, u2⟩ := HT0.out.p.both HW0.out HO.out HU.out HK.out HZ.out hd
        have HFIN := Lib.hid (HT0.out.both p2 u2)
        clear hd p2 u2
        cases h1 : (y == y2) with
        | false =>
          go_wp2
          go_ret
          exact ⟨false, rfl, fun e => by have h0 := (EQ.out e).1; rw [h0] at h1; simp at h1, Stepped.of HS0.out HFIN.out.1 HFIN.out.2 ⟨Nat.le_succ _, fun _ h => .inl h⟩⟩
        | true =>
          cases h2 : (a == a2) with
          | false =>
            go_wp2
            go_ret
            exact ⟨false, rfl, fun e => by have h0 := (EQ.out e).2.1; rw [h0] at h2; simp at h2, Stepped.of HS0.out HFIN.out.1 HFIN.out.2 ⟨Nat.le_succ _, fun _ h => .inl h⟩⟩
          | true =>
            cases h3 : (b_ == b2_) with
            | false =>
              go_wp2
              go_ret
              exact ⟨false, rfl, fun e => by have h0 := (EQ.out e).2.2; rw [h0] at h3; simp at h3, Stepped.of HS0.out HFIN.out.1 HFIN.out.2 ⟨Nat.le_succ _, fun _ h => .inl h⟩⟩
            | true =>
              go_wp2
              go_ret
              exact ⟨true, rfl, fun _ => rfl, Stepped.of HS0.out HFIN.out.1 HFIN.out.2 ⟨Nat.le_succ _, fun _ h => .inl h⟩⟩
      · by_cases k4 : kd = 4
        · as_aux_lemma =>
          subst k4
          obtain ⟨⟨a, b_, m'⟩, hs⟩ : ∃ r, lockF m t n = r := ⟨_, rfl⟩
          obtain ⟨⟨a2, b2_, mr'⟩, hs2⟩ : ∃ r, lockF mr t n = r := ⟨_, rfl⟩
          have hz := zr_lock HZR.out t n
          rw [hs2] at hz
          have HZ := Lib.hid hz
          have HS := Lib.hid hs
          have HS2 := Lib.hid hs2
          have hk := HKR.out.lock t n
          rw [hs2] at hk
          have HK := Lib.hid hk
          have EQ : Hid (m = mr → a = a2 ∧ b_ = b2_) := Lib.hid (fun e => by
            rw [e, hs2] at hs
            injection hs with i1 i2
            injection i2 with i2 i3
            exact ⟨i1.symm, i2.symm⟩)
          have HM : Hid (stepM m 4 t n x e = m') := Lib.hid (by simp [stepM, hs])
          rw [HM.out]
          have HM2 : Hid (stepM mr 4 t n x e = mr') := Lib.hid (by simp [stepM, hs2])
          rw [HM2.out]
          clear hz hk hs hs2 HM HM2 k1 k2 k3
          go_enter Tryd.func21, Tryd.ntmps21
          go_wp2_with fail
          rw [← HE.out]
          refine (own_lock HT0.out.p.b HW0.out t n a b_ m' HS.out).mono ?_
          rintro en w1 ⟨rfl, F1, ho, u⟩
          have hr1 := r_lock t n (HT0.out.p.first u).1 HKR.out HZR.out
          rw [HS2.out] at hr1
          have HR1 := Lib.hid hr1
          have HO := Lib.hid ho
          have HU := Lib.hid u
          have hbo := HB0.out.frame u.same HoF.out
          have q1 : w1.cell? ⟨W.heap.size, 1, none⟩ = some (.int .i64 t) := hbo.cell 1
          have q2 : w1.cell? ⟨W.heap.size, 2, none⟩ = some (.int .i64 n) := hbo.cell 2
          clear hbo
          clear hr1 ho u
          go_wp2_with fail
          refine HR1.out.mono ?_
          rintro en w2 ⟨rfl, hd⟩
          obtain ⟨G2, p2, u2⟩ := HT0.out.p.both HW0.out HO.out HU.out HK.out HZ.out hd
          have HFIN := Lib.hid (HT0.out.both p2 u2)
          clear hd p2 u2
          cases h1 : (a == a2) with
          | false =>
            go_wp2
            go_ret
            exact ⟨false, rfl, fun e => by have h0 := (EQ.out e).1; rw [h0] at h1; simp at h1, Stepped.of HS0.out HFIN.out.1 HFIN.out.2 ⟨Nat.le_succ _, fun _ h => .inl h⟩⟩
          | true =>
            cases h2 : (b_ == b2_) with
            | false =>
              go_wp2
              go_ret
              exact ⟨false, rfl, fun e => by have h0 := (EQ.out e).2; rw [h0] at h2; simp at h2, Stepped.of HS0.out HFIN.out.1 HFIN.out.2 ⟨Nat.le_succ _, fun _ h => .inl h⟩⟩
            | true =>
              go_wp2
              go_ret
              exact ⟨true, rfl, fun _ => rfl, Stepped.of HS0.out HFIN.out.1 HFIN.out.2 ⟨Nat.le_succ _, fun _ h => .inl h⟩⟩
        · by_cases k5 : kd = 5
          · as_aux_lemma =>
            subst k5
            obtain ⟨⟨a, b_, m'⟩, hs⟩ : ∃ r, unlockF m t n = r := ⟨_, rfl⟩
            obtain ⟨⟨a2, b2_, mr'⟩, hs2⟩ : ∃ r, unlockF mr t n = r := ⟨_, rfl⟩
            have hz := zr_unlock HKR.out HZR.out t n
            rw [hs2] at hz
            have HZ := Lib.hid hz
            have HS := Lib.hid hs
            have HS2 := Lib.hid hs2
            have hk := HKR.out.unlock t n
            rw [hs2] at hk
            have HK := Lib.hid hk
            have EQ : Hid (m = mr → a = a2 ∧ b_ = b2_) := Lib.hid (fun e => by
              rw [e, hs2] at hs
              injection hs with i1 i2
              injection i2 with i2 i3
              exact ⟨i1.symm, i2.symm⟩)
            have HM : Hid (stepM m 5 t n x e = m') := Lib.hid (by simp [stepM, hs])
            rw [HM.out]
            have HM2 : Hid (stepM mr 5 t n x e = mr') := Lib.hid (by simp [stepM, hs2])
            rw [HM2.out]
            clear hz hk hs hs2 HM HM2 k1 k2 k3 k4
            go_enter Tryd.func21, Tryd.ntmps21
            go_wp2_with fail
            rw [← HE.out]
            refine (own_unlock HT0.out.p.b HW0.out t n a b_ m' HS.out).mono ?_
            rintro en w1 ⟨rfl, F1, ho, u⟩
            have hr1 := r_unlock t n (HT0.out.p.first u).1 HKR.out
            rw [HS2.out] at hr1
            have HR1 := Lib.hid hr1
            have HO := Lib.hid ho
            have HU := Lib.hid u
            have hbo := HB0.out.frame u.same HoF.out
            have q1 : w1.cell? ⟨W.heap.size, 1, none⟩ = some (.int .i64 t) := hbo.cell 1
            have q2 : w1.cell? ⟨W.heap.size, 2, none⟩ = some (.int .i64 n) := hbo.cell 2
            clear hbo
            clear hr1 ho u
            go_wp2_with fail
            refine HR1.out.mono ?_
            rintro en w2 ⟨rfl, hd⟩
            obtain ⟨G2, p2, u2⟩ := HT0.out.p.both HW0.out HO.out HU.out HK.out HZ.out hd
            have HFIN := Lib.hid (HT0.out.both p2 u2)
            clear hd p2 u2
            cases h1 : (a == a2) with
            | false =>
              go_wp2
              go_ret
              exact ⟨false, rfl, fun e => by have h0 := (EQ.out e).1; rw [h0] at h1; simp at h1, Stepped.of HS0.out HFIN.out.1 HFIN.out.2 ⟨Nat.le_succ _, fun _ h => .inl h⟩⟩
            | true =>
              cases h2 : (b_ == b2_) with
              | false =>
                go_wp2
                go_ret
                exact ⟨false, rfl, fun e => by have h0 := (EQ.out e).2; rw [h0] at h2; simp at h2, Stepped.of HS0.out HFIN.out.1 HFIN.out.2 ⟨Nat.le_succ _, fun _ h => .inl h⟩⟩
              | true =>
                go_wp2
                go_ret
                exact ⟨true, rfl, fun _ => rfl, Stepped.of HS0.out HFIN.out.1 HFIN.out.2 ⟨Nat.le_succ _, fun _ h => .inl h⟩⟩
          · by_cases k6 : kd = 6
            · as_aux_lemma =>
              subst k6
              obtain ⟨⟨a, b_⟩, hs⟩ : ∃ r, globalF m n = r := ⟨_, rfl⟩
              obtain ⟨⟨a2, b2_⟩, hs2⟩ : ∃ r, globalF mr n = r := ⟨_, rfl⟩
              have HS := Lib.hid hs
              have HM : Hid (stepM m 6 t n x e = m) := Lib.hid (by simp [stepM])
              have HM2 : Hid (stepM mr 6 t n x e = mr) := Lib.hid (by simp [stepM])
              rw [HM.out, HM2.out]
              have EQ : Hid (m = mr → a = a2 ∧ b_ = b2_) := Lib.hid (fun e => by
                rw [e, hs2] at hs
                injection hs with i1 i2
                exact ⟨i1.symm, i2.symm⟩)
              have hr1 := r_global n HT0.out.p.r HKR.out.ng
              rw [hs2] at hr1
              have HR1 := Lib.hid hr1
              have q2 : W0.cell? ⟨W.heap.size, 2, none⟩ = some (.int .i64 n) := HB0.out.cell 2
              clear hs hs2 HM HM2 hr1 k1 k2 k3 k4 k5
              go_enter Tryd.func21, Tryd.ntmps21
              go_wp2_with fail
              rw [← HE.out]
              refine (own_global HT0.out.p.b n a b_ HS.out).mono ?_
              rintro en w1 ⟨rfl, rfl⟩
              go_wp2_with fail
              refine HR1.out.mono ?_
              rintro en w1 ⟨rfl, rfl⟩
              have HFIN : Hid (Trio w W0 B R D m mr ls F G V ∧ Upd (F ++ G ++ D :: V) (F ++ G ++ D :: V) W0 W0) := Lib.hid ⟨HT0.out, Upd.refl _ _⟩
              cases h1 : (a == a2) with
              | false =>
                go_wp2
                go_ret
                exact ⟨false, rfl, fun e => by have h0 := (EQ.out e).1; rw [h0] at h1; simp at h1, Stepped.of HS0.out HFIN.out.1 HFIN.out.2 ⟨Nat.le_succ _, fun _ h => .inl h⟩⟩
              | true =>
                cases h2 : (b_ == b2_) with
                | false =>
                  go_wp2
                  go_ret
                  exact ⟨false, rfl, fun e => by have h0 := (EQ.out e).2; rw [h0] at h2; simp at h2, Stepped.of HS0.out HFIN.out.1 HFIN.out.2 ⟨Nat.le_succ _, fun _ h => .inl h⟩⟩
                | true =>
                  go_wp2
                  go_ret
                  exact ⟨true, rfl, fun _ => rfl, Stepped.of HS0.out HFIN.out.1 HFIN.out.2 ⟨Nat.le_succ _, fun _ h => .inl h⟩⟩
            · by_cases k7 : kd = 7
              · as_aux_lemma =>
                subst k7
                obtain ⟨⟨a, b_, m'⟩, hs⟩ : ∃ r, setGlobalF m n x = r := ⟨_, rfl⟩
                obtain ⟨⟨a2, b2_, mr'⟩, hs2⟩ : ∃ r, setGlobalF mr n x = r := ⟨_, rfl⟩
                have hz := zr_setGlobal HZR.out n x
                rw [hs2] at hz
                have HZ := Lib.hid hz
                have HS := Lib.hid hs
                have HS2 := Lib.hid hs2
                have hk := HKR.out.setGlobal n x
                rw [hs2] at hk
                have HK := Lib.hid hk
                have EQ : Hid (m = mr → a = a2 ∧ b_ = b2_) := Lib.hid (fun e => by
                  rw [e, hs2] at hs
                  injection hs with i1 i2
                  injection i2 with i2 i3
                  exact ⟨i1.symm, i2.symm⟩)
                have HM : Hid (stepM m 7 t n x e = m') := Lib.hid (by simp [stepM, hs])
                rw [HM.out]
                have HM2 : Hid (stepM mr 7 t n x e = mr') := Lib.hid (by simp [stepM, hs2])
                rw [HM2.out]
                clear hz hk hs hs2 HM HM2 k1 k2 k3 k4 k5 k6
                go_enter Tryd.func21, Tryd.ntmps21
                go_wp2_with fail
                rw [← HE.out]
                refine (own_setGlobal HT0.out.p.b HW0.out n x a b_ m' HS.out).mono ?_
                rintro en w1 ⟨rfl, F1, ho, u⟩
                have hr1 := r_setGlobal n x (HT0.out.p.first u).1 HKR.out.ng
                rw [HS2.out] at hr1
                have HR1 := Lib.hid hr1
                have HO := Lib.hid ho
                have HU := Lib.hid u
                have hbo := HB0.out.frame u.same HoF.out
                have q2 : w1.cell? ⟨W.heap.size, 2, none⟩ = some (.int .i64 n) := hbo.cell 2
                have q3 : w1.cell? ⟨W.heap.size, 3, none⟩ = some (.int .u64 x) := hbo.cell 3
                clear hbo
                clear hr1 ho u
                go_wp2_with fail
                refine HR1.out.mono ?_
                rintro en w2 ⟨rfl, hd⟩
                obtain ⟨G2, p2, u2⟩ := HT0.out.p.both HW0.out HO.out HU.out HK.out HZ.out hd
                have HFIN := Lib.hid (HT0.out.both p2 u2)
                clear hd p2 u2
                cases h1 : (a == a2) with
                | false =>
                  go_wp2
                  go_ret
                  exact ⟨false, rfl, fun e => by have h0 := (EQ.out e).1; rw [h0] at h1; simp at h1, Stepped.of HS0.out HFIN.out.1 HFIN.out.2 ⟨Nat.le_succ _, fun _ h => .inl h⟩⟩
                | true =>
                  cases h2 : (b_ == b2_) with
                  | false =>
                    go_wp2
                    go_ret
                    exact ⟨false, rfl, fun e => by have h0 := (EQ.out e).2; rw [h0] at h2; simp at h2, Stepped.of HS0.out HFIN.out.1 HFIN.out.2 ⟨Nat.le_succ _, fun _ h => .inl h⟩⟩
                  | true =>
                    go_wp2
                    go_ret
                    exact ⟨true, rfl, fun _ => rfl, Stepped.of HS0.out HFIN.out.1 HFIN.out.2 ⟨Nat.le_succ _, fun _ h => .inl h⟩⟩
              · as_aux_lemma =>
                have HM : Hid (stepM m kd t n x e = m) := Lib.hid (by simp [stepM, k1, k2, k3, k4, k5, k7])
                have HM2 : Hid (stepM mr kd t n x e = mr) := Lib.hid (by simp [stepM, k1, k2, k3, k4, k5, k7])
                rw [HM.out, HM2.out]
                have n1 : (kd == 1) = false := by simpa using k1
                have n2 : (kd == 2) = false := by simpa using k2
                have n3 : (kd == 3) = false := by simpa using k3
                have n4 : (kd == 4) = false := by simpa using k4
                have n5 : (kd == 5) = false := by simpa using k5
                have n6 : (kd == 6) = false := by simpa using k6
                have n7 : (kd == 7) = false := by simpa using k7
                clear HM HM2 k1 k2 k3 k4 k5 k6 k7
                go_enter Tryd.func21, Tryd.ntmps21
                go_wp2
                rw [← HE.out]
                go_ret
                exact ⟨true, rfl, fun _ => rfl, Stepped.of HS0.out HT0.out (Upd.refl _ _) ⟨Nat.le_succ _, fun _ h => .inl h⟩⟩
end Lk
end Go.Proofs.YtkfdoocmapjkbaaDoor
