/- Layer 19, the document's answer: End. -/
import Derived.Test.YtkfdoocmapjkbaaDoorLrW5
namespace Go.Proofs.YtkfdoocmapjkbaaDoor
open Go.RowKit Hp
namespace Lk
variable {w w' : World} {B : Nat} {m : Bk} {gs : List Int} {F : List Nat} {tv lv gv : Value} {rvs : List Value}

theorem OkN.row8 {m : Bk} {n : Int} {P : Int → Prop} (ok : OkN m n P) {l : Int} (hl : m.isL l = true) : (m.lo l).row.length ≤ 8 :=
  nodup_len 8 _ (ok.rowNo l hl) (fun t ht => by
    have := (is_iff m t).1 (ok.rowIn l t hl ht).1
    have := ok.nt
    omega)
theorem OkN.rowGood {m : Bk} {n : Int} {P : Int → Prop} (ok : OkN m n P) {l : Int} (hl : m.isL l = true) : ∀ t ∈ (m.lo l).row, m.is t = true ∧ (m.th t).fin = 0 := fun t ht => ⟨(ok.rowIn l t hl ht).1, by
  have h1 := ok.rowIn l t hl ht
  rcases ok.lk t h1.1 with h2 | ⟨_, _, h2, _⟩
  · have := (isL_iff m l).1 hl; omega
  · exact h2⟩
theorem OkN.to {m : Bk} {n : Int} {P : Int → Prop} (ok : OkN m n P) {l : Int} (hl : m.isL l = true) : 0 ≤ handTo m l ∧ handTo m l ≤ m.ths.length := by
  unfold handTo
  split
  · omega
  · rename_i t r hc
    have := (is_iff m t).1 (ok.rowIn l t hl (by rw [hc]; simp)).1
    omega

theorem r_end_bad (n x e : Int) (h : Rr w B m F) (ok : Ok m) (hbad : m.is n = false ∨ (m.th n).goes = false) :
    Calls Tryd.prog 37 #[.pointer (some ⟨B, 0, none⟩), .int .i64 n, .int .u64 x, .int .i64 e] w fun en w' => en = .returned (.tuple #[.slice none 0 0, .int .i64 (if m.is n = false then 190 else 192)]) ∧ w = w' := by
  have HI := Lib.hid (r_is n h ok.nt)
  by_cases hn : m.is n = false
  · rw [if_pos hn]
    rw [hn] at HI
    clear h ok hbad hn
    go_enter Tryd.func37, Tryd.ntmps37
    go_wp2_with fail
    refine HI.out.mono ?_
    rintro en w1 ⟨rfl, rfl⟩
    go_wp2
    go_ret2
    exact ⟨rfl, rfl⟩
  · rw [if_neg hn]
    have hn' : m.is n = true := by simpa using hn
    have hg := hbad.resolve_left hn
    have HG := Lib.hid (r_goes n h ok.nt hn')
    rw [hn'] at HI
    rw [hg] at HG
    clear h ok hbad hn hn' hg
    go_enter Tryd.func37, Tryd.ntmps37
    go_wp2_with fail
    refine HI.out.mono ?_
    rintro en w1 ⟨rfl, rfl⟩
    go_wp2_with fail
    refine HG.out.mono ?_
    rintro en w1 ⟨rfl, rfl⟩
    go_wp2
    go_ret2
    exact ⟨rfl, rfl⟩

/-- The book, beside the table of who goes. -/
def Wk (w : World) (B : Nat) (F : List Nat) (wb nt : Nat) (wr : World) (m' : Bk) (f : Nat → Value) : Prop :=
  ∃ F', Rr wr B m' F' ∧ Same F w wr ∧ (∀ k ∈ F', k ∈ F ∨ w.heap.size ≤ k) ∧ wb ∉ F' ∧ Tab wr wb 4 (nt + 1) f ∧ w.heap.size ≤ wb

theorem Rr.lt {w : World} (h : Rr w B m F) : ∀ k ∈ F, k < w.heap.size := by obtain ⟨_, _, _, _, _, h⟩ := h; exact h.lt

theorem Wk.hands {wb nt : Nat} {wr w1 : World} {m2 : Bk} {f : Nat → Value} {F' : List Nat} (h2 : Same F w wr) (h3 : ∀ k ∈ F', k ∈ F ∨ w.heap.size ≤ k) (h4 : wb ∉ F') (h5 : Tab wr wb 4 (nt + 1) f) (h6 : w.heap.size ≤ wb)
    (hd : DidR B F' wr w1 m2) : Wk w B F wb nt w1 m2 f := by
  obtain ⟨F2, g1, g2, g3⟩ := hd
  have hsz := h2.size
  refine ⟨F2, g1, h2.trans' g2 h3, fun k hk => ?_, fun hm => ?_, h5.frame g2 h4, h6⟩
  · rcases g3 k hk with h | h
    · exact h3 k h
    · exact .inr (by omega)
  · rcases g3 wb hm with h | h
    · exact h4 h
    · have := h5.lt; omega

theorem Wk.mark {wb nt : Nat} {wr : World} {m1 : Bk} {f : Nat → Value} (h : Wk w B F wb nt wr m1 f) (i : Nat) (v : Value) :
    Wk w B F wb nt (wr.setCell ⟨wb, i, none⟩ v) m1 (fun j => if j = i then v else f j) := by
  obtain ⟨F', h1, h2, h3, h4, h5, h6⟩ := h
  have hs : Same [wb] wr (wr.setCell ⟨wb, i, none⟩ v) := (Same.refl _ _).setCell (by simp) v
  exact ⟨F', h1.frame hs (fun k hk hm => h4 (by rw [← List.mem_singleton.1 hm]; exact hk)), h2.setCell (.inr h6) v, h3, h4, h5.set i v, h6⟩

theorem Wk.quiet {wb nt : Nat} {wr w1 : World} {m1 : Bk} {f : Nat → Value} {G : List Nat} (h : Wk w B F wb nt wr m1 f) (hs : Same G wr w1) (hG : ∀ k ∈ G, w.heap.size ≤ k ∧ k ≠ wb) (hGF : ∀ F' : List Nat, Rr wr B m1 F' → wb ∉ F' → ∀ k ∈ F', k ∉ G) : Wk w B F wb nt w1 m1 f := by
  obtain ⟨F', h1, h2, h3, h4, h5, h6⟩ := h
  exact ⟨F', h1.frame hs (hGF F' h1 h4), h2.trans' hs (fun k hk => .inr (hG k hk).1), h3, h4, h5.frame hs (fun hm => (hG wb hm).2 rfl), h6⟩

/-- Who goes, of the first k threads. -/
def goers (q : Bk × List Int) (n : Int) (k : Nat) : List Int :=
  (((List.range k).map (fun (i : Nat) => (i : Int) + 1)).filter (fun t => q.2.contains t || (q.1.th t).fin == n))
theorem goers_succ (q : Bk × List Int) (n : Int) (k : Nat) : goers q n (k + 1) = goers q n k ++ if (q.2.contains ((k : Int) + 1) || (q.1.th ((k : Int) + 1)).fin == n) then [(k : Int) + 1] else [] := by
  simp only [goers, List.range_succ, List.map_append, List.filter_append, List.map_cons, List.map_nil, List.filter_cons, List.filter_nil]
theorem goers_len (q : Bk × List Int) (n : Int) (k : Nat) : (goers q n k).length ≤ k := by
  have := List.length_filter_le (fun t => q.2.contains t || (q.1.th t).fin == n) ((List.range k).map (fun (i : Nat) => (i : Int) + 1))
  simpa [goers] using this

/-- The book, the table of who goes, and the list of those who go, that lies apart. -/
def Wo (w : World) (B : Nat) (F : List Nat) (wb nt : Nat) (wr : World) (m' : Bk) (f : Nat → Value) (out : Value) (l : List Int) : Prop :=
  ∃ F', Rr wr B m' F' ∧ Same F w wr ∧ (∀ k ∈ F', k ∈ F ∨ w.heap.size ≤ k) ∧ wb ∉ F' ∧ Tab wr wb 4 (nt + 1) f ∧ w.heap.size ≤ wb ∧ Row wr 3 1 out l.length (l.flatMap (nE .i64)) ∧ ∀ x ∈ blk out, w.heap.size ≤ x ∧ x ∉ F'

theorem Wo.mark {wb nt : Nat} {wr : World} {m1 : Bk} {f : Nat → Value} {out : Value} {l : List Int} (h : Wo w B F wb nt wr m1 f out l) (i : Nat) (v : Value) :
    Wo w B F wb nt (wr.setCell ⟨wb, i, none⟩ v) m1 (fun j => if j = i then v else f j) out l := by
  obtain ⟨F', h1, h2, h3, h4, h5, h6, h7, h8⟩ := h
  have hs : Same [wb] wr (wr.setCell ⟨wb, i, none⟩ v) := (Same.refl _ _).setCell (by simp) v
  exact ⟨F', h1.frame hs (fun k hk hm => h4 (by rw [← List.mem_singleton.1 hm]; exact hk)), h2.setCell (.inr h6) v, h3, h4, h5.set i v, h6,
    h7.frame hs (fun k hk hm => h7.ne_blk h5 (by decide) k hk (List.mem_singleton.1 hm)), h8⟩

theorem Wo.free {wb nt : Nat} {wr : World} {m2 : Bk} {f : Nat → Value} {out : Value} {l : List Int} {F' : List Nat} (h2 : Same F w wr) (h3 : ∀ k ∈ F', k ∈ F ∨ w.heap.size ≤ k) (h4 : wb ∉ F') (h5 : Tab wr wb 4 (nt + 1) f) (h6 : w.heap.size ≤ wb)
    (h7 : Row wr 3 1 out l.length (l.flatMap (nE .i64))) (h8 : ∀ x ∈ blk out, w.heap.size ≤ x ∧ x ∉ F') (g o : Nat) (v : Value) (hg : g ∈ F') (h1 : Rr (wr.setCell ⟨g, o, none⟩ v) B m2 F') :
    Wo w B F wb nt (wr.setCell ⟨g, o, none⟩ v) m2 f out l := by
  have hs : Same [g] wr (wr.setCell ⟨g, o, none⟩ v) := (Same.refl _ _).setCell (by simp) v
  refine ⟨F', h1, h2.setCell ?_ v, h3, h4, h5.frame hs (fun hm => h4 (by rw [List.mem_singleton.1 hm]; exact hg)), h6, h7.frame hs (fun k hk hm => (h8 k hk).2 (by rw [List.mem_singleton.1 hm]; exact hg)), h8⟩
  exact h3 g hg

theorem Wo.app {wb nt : Nat} {wr w1 : World} {m1 : Bk} {f : Nat → Value} {out v' : Value} {l : List Int} {x : Int} (h : Wo w B F wb nt wr m1 f out l)
    (hr : Row w1 3 1 v' (l.length + 1) (l.flatMap (nE .i64) ++ [.int .i64 x])) (hs : Same (blk out) (wr.alloc (.cells #[.int .i64 x] 3)) w1) (hb : ∀ k ∈ blk v', k ∈ blk out ∨ wr.heap.size + 1 ≤ k) :
    Wo w B F wb nt w1 m1 f v' (l ++ [x]) := by
  obtain ⟨F', h1, h2, h3, h4, h5, h6, h7, h8⟩ := h
  have hs1 : Same (blk out) wr w1 := ((Same.refl _ _).alloc _).trans hs
  have hsz := h2.size
  refine ⟨F', h1.frame hs1 (fun k hk hm => (h8 k hm).2 hk), h2.trans' hs1 (fun k hk => .inr (h8 k hk).1), h3, h4, h5.frame hs1 (fun hm => h7.ne_blk h5 (by decide) _ hm rfl), h6, by simpa [nE] using hr, fun k hk => ?_⟩
  rcases hb k hk with h9 | h9
  · exact h8 k h9
  · exact ⟨by omega, fun hm => by have := h1.lt k hm; omega⟩

theorem setT_self (m : Bk) (n : Int) : m.setT n (m.th n) = m := by
  simp only [Bk.setT, Bk.th]; rw [set_getD]

set_option maxHeartbeats 3200000 in
set_option maxRecDepth 100000 in
theorem r_end_zero (n x e : Int) (h : Rr w B m F) (ok : Ok m) (hn : m.is n = true) (hg : (m.th n).goes = true) (he0 : e = 0) :
    Calls Tryd.prog 37 #[.pointer (some ⟨B, 0, none⟩), .int .i64 n, .int .u64 x, .int .i64 e] w fun en w' =>
      ∃ v, en = .returned (.tuple #[v, .int .i64 0]) ∧ DidR B F w w' (endM m n x e) ∧ Row w' 3 1 v (endOut m n x e).length ((endOut m n x e).flatMap (nE .i64)) ∧ ∀ k ∈ blk v, w.heap.size ≤ k := by
  have hnt := ok.nt
  have hnl := ok.nl
  have hi := r_is n h ok.nt
  rw [hn] at hi
  have HI := Lib.hid hi
  have hgo := r_goes n h ok.nt hn
  rw [hg] at hgo
  have HG := Lib.hid hgo
  have HMID : Hid (∀ k, k ≤ m.lks.length → Mid (ended m n x e) n k (handAll (ended m n x e) n k)) := Lib.hid (fun k hk => mid_all (m := ended m n x e) (by rw [ended, is_setT]; exact hn) (mid_start ok x e hn hg) k (by simpa [ended, Bk.setT] using hk))
  have hgi := (goes_iff _).1 hg
  obtain ⟨gs, tv, lv, gv, rvs, h⟩ := h
  obtain ⟨gt, ot, ct, rfl⟩ := h.tlit hn
  obtain ⟨htlt, htF, hBt, t0, ⟨fr, t1, g0, hfr⟩, t2, t3, t4, tf, tput, tone⟩ := h.thr n hn
  obtain ⟨x', hx'⟩ : ∃ x', x' = if e = 0 then x else 0 := ⟨_, rfl⟩
  have hb0 := h.b0
  obtain ⟨la, lc, rfl⟩ := h.lform
  have hb1 := h.b1
  have hB := h.book.lt
  have g1 : DidR B F w (((w.setCell ⟨gt, ot + (n.toNat - 1) * 5 + 2, none⟩ (.bool true)).setCell ⟨gt, ot + (n.toNat - 1) * 5 + 3, none⟩ (.int .u64 x')).setCell ⟨gt, ot + (n.toNat - 1) * 5 + 4, none⟩ (.int .i64 e)) (ended m n x e) := by
    obtain ⟨gs1, q1⟩ := tone 2 (.bool true) { m.th n with en := true } id (by omega) (fun g0 => rfl)
    obtain ⟨gs2, q2⟩ := (q1.thr n (by rw [is_setT]; exact hn)).2.2.2.2.2.2.2.2.2.2 3 (.int .u64 x') { m.th n with en := true, w := x' } id (by omega) (fun g0 => by rw [th_setT _ _ _ hn]; rfl)
    rw [setT_setT] at q2
    obtain ⟨gs3, q3⟩ := (q2.thr n (by rw [is_setT]; exact hn)).2.2.2.2.2.2.2.2.2.2 4 (.int .i64 e) { m.th n with en := true, w := x', e := e } id (by omega) (fun g0 => by rw [th_setT _ _ _ hn]; rfl)
    rw [setT_setT] at q3
    have e1 : ended m n x e = m.setT n { m.th n with en := true, w := x', e := e } := by rw [hx']; rfl
    rw [e1]
    exact ⟨F, ⟨_, _, _, _, _, q3⟩, (((Same.refl _ _).setCell (.inl htF) _).setCell (.inl htF) _).setCell (.inl htF) _, fun k hk => .inl hk⟩
  have G1 := Lib.hid g1
  have HFS : Hid (∀ k ∈ F, k < w.heap.size) := Lib.hid h.lt
  have hm1 : (ended m n x e).ths.length = m.ths.length := by simp [ended, Bk.setT]
  have hl1 : (ended m n x e).lks.length = m.lks.length := by simp [ended, Bk.setT]
  have HM1 := Lib.hid hm1
  have HL1 := Lib.hid hl1
  have hx2 : e = 0 ∧ x' = x := ⟨he0, by rw [hx', if_pos he0]⟩
  have hq := (is_iff m n).1 hn
  obtain ⟨hn1, hn2⟩ := hq
  obtain ⟨qE, hqE⟩ : ∃ q, q = endB m n x e := ⟨_, rfl⟩
  obtain ⟨mE, hmE⟩ : ∃ q, q = endM m n x e := ⟨_, rfl⟩
  obtain ⟨oE, hoE⟩ : ∃ q, q = endOut m n x e := ⟨_, rfl⟩
  have HEO : Hid (oE = goers qE n m.ths.length) := Lib.hid (by rw [hoE, hqE]; rfl)
  have HEM : Hid (mE = freeTo qE.1 n m.ths.length) := Lib.hid (by
    have : (endB m n x e).1.ths.length = m.ths.length := (handAll_inv _ n _).1.trans hm1
    rw [hmE, hqE, ← this, freeTo_all]; rfl)
  rw [← hmE, ← hoE]
  have HQE : Hid (qE = handAll (ended m n x e) n m.lks.length) := Lib.hid (by rw [hqE]; rfl)
  clear hmE hoE hqE
  clear he0 h ok hn hg hi hgo hgi g1 tput tone hm1 hl1 hx' hfr
  generalize ended m n x e = m1 at *
  obtain ⟨nt, hnt'⟩ : ∃ nt, nt = m.ths.length := ⟨_, rfl⟩
  obtain ⟨nl, hnl'⟩ : ∃ nl, nl = m.lks.length := ⟨_, rfl⟩
  have HNT := Lib.hid hnt'
  have HNL := Lib.hid hnl'
  rw [← hnt'] at hnt hb0 hn2
  rw [← hnl'] at hnl hb1
  clear hnt' hnl'
  go_enter Tryd.func37, Tryd.ntmps37
  go_wp2_with fail
  refine HI.out.mono ?_
  rintro en w1 ⟨rfl, rfl⟩
  go_wp2_with fail
  refine HG.out.mono ?_
  rintro en w1 ⟨rfl, rfl⟩
  obtain ⟨he, rfl⟩ := hx2
  subst he
  go_wp2_with (first
    | (at_make; refine wpList_make_blk _ rfl (.tmp 46) (.tmp 46) 108 rfl 4 (.bool false) 1 1 Tryd.underlying108 info4 (nt + 1) rfl rfl ?m1 ?m2 ?K))
  case m1 => omega
  case m2 => unfold maxLen; omega
  case K =>
    intro w2 hb2 hs2
    rw [toList_madeCells_one] at hb2
    obtain ⟨wb, hwb⟩ : ∃ b, b = w.heap.size := ⟨_, rfl⟩
    have WK2 : Hid (Wk w B F wb nt w2 m1 (fun _ => .bool false)) := by
      obtain ⟨F', q1, q2, q3⟩ := G1.out
      refine Lib.hid ⟨F', q1.frame hs2 (by simp), q2.trans' hs2 (by simp), q3, fun hm => ?_, by rw [hwb]; exact Tab.of_fill hb2, by rw [hwb]; exact Nat.le_refl _⟩
      have := q1.lt wb hm
      simp at this
      omega
    have HWB : Hid (w.heap.size ≤ wb) := by rw [hwb]; exact Nat.le_refl _
    rw [← hwb]
    clear hb2 hs2 t0 t1 t2 t3 t4 hb0 hb1 hwb G1 tf
    go_wp2
    go_loopw [13] (fun c wr => ∃ (k : Nat) (f : Nat → Value), k ≤ nl ∧ c = .int .i64 k ∧ Wk w B F wb nt wr (handAll m1 n k).1 f ∧ ∀ j : Nat, 1 ≤ j → j ≤ nt → f j = .bool ((handAll m1 n k).2.contains (j : Int))) (fun c _ => nl - (intOf c).toNat)
    case atStart => exact ⟨0, _, Nat.zero_le _, rfl, WK2.out, fun j _ _ => rfl⟩
    case round =>
      obtain ⟨k, f, hk, rfl, hwk, hf⟩ := hrel
      have hmid := HMID.out k (by rw [← HNL.out]; exact hk)
      have hsuc : handAll m1 n (k + 1) = (if ((handAll m1 n k).1.lo k).ho = n then (hand (handAll m1 n k).1 k, if handTo (handAll m1 n k).1 k != 0 then (handAll m1 n k).2 ++ [handTo (handAll m1 n k).1 k] else (handAll m1 n k).2) else handAll m1 n k) := rfl
      by_cases hlt : k < nl
      · obtain ⟨q, hq⟩ : ∃ q, q = handAll m1 n k := ⟨_, rfl⟩
        rw [← hq] at hmid hsuc hwk hf
        have HSUC := Lib.hid hsuc
        clear hq hsuc
        have hok := hmid.ok
        have hqn := hmid.nt
        have hql := hmid.nl
        rw [HM1.out, ← HNT.out] at hqn
        rw [HL1.out, ← HNL.out] at hql
        have hl : q.1.isL (k : Int) = true := by rw [isL_iff, hql]; omega
        obtain ⟨F', h1, h2, h3, h4, h5, h6⟩ := hwk
        have HH := Lib.hid (r_hands (k : Int) h1 hok.nl hok.nt hl (hok.row8 hl) (hok.rowGood hl))
        have hto := hok.to hl
        rw [hqn] at hto
        have HWK : Hid (Wk w B F wb nt wr q.1 f) := Lib.hid ⟨F', h1, h2, h3, h4, h5, h6⟩
        have HSTEP : Hid (∀ w1 m2, DidR B F' wr w1 m2 → Wk w B F wb nt w1 m2 f) := Lib.hid (fun w1 m2 hd => Wk.hands h2 h3 h4 h5 h6 hd)
        obtain ⟨gs', tv', lv', gv', rvs', hr⟩ := h1
        obtain ⟨gl, ol, cl, rfl⟩ := hr.llit hl
        have c1 := hr.b1
        obtain ⟨hllt, -, -, -, -, l0, -⟩ := hr.lok (k : Int) hl
        rw [hql] at c1
        rw [Int.toNat_natCast] at l0
        have hbB : B < wr.heap.size := hr.book.lt
        have HF := Lib.hid hf
        have i1 : (k : Int) < (nl : Int) := by omega
        by_cases hho : (q.1.lo (k : Int)).ho = n
        · rw [hho] at l0
          have e1 : (n == n) = true := by simp
          have HSU : Hid (handAll m1 n (k + 1) = (hand q.1 k, if handTo q.1 k != 0 then q.2 ++ [handTo q.1 k] else q.2)) := Lib.hid (by rw [HSUC.out, if_pos hho])
          obtain ⟨to, hto'⟩ : ∃ to, to = handTo q.1 (k : Int) := ⟨_, rfl⟩
          rw [← hto'] at HH hto HSU
          obtain ⟨to1, to2⟩ := hto
          clear hmid hf hok h2 h3 h4 h5 h6 hr HSUC hho hto' hqn hql hl
          go_wp2_with fail
          refine HH.out.mono ?_
          rintro en w3 ⟨rfl, hd⟩
          have hw3 := HSTEP.out w3 _ hd
          have HW3 := Lib.hid hw3
          obtain ⟨-, -, -, -, -, tb, -⟩ := hw3
          have x0 := tb.cell to.toNat (by omega)
          have x1 := tb.froz to.toNat
          clear tb hd c1 l0 hllt hbB
          have i2 : to < (nt : Int) + 1 := by omega
          go_wp2
          go_roundw
          case rel =>
            refine ⟨k + 1, (fun j => if j = to.toNat then .bool true else f j), by omega, by go_num, ?_, fun j hj1 hj2 => ?_⟩
            · rw [HSU.out]; exact HW3.out.mark _ _
            · rw [HSU.out]
              dsimp only
              by_cases c : j = to.toNat
              · rw [if_pos c]
                have : (to != 0) = true := by simp; omega
                rw [this]
                have : (j : Int) = to := by omega
                simp [this]
              · rw [if_neg c, HF.out j hj1 hj2]
                have : (j : Int) ≠ to := by omega
                split <;> simp [this]
          case measure => simp [intOf]; omega
        · have e1 : ((q.1.lo (k : Int)).ho == n) = false := by simpa using hho
          have HSU : Hid (handAll m1 n (k + 1) = q) := Lib.hid (by rw [HSUC.out, if_neg hho])
          clear hmid hf hok h2 h3 h4 h5 h6 hr HSUC hho hqn hql hl
          go_wp2
          go_roundw
          case rel => exact ⟨k + 1, f, by omega, by go_num, by rw [HSU.out]; exact HWK.out, by rw [HSU.out]; exact HF.out⟩
          case measure => simp [intOf]; omega
      · have hkn : k = nl := by omega
        subst hkn
        have hqe : handAll m1 n k = qE := by rw [HQE.out, HNL.out]
        rw [hqe] at hwk hf hmid
        have hok := hmid.ok
        have hqn := hmid.nt
        rw [HM1.out, ← HNT.out] at hqn
        have HQN := Lib.hid hqn
        have HLK : Hid (∀ j, j < nt → (qE.1.th ((j : Int) + 1)).lk = 0 ∨ (qE.1.th ((j : Int) + 1)).fin = 0) := Lib.hid (fun j hj => by
          rcases hok.lk ((j : Int) + 1) (by rw [is_iff, hqn]; omega) with h | ⟨_, _, h, _⟩
          · exact .inl h
          · exact .inr h)
        have WO0 : Hid (Wo w B F wb nt wr (freeTo qE.1 n 0) f (.slice none 0 0) (goers qE n 0)) := Lib.hid (by
          obtain ⟨F', h1, h2, h3, h4, h5, h6⟩ := hwk
          rw [freeTo_zero]
          exact ⟨F', h1, h2, h3, h4, h5, h6, Row.nil _ _ _, by simp [blk]⟩)
        have HF := Lib.hid hf
        have hend : ¬ (k : Int) < (k : Int) := by omega
        obtain ⟨F0, h1, -, -, -, -, -⟩ := hwk
        obtain ⟨gs0, tv0, lv0, gv0, rvs0, hr0⟩ := h1
        obtain ⟨la0, lc0, rfl⟩ := hr0.lform
        have c1 := hr0.b1
        have e9 : qE.1.lks.length = k := by rw [hmid.nl, HL1.out, ← HNL.out]
        rw [e9] at c1
        clear hok hqn hf hmid hsuc hqe hr0 e9 hlt hk
        obtain ⟨wx, hwx⟩ : ∃ wx, wx = wr := ⟨_, rfl⟩
        subst hwx
        go_wp2
        clear c1
        go_loopw [15, 16] (fun out c wr => ∃ (j : Nat) (f : Nat → Value), j ≤ nt ∧ c = .int .i64 ((j : Int) + 1) ∧ Wo w B F wb nt wr (freeTo qE.1 n j) f out (goers qE n j) ∧ ∀ i : Nat, j < i → i ≤ nt → f i = .bool (qE.2.contains (i : Int))) (fun _ c _ => nt + 1 - (intOf c).toNat)
        case atStart => exact ⟨0, f, Nat.zero_le _, by simp, WO0.out, fun i h1 h2 => HF.out i (by omega) h2⟩
        case round =>
          obtain ⟨j, f2, hj, rfl, hwo, hf2⟩ := hrel
          obtain ⟨F', h1, h2, h3, h4, h5, h6, h7, h8⟩ := hwo
          obtain ⟨gs', tv', lv', gv', rvs', hr⟩ := h1
          have hfl : (freeTo qE.1 n j).ths.length = nt := by rw [freeTo_len, HQN.out]
          have hgl := goers_len qE n j
          obtain ⟨oa, oc, rfl, -, -, -⟩ := h7.form
          by_cases hjn : j < nt
          · have hjn' : (j : Int) + 1 ≤ (nt : Int) := by omega
            have his : (freeTo qE.1 n j).is ((j : Int) + 1) = true := by rw [is_iff, hfl]; omega
            obtain ⟨gt', ot', ct', rfl⟩ := hr.tlit his
            have c0 := hr.b0
            rw [hfl] at c0
            obtain ⟨y1, y2, y3, y4, ⟨fr', y5, g0', y6⟩, -, -, -, y7, -, y8⟩ := hr.thr ((j : Int) + 1) his
            have hth : (freeTo qE.1 n j).th ((j : Int) + 1) = qE.1.th ((j : Int) + 1) := by
              rw [freeTo_th _ _ _ (by rw [HQN.out]; exact hjn)]
              have e : ((j : Int) + 1).toNat - 1 = j := by omega
              simp only [Bk.th, e]
            have hsu := freeTo_succ qE.1 n j (by rw [HQN.out]; exact hjn)
            have hgd : qE.1.ths.getD j t0 = qE.1.th ((j : Int) + 1) := by
              have e : ((j : Int) + 1).toNat - 1 = j := by omega
              simp only [Bk.th, e]
            rw [hgd] at hsu
            rw [hth] at y4 y6 y8
            have hgs := goers_succ qE n j
            have e7 : ((j : Int) + 1).toNat - 1 = j := by omega
            rw [e7] at y4 y5 y8
            have hlk := HLK.out j hjn
            have hfj : f2 (j + 1) = .bool (qE.2.contains ((j : Int) + 1)) := by
              have := hf2 (j + 1) (by omega) (by omega)
              simpa using this
            have HB2 : B < wr.heap.size := hr.book.lt
            obtain ⟨T, hT⟩ : ∃ T, T = qE.1.th ((j : Int) + 1) := ⟨_, rfl⟩
            rw [← hT] at y4 y6 y8 hth hsu hgs hlk
            have HSU := Lib.hid hsu
            have HGS := Lib.hid hgs
            have HF2 := Lib.hid hf2
            have x0 := h5.cell (j + 1) (by omega)
            rw [hfj] at x0
            have x1 := h5.froz (j + 1)
            have hwl := h5.lt
            have hgw : ¬ gt' = wb := fun e => h4 (e ▸ y2)
            have e5 : ((j : Int) + 1).toNat = j + 1 := by omega
            by_cases hfin : T.fin = n
            · have hl0 : T.lk = 0 := by
                rcases hlk with h | h
                · exact h
                · omega
              have ew : wtOf T = 1 := by
                have : ¬ T.fin = 0 := by omega
                simp [wtOf, hl0, this]
              have ef : fr' = n := by
                have : ¬ T.fin = 0 := by omega
                rw [y6]; unfold frOf; rw [if_pos hl0, if_neg this, hfin]
              rw [ew] at y4
              rw [ef] at y5
              have hP : (qE.2.contains ((j : Int) + 1) || (T.fin == n)) = true := by simp [hfin]
              have HFR : Hid (Wo w B F wb nt (wr.setCell ⟨gt', ot' + j * 5, none⟩ (.int .i64 0)) (freeTo qE.1 n (j + 1)) f2 (.slice oa (goers qE n j).length oc) (goers qE n j)) := by
                obtain ⟨gs2, q2⟩ := y8 0 (.int .i64 0) { T with fin := 0 } (fun _ => n) (by omega) (fun g0 => by
                  have h0 : ¬ T.fin = 0 := by omega
                  simp [rE, wtOf, frOf, hl0, hfin]
                  omega)
                have e : freeT n T = { T with fin := 0 } := by unfold freeT; rw [if_pos hfin]
                rw [← e, ← HSU.out] at q2
                exact Lib.hid (Wo.free h2 h3 h4 h5 h6 h7 h8 gt' (ot' + j * 5) (.int .i64 0) y2 ⟨_, _, _, _, _, q2⟩)
              have HMK := Lib.hid (HFR.out.mark (j + 1) (.bool true))
              rw [hP] at HGS
              clear h2 h3 h4 h5 h6 h7 h8 hr hf2 y6 y8 hfin hl0 ew ef hP hlk hth hsu hgs hgd hfj hfl e7 HFR hT
              go_wp2_with (at_builtin; refine wpList_append_row _ rfl (.tmp 112) (.tmp 114) 29 rfl 3 (.int .i64 0) 1 8 Tryd.underlying29 info3 rfl (by decide) (.slice oa (goers qE n j).length oc) (goers qE n j).length ((goers qE n j).flatMap (nE .i64)) rfl ?a1 ⟨wr.heap.size, 0, none⟩ 1 1 [.int .i64 ((j : Int) + 1)] rfl rfl ?a2 ?a3 ?a4 ?a5 ?a6)
              case a1 => obtain ⟨_, _, _, _, _, _, _, hr7, _⟩ := HMK.out; exact hr7.alloc _
              case a3 => first | rfl | (intro u hu; simp at hu; subst hu; rfl)
              case a4 => unfold maxLen; omega
              case a5 => omega
              case a6 =>
                intro v' w5 hrow' hsm hbk
                have hwo := HMK.out.app (x := (j : Int) + 1) (by simpa using hrow') hsm (fun k hk => by
                  rcases hbk k hk with h | h
                  · exact .inl h
                  · right; simpa using h)
                have HW5 : Hid (Wo w B F wb nt w5 (freeTo qE.1 n (j + 1)) (fun i => if i = j + 1 then .bool true else f2 i) v' (goers qE n (j + 1))) := Lib.hid (by rw [HGS.out]; exact hwo)
                obtain ⟨a5, c5, rfl, -, -, -⟩ := hrow'.form
                clear hrow' hsm hbk hwo
                go_wp2
                go_roundw
                case rel => exact ⟨j + 1, _, by omega, by go_num, HW5.out, fun i h1 h2 => by
                  first
                    | exact HF2.out i (by omega) h2
                    | (have h3 : i ≠ j + 1 := by omega
                       show (if i = j + 1 then _ else f2 i) = _
                       rw [if_neg h3]; exact HF2.out i (by omega) h2)⟩
                case measure => simp [intOf]; omega
            · have hfr : freeTo qE.1 n (j + 1) = freeTo qE.1 n j := by
                rw [HSU.out]
                have e : freeT n T = T := by unfold freeT; rw [if_neg hfin]
                rw [e, ← hth]; exact setT_self _ _
              have HWJ : Hid (Wo w B F wb nt wr (freeTo qE.1 n (j + 1)) f2 (.slice oa (goers qE n j).length oc) (goers qE n j)) := Lib.hid (by
                rw [hfr]; exact ⟨F', ⟨_, _, _, _, _, hr⟩, h2, h3, h4, h5, h6, h7, h8⟩)
              have hP : (qE.2.contains ((j : Int) + 1) || (T.fin == n)) = qE.2.contains ((j : Int) + 1) := by
                have : (T.fin == n) = false := by simpa using hfin
                rw [this, Bool.or_false]
              rw [hP] at HGS
              have hwt : (wtOf T == 1) = true ∧ (fr' == n) = false ∨ (wtOf T == 1) = false := by
                unfold wtOf
                by_cases q1 : T.lk = 0
                · by_cases q2 : T.fin = 0
                  · right; simp [q1, q2]
                  · left
                    refine ⟨by simp [q1, q2], ?_⟩
                    rw [y6]; unfold frOf; rw [if_pos q1, if_neg q2]; simpa using hfin
                · right; simp [q1]
              clear h2 h3 h4 h5 h6 h7 h8 hr hf2 y6 y8 hfin hP hlk hth hsu hgs hgd hfj hfl e7 hT hfr
              generalize wtOf T = wt at *
              generalize qE.2.contains ((j : Int) + 1) = cj at *
              cases cj with
              | true =>
                rcases hwt with ⟨e1, e2⟩ | e1
                · go_wp2_with (at_builtin; refine wpList_append_row _ rfl (.tmp 112) (.tmp 114) 29 rfl 3 (.int .i64 0) 1 8 Tryd.underlying29 info3 rfl (by decide) (.slice oa (goers qE n j).length oc) (goers qE n j).length ((goers qE n j).flatMap (nE .i64)) rfl ?b1 ⟨wr.heap.size, 0, none⟩ 1 1 [.int .i64 ((j : Int) + 1)] rfl rfl ?b2 ?b3 ?b4 ?b5 ?b6)
                  case b1 => obtain ⟨_, _, _, _, _, _, _, hr7, _⟩ := HWJ.out; exact hr7.alloc _
                  case b3 => first | rfl | (intro u hu; simp at hu; subst hu; rfl)
                  case b4 => unfold maxLen; omega
                  case b5 => omega
                  case b6 =>
                    intro v' w5 hrow' hsm hbk
                    have hwo := HWJ.out.app (x := (j : Int) + 1) (by simpa using hrow') hsm (fun k hk => by
                      rcases hbk k hk with h | h
                      · exact .inl h
                      · right; simpa using h)
                    have HW5 : Hid (Wo w B F wb nt w5 (freeTo qE.1 n (j + 1)) (f2) v' (goers qE n (j + 1))) := Lib.hid (by rw [HGS.out]; exact hwo)
                    obtain ⟨a5, c5, rfl, -, -, -⟩ := hrow'.form
                    clear hrow' hsm hbk hwo
                    go_wp2
                    go_roundw
                    case rel => exact ⟨j + 1, _, by omega, by go_num, HW5.out, fun i h1 h2 => by
                      first
                        | exact HF2.out i (by omega) h2
                        | (have h3 : i ≠ j + 1 := by omega
                           show (if i = j + 1 then _ else f2 i) = _
                           rw [if_neg h3]; exact HF2.out i (by omega) h2)⟩
                    case measure => simp [intOf]; omega
                · go_wp2_with (at_builtin; refine wpList_append_row _ rfl (.tmp 112) (.tmp 114) 29 rfl 3 (.int .i64 0) 1 8 Tryd.underlying29 info3 rfl (by decide) (.slice oa (goers qE n j).length oc) (goers qE n j).length ((goers qE n j).flatMap (nE .i64)) rfl ?d1 ⟨wr.heap.size, 0, none⟩ 1 1 [.int .i64 ((j : Int) + 1)] rfl rfl ?d2 ?d3 ?d4 ?d5 ?d6)
                  case d1 => obtain ⟨_, _, _, _, _, _, _, hr7, _⟩ := HWJ.out; exact hr7.alloc _
                  case d3 => first | rfl | (intro u hu; simp at hu; subst hu; rfl)
                  case d4 => unfold maxLen; omega
                  case d5 => omega
                  case d6 =>
                    intro v' w5 hrow' hsm hbk
                    have hwo := HWJ.out.app (x := (j : Int) + 1) (by simpa using hrow') hsm (fun k hk => by
                      rcases hbk k hk with h | h
                      · exact .inl h
                      · right; simpa using h)
                    have HW5 : Hid (Wo w B F wb nt w5 (freeTo qE.1 n (j + 1)) (f2) v' (goers qE n (j + 1))) := Lib.hid (by rw [HGS.out]; exact hwo)
                    obtain ⟨a5, c5, rfl, -, -, -⟩ := hrow'.form
                    clear hrow' hsm hbk hwo
                    go_wp2
                    go_roundw
                    case rel => exact ⟨j + 1, _, by omega, by go_num, HW5.out, fun i h1 h2 => by
                      first
                        | exact HF2.out i (by omega) h2
                        | (have h3 : i ≠ j + 1 := by omega
                           show (if i = j + 1 then _ else f2 i) = _
                           rw [if_neg h3]; exact HF2.out i (by omega) h2)⟩
                    case measure => simp [intOf]; omega
              | false =>
                have HGJ : Hid (goers qE n (j + 1) = goers qE n j) := Lib.hid (by rw [HGS.out]; simp)
                rcases hwt with ⟨e1, e2⟩ | e1
                all_goals
                  go_wp2
                  go_roundw
                  case rel => exact ⟨j + 1, f2, by omega, by go_num, by rw [HGJ.out]; exact HWJ.out, fun i h1 h2 => HF2.out i (by omega) h2⟩
                  case measure => simp [intOf]; omega
          · have hjn' : (nt : Int) < (j : Int) + 1 := by omega
            have hjj : j = nt := by omega
            obtain ⟨ta', tc', rfl⟩ := hr.tform
            have c0 := hr.b0
            rw [hfl] at c0
            have HDN : Hid (DidR B F w wr mE ∧ Row wr 3 1 (.slice oa (goers qE n j).length oc) oE.length (oE.flatMap (nE .i64)) ∧ ∀ k ∈ blk (.slice oa (goers qE n j).length oc), w.heap.size ≤ k) := Lib.hid (by
              have e1 : goers qE n j = oE := by rw [HEO.out, hjj, HNT.out]
              have e2 : freeTo qE.1 n j = mE := by rw [HEM.out, hjj, HNT.out]
              rw [e1] at h7
              rw [e2] at hr
              exact ⟨⟨F', ⟨_, _, _, _, _, hr⟩, h2, h3⟩, by rw [e1]; exact h7, fun k hk => (h8 k hk).1⟩)
            clear h2 h3 h4 h5 h6 h7 h8 hr hf2 hjn hjj hfl
            go_wp2
            go_ret2
            exact ⟨_, rfl, HDN.out⟩

set_option maxHeartbeats 3200000 in
set_option maxRecDepth 100000 in
theorem r_end_err (n x e : Int) (h : Rr w B m F) (ok : Ok m) (hn : m.is n = true) (hg : (m.th n).goes = true) (he0 : ¬ e = 0) :
    Calls Tryd.prog 37 #[.pointer (some ⟨B, 0, none⟩), .int .i64 n, .int .u64 x, .int .i64 e] w fun en w' =>
      ∃ v, en = .returned (.tuple #[v, .int .i64 0]) ∧ DidR B F w w' (endM m n x e) ∧ Row w' 3 1 v (endOut m n x e).length ((endOut m n x e).flatMap (nE .i64)) ∧ ∀ k ∈ blk v, w.heap.size ≤ k := by
  have hnt := ok.nt
  have hnl := ok.nl
  have hi := r_is n h ok.nt
  rw [hn] at hi
  have HI := Lib.hid hi
  have hgo := r_goes n h ok.nt hn
  rw [hg] at hgo
  have HG := Lib.hid hgo
  have HMID : Hid (∀ k, k ≤ m.lks.length → Mid (ended m n x e) n k (handAll (ended m n x e) n k)) := Lib.hid (fun k hk => mid_all (m := ended m n x e) (by rw [ended, is_setT]; exact hn) (mid_start ok x e hn hg) k (by simpa [ended, Bk.setT] using hk))
  have hgi := (goes_iff _).1 hg
  obtain ⟨gs, tv, lv, gv, rvs, h⟩ := h
  obtain ⟨gt, ot, ct, rfl⟩ := h.tlit hn
  obtain ⟨htlt, htF, hBt, t0, ⟨fr, t1, g0, hfr⟩, t2, t3, t4, tf, tput, tone⟩ := h.thr n hn
  obtain ⟨x', hx'⟩ : ∃ x', x' = if e = 0 then x else 0 := ⟨_, rfl⟩
  have hb0 := h.b0
  obtain ⟨la, lc, rfl⟩ := h.lform
  have hb1 := h.b1
  have hB := h.book.lt
  have g1 : DidR B F w (((w.setCell ⟨gt, ot + (n.toNat - 1) * 5 + 2, none⟩ (.bool true)).setCell ⟨gt, ot + (n.toNat - 1) * 5 + 3, none⟩ (.int .u64 x')).setCell ⟨gt, ot + (n.toNat - 1) * 5 + 4, none⟩ (.int .i64 e)) (ended m n x e) := by
    obtain ⟨gs1, q1⟩ := tone 2 (.bool true) { m.th n with en := true } id (by omega) (fun g0 => rfl)
    obtain ⟨gs2, q2⟩ := (q1.thr n (by rw [is_setT]; exact hn)).2.2.2.2.2.2.2.2.2.2 3 (.int .u64 x') { m.th n with en := true, w := x' } id (by omega) (fun g0 => by rw [th_setT _ _ _ hn]; rfl)
    rw [setT_setT] at q2
    obtain ⟨gs3, q3⟩ := (q2.thr n (by rw [is_setT]; exact hn)).2.2.2.2.2.2.2.2.2.2 4 (.int .i64 e) { m.th n with en := true, w := x', e := e } id (by omega) (fun g0 => by rw [th_setT _ _ _ hn]; rfl)
    rw [setT_setT] at q3
    have e1 : ended m n x e = m.setT n { m.th n with en := true, w := x', e := e } := by rw [hx']; rfl
    rw [e1]
    exact ⟨F, ⟨_, _, _, _, _, q3⟩, (((Same.refl _ _).setCell (.inl htF) _).setCell (.inl htF) _).setCell (.inl htF) _, fun k hk => .inl hk⟩
  have G1 := Lib.hid g1
  have HFS : Hid (∀ k ∈ F, k < w.heap.size) := Lib.hid h.lt
  have hm1 : (ended m n x e).ths.length = m.ths.length := by simp [ended, Bk.setT]
  have hl1 : (ended m n x e).lks.length = m.lks.length := by simp [ended, Bk.setT]
  have HM1 := Lib.hid hm1
  have HL1 := Lib.hid hl1
  have hx2 : (e != 0) = true ∧ x' = 0 := ⟨by simpa using he0, by rw [hx', if_neg he0]⟩
  have hq := (is_iff m n).1 hn
  obtain ⟨hn1, hn2⟩ := hq
  obtain ⟨qE, hqE⟩ : ∃ q, q = endB m n x e := ⟨_, rfl⟩
  obtain ⟨mE, hmE⟩ : ∃ q, q = endM m n x e := ⟨_, rfl⟩
  obtain ⟨oE, hoE⟩ : ∃ q, q = endOut m n x e := ⟨_, rfl⟩
  have HEO : Hid (oE = goers qE n m.ths.length) := Lib.hid (by rw [hoE, hqE]; rfl)
  have HEM : Hid (mE = freeTo qE.1 n m.ths.length) := Lib.hid (by
    have : (endB m n x e).1.ths.length = m.ths.length := (handAll_inv _ n _).1.trans hm1
    rw [hmE, hqE, ← this, freeTo_all]; rfl)
  rw [← hmE, ← hoE]
  have HQE : Hid (qE = handAll (ended m n x e) n m.lks.length) := Lib.hid (by rw [hqE]; rfl)
  clear hmE hoE hqE
  clear he0 h ok hn hg hi hgo hgi g1 tput tone hm1 hl1 hx' hfr
  generalize ended m n x e = m1 at *
  obtain ⟨nt, hnt'⟩ : ∃ nt, nt = m.ths.length := ⟨_, rfl⟩
  obtain ⟨nl, hnl'⟩ : ∃ nl, nl = m.lks.length := ⟨_, rfl⟩
  have HNT := Lib.hid hnt'
  have HNL := Lib.hid hnl'
  rw [← hnt'] at hnt hb0 hn2
  rw [← hnl'] at hnl hb1
  clear hnt' hnl'
  go_enter Tryd.func37, Tryd.ntmps37
  go_wp2_with fail
  refine HI.out.mono ?_
  rintro en w1 ⟨rfl, rfl⟩
  go_wp2_with fail
  refine HG.out.mono ?_
  rintro en w1 ⟨rfl, rfl⟩
  obtain ⟨he, rfl⟩ := hx2
  go_wp2_with (first
    | (at_make; refine wpList_make_blk _ rfl (.tmp 46) (.tmp 46) 108 rfl 4 (.bool false) 1 1 Tryd.underlying108 info4 (nt + 1) rfl rfl ?m1 ?m2 ?K))
  case m1 => omega
  case m2 => unfold maxLen; omega
  case K =>
    intro w2 hb2 hs2
    rw [toList_madeCells_one] at hb2
    obtain ⟨wb, hwb⟩ : ∃ b, b = w.heap.size := ⟨_, rfl⟩
    have WK2 : Hid (Wk w B F wb nt w2 m1 (fun _ => .bool false)) := by
      obtain ⟨F', q1, q2, q3⟩ := G1.out
      refine Lib.hid ⟨F', q1.frame hs2 (by simp), q2.trans' hs2 (by simp), q3, fun hm => ?_, by rw [hwb]; exact Tab.of_fill hb2, by rw [hwb]; exact Nat.le_refl _⟩
      have := q1.lt wb hm
      simp at this
      omega
    have HWB : Hid (w.heap.size ≤ wb) := by rw [hwb]; exact Nat.le_refl _
    rw [← hwb]
    clear hb2 hs2 t0 t1 t2 t3 t4 hb0 hb1 hwb G1 tf
    go_wp2
    go_loopw [13] (fun c wr => ∃ (k : Nat) (f : Nat → Value), k ≤ nl ∧ c = .int .i64 k ∧ Wk w B F wb nt wr (handAll m1 n k).1 f ∧ ∀ j : Nat, 1 ≤ j → j ≤ nt → f j = .bool ((handAll m1 n k).2.contains (j : Int))) (fun c _ => nl - (intOf c).toNat)
    case atStart => exact ⟨0, _, Nat.zero_le _, rfl, WK2.out, fun j _ _ => rfl⟩
    case round =>
      obtain ⟨k, f, hk, rfl, hwk, hf⟩ := hrel
      have hmid := HMID.out k (by rw [← HNL.out]; exact hk)
      have hsuc : handAll m1 n (k + 1) = (if ((handAll m1 n k).1.lo k).ho = n then (hand (handAll m1 n k).1 k, if handTo (handAll m1 n k).1 k != 0 then (handAll m1 n k).2 ++ [handTo (handAll m1 n k).1 k] else (handAll m1 n k).2) else handAll m1 n k) := rfl
      by_cases hlt : k < nl
      · obtain ⟨q, hq⟩ : ∃ q, q = handAll m1 n k := ⟨_, rfl⟩
        rw [← hq] at hmid hsuc hwk hf
        have HSUC := Lib.hid hsuc
        clear hq hsuc
        have hok := hmid.ok
        have hqn := hmid.nt
        have hql := hmid.nl
        rw [HM1.out, ← HNT.out] at hqn
        rw [HL1.out, ← HNL.out] at hql
        have hl : q.1.isL (k : Int) = true := by rw [isL_iff, hql]; omega
        obtain ⟨F', h1, h2, h3, h4, h5, h6⟩ := hwk
        have HH := Lib.hid (r_hands (k : Int) h1 hok.nl hok.nt hl (hok.row8 hl) (hok.rowGood hl))
        have hto := hok.to hl
        rw [hqn] at hto
        have HWK : Hid (Wk w B F wb nt wr q.1 f) := Lib.hid ⟨F', h1, h2, h3, h4, h5, h6⟩
        have HSTEP : Hid (∀ w1 m2, DidR B F' wr w1 m2 → Wk w B F wb nt w1 m2 f) := Lib.hid (fun w1 m2 hd => Wk.hands h2 h3 h4 h5 h6 hd)
        obtain ⟨gs', tv', lv', gv', rvs', hr⟩ := h1
        obtain ⟨gl, ol, cl, rfl⟩ := hr.llit hl
        have c1 := hr.b1
        obtain ⟨hllt, -, -, -, -, l0, -⟩ := hr.lok (k : Int) hl
        rw [hql] at c1
        rw [Int.toNat_natCast] at l0
        have hbB : B < wr.heap.size := hr.book.lt
        have HF := Lib.hid hf
        have i1 : (k : Int) < (nl : Int) := by omega
        by_cases hho : (q.1.lo (k : Int)).ho = n
        · rw [hho] at l0
          have e1 : (n == n) = true := by simp
          have HSU : Hid (handAll m1 n (k + 1) = (hand q.1 k, if handTo q.1 k != 0 then q.2 ++ [handTo q.1 k] else q.2)) := Lib.hid (by rw [HSUC.out, if_pos hho])
          obtain ⟨to, hto'⟩ : ∃ to, to = handTo q.1 (k : Int) := ⟨_, rfl⟩
          rw [← hto'] at HH hto HSU
          obtain ⟨to1, to2⟩ := hto
          clear hmid hf hok h2 h3 h4 h5 h6 hr HSUC hho hto' hqn hql hl
          go_wp2_with fail
          refine HH.out.mono ?_
          rintro en w3 ⟨rfl, hd⟩
          have hw3 := HSTEP.out w3 _ hd
          have HW3 := Lib.hid hw3
          obtain ⟨-, -, -, -, -, tb, -⟩ := hw3
          have x0 := tb.cell to.toNat (by omega)
          have x1 := tb.froz to.toNat
          clear tb hd c1 l0 hllt hbB
          have i2 : to < (nt : Int) + 1 := by omega
          go_wp2
          go_roundw
          case rel =>
            refine ⟨k + 1, (fun j => if j = to.toNat then .bool true else f j), by omega, by go_num, ?_, fun j hj1 hj2 => ?_⟩
            · rw [HSU.out]; exact HW3.out.mark _ _
            · rw [HSU.out]
              dsimp only
              by_cases c : j = to.toNat
              · rw [if_pos c]
                have : (to != 0) = true := by simp; omega
                rw [this]
                have : (j : Int) = to := by omega
                simp [this]
              · rw [if_neg c, HF.out j hj1 hj2]
                have : (j : Int) ≠ to := by omega
                split <;> simp [this]
          case measure => simp [intOf]; omega
        · have e1 : ((q.1.lo (k : Int)).ho == n) = false := by simpa using hho
          have HSU : Hid (handAll m1 n (k + 1) = q) := Lib.hid (by rw [HSUC.out, if_neg hho])
          clear hmid hf hok h2 h3 h4 h5 h6 hr HSUC hho hqn hql hl
          go_wp2
          go_roundw
          case rel => exact ⟨k + 1, f, by omega, by go_num, by rw [HSU.out]; exact HWK.out, by rw [HSU.out]; exact HF.out⟩
          case measure => simp [intOf]; omega
      · have hkn : k = nl := by omega
        subst hkn
        have hqe : handAll m1 n k = qE := by rw [HQE.out, HNL.out]
        rw [hqe] at hwk hf hmid
        have hok := hmid.ok
        have hqn := hmid.nt
        rw [HM1.out, ← HNT.out] at hqn
        have HQN := Lib.hid hqn
        have HLK : Hid (∀ j, j < nt → (qE.1.th ((j : Int) + 1)).lk = 0 ∨ (qE.1.th ((j : Int) + 1)).fin = 0) := Lib.hid (fun j hj => by
          rcases hok.lk ((j : Int) + 1) (by rw [is_iff, hqn]; omega) with h | ⟨_, _, h, _⟩
          · exact .inl h
          · exact .inr h)
        have WO0 : Hid (Wo w B F wb nt wr (freeTo qE.1 n 0) f (.slice none 0 0) (goers qE n 0)) := Lib.hid (by
          obtain ⟨F', h1, h2, h3, h4, h5, h6⟩ := hwk
          rw [freeTo_zero]
          exact ⟨F', h1, h2, h3, h4, h5, h6, Row.nil _ _ _, by simp [blk]⟩)
        have HF := Lib.hid hf
        have hend : ¬ (k : Int) < (k : Int) := by omega
        obtain ⟨F0, h1, -, -, -, -, -⟩ := hwk
        obtain ⟨gs0, tv0, lv0, gv0, rvs0, hr0⟩ := h1
        obtain ⟨la0, lc0, rfl⟩ := hr0.lform
        have c1 := hr0.b1
        have e9 : qE.1.lks.length = k := by rw [hmid.nl, HL1.out, ← HNL.out]
        rw [e9] at c1
        clear hok hqn hf hmid hsuc hqe hr0 e9 hlt hk
        obtain ⟨wx, hwx⟩ : ∃ wx, wx = wr := ⟨_, rfl⟩
        subst hwx
        go_wp2
        clear c1
        go_loopw [15, 16] (fun out c wr => ∃ (j : Nat) (f : Nat → Value), j ≤ nt ∧ c = .int .i64 ((j : Int) + 1) ∧ Wo w B F wb nt wr (freeTo qE.1 n j) f out (goers qE n j) ∧ ∀ i : Nat, j < i → i ≤ nt → f i = .bool (qE.2.contains (i : Int))) (fun _ c _ => nt + 1 - (intOf c).toNat)
        case atStart => exact ⟨0, f, Nat.zero_le _, by simp, WO0.out, fun i h1 h2 => HF.out i (by omega) h2⟩
        case round =>
          obtain ⟨j, f2, hj, rfl, hwo, hf2⟩ := hrel
          obtain ⟨F', h1, h2, h3, h4, h5, h6, h7, h8⟩ := hwo
          obtain ⟨gs', tv', lv', gv', rvs', hr⟩ := h1
          have hfl : (freeTo qE.1 n j).ths.length = nt := by rw [freeTo_len, HQN.out]
          have hgl := goers_len qE n j
          obtain ⟨oa, oc, rfl, -, -, -⟩ := h7.form
          by_cases hjn : j < nt
          · have hjn' : (j : Int) + 1 ≤ (nt : Int) := by omega
            have his : (freeTo qE.1 n j).is ((j : Int) + 1) = true := by rw [is_iff, hfl]; omega
            obtain ⟨gt', ot', ct', rfl⟩ := hr.tlit his
            have c0 := hr.b0
            rw [hfl] at c0
            obtain ⟨y1, y2, y3, y4, ⟨fr', y5, g0', y6⟩, -, -, -, y7, -, y8⟩ := hr.thr ((j : Int) + 1) his
            have hth : (freeTo qE.1 n j).th ((j : Int) + 1) = qE.1.th ((j : Int) + 1) := by
              rw [freeTo_th _ _ _ (by rw [HQN.out]; exact hjn)]
              have e : ((j : Int) + 1).toNat - 1 = j := by omega
              simp only [Bk.th, e]
            have hsu := freeTo_succ qE.1 n j (by rw [HQN.out]; exact hjn)
            have hgd : qE.1.ths.getD j t0 = qE.1.th ((j : Int) + 1) := by
              have e : ((j : Int) + 1).toNat - 1 = j := by omega
              simp only [Bk.th, e]
            rw [hgd] at hsu
            rw [hth] at y4 y6 y8
            have hgs := goers_succ qE n j
            have e7 : ((j : Int) + 1).toNat - 1 = j := by omega
            rw [e7] at y4 y5 y8
            have hlk := HLK.out j hjn
            have hfj : f2 (j + 1) = .bool (qE.2.contains ((j : Int) + 1)) := by
              have := hf2 (j + 1) (by omega) (by omega)
              simpa using this
            have HB2 : B < wr.heap.size := hr.book.lt
            obtain ⟨T, hT⟩ : ∃ T, T = qE.1.th ((j : Int) + 1) := ⟨_, rfl⟩
            rw [← hT] at y4 y6 y8 hth hsu hgs hlk
            have HSU := Lib.hid hsu
            have HGS := Lib.hid hgs
            have HF2 := Lib.hid hf2
            have x0 := h5.cell (j + 1) (by omega)
            rw [hfj] at x0
            have x1 := h5.froz (j + 1)
            have hwl := h5.lt
            have hgw : ¬ gt' = wb := fun e => h4 (e ▸ y2)
            have e5 : ((j : Int) + 1).toNat = j + 1 := by omega
            by_cases hfin : T.fin = n
            · have hl0 : T.lk = 0 := by
                rcases hlk with h | h
                · exact h
                · omega
              have ew : wtOf T = 1 := by
                have : ¬ T.fin = 0 := by omega
                simp [wtOf, hl0, this]
              have ef : fr' = n := by
                have : ¬ T.fin = 0 := by omega
                rw [y6]; unfold frOf; rw [if_pos hl0, if_neg this, hfin]
              rw [ew] at y4
              rw [ef] at y5
              have hP : (qE.2.contains ((j : Int) + 1) || (T.fin == n)) = true := by simp [hfin]
              have HFR : Hid (Wo w B F wb nt (wr.setCell ⟨gt', ot' + j * 5, none⟩ (.int .i64 0)) (freeTo qE.1 n (j + 1)) f2 (.slice oa (goers qE n j).length oc) (goers qE n j)) := by
                obtain ⟨gs2, q2⟩ := y8 0 (.int .i64 0) { T with fin := 0 } (fun _ => n) (by omega) (fun g0 => by
                  have h0 : ¬ T.fin = 0 := by omega
                  simp [rE, wtOf, frOf, hl0, hfin]
                  omega)
                have e : freeT n T = { T with fin := 0 } := by unfold freeT; rw [if_pos hfin]
                rw [← e, ← HSU.out] at q2
                exact Lib.hid (Wo.free h2 h3 h4 h5 h6 h7 h8 gt' (ot' + j * 5) (.int .i64 0) y2 ⟨_, _, _, _, _, q2⟩)
              have HMK := Lib.hid (HFR.out.mark (j + 1) (.bool true))
              rw [hP] at HGS
              clear h2 h3 h4 h5 h6 h7 h8 hr hf2 y6 y8 hfin hl0 ew ef hP hlk hth hsu hgs hgd hfj hfl e7 HFR hT
              go_wp2_with (at_builtin; refine wpList_append_row _ rfl (.tmp 112) (.tmp 114) 29 rfl 3 (.int .i64 0) 1 8 Tryd.underlying29 info3 rfl (by decide) (.slice oa (goers qE n j).length oc) (goers qE n j).length ((goers qE n j).flatMap (nE .i64)) rfl ?a1 ⟨wr.heap.size, 0, none⟩ 1 1 [.int .i64 ((j : Int) + 1)] rfl rfl ?a2 ?a3 ?a4 ?a5 ?a6)
              case a1 => obtain ⟨_, _, _, _, _, _, _, hr7, _⟩ := HMK.out; exact hr7.alloc _
              case a3 => first | rfl | (intro u hu; simp at hu; subst hu; rfl)
              case a4 => unfold maxLen; omega
              case a5 => omega
              case a6 =>
                intro v' w5 hrow' hsm hbk
                have hwo := HMK.out.app (x := (j : Int) + 1) (by simpa using hrow') hsm (fun k hk => by
                  rcases hbk k hk with h | h
                  · exact .inl h
                  · right; simpa using h)
                have HW5 : Hid (Wo w B F wb nt w5 (freeTo qE.1 n (j + 1)) (fun i => if i = j + 1 then .bool true else f2 i) v' (goers qE n (j + 1))) := Lib.hid (by rw [HGS.out]; exact hwo)
                obtain ⟨a5, c5, rfl, -, -, -⟩ := hrow'.form
                clear hrow' hsm hbk hwo
                go_wp2
                go_roundw
                case rel => exact ⟨j + 1, _, by omega, by go_num, HW5.out, fun i h1 h2 => by
                  first
                    | exact HF2.out i (by omega) h2
                    | (have h3 : i ≠ j + 1 := by omega
                       show (if i = j + 1 then _ else f2 i) = _
                       rw [if_neg h3]; exact HF2.out i (by omega) h2)⟩
                case measure => simp [intOf]; omega
            · have hfr : freeTo qE.1 n (j + 1) = freeTo qE.1 n j := by
                rw [HSU.out]
                have e : freeT n T = T := by unfold freeT; rw [if_neg hfin]
                rw [e, ← hth]; exact setT_self _ _
              have HWJ : Hid (Wo w B F wb nt wr (freeTo qE.1 n (j + 1)) f2 (.slice oa (goers qE n j).length oc) (goers qE n j)) := Lib.hid (by
                rw [hfr]; exact ⟨F', ⟨_, _, _, _, _, hr⟩, h2, h3, h4, h5, h6, h7, h8⟩)
              have hP : (qE.2.contains ((j : Int) + 1) || (T.fin == n)) = qE.2.contains ((j : Int) + 1) := by
                have : (T.fin == n) = false := by simpa using hfin
                rw [this, Bool.or_false]
              rw [hP] at HGS
              have hwt : (wtOf T == 1) = true ∧ (fr' == n) = false ∨ (wtOf T == 1) = false := by
                unfold wtOf
                by_cases q1 : T.lk = 0
                · by_cases q2 : T.fin = 0
                  · right; simp [q1, q2]
                  · left
                    refine ⟨by simp [q1, q2], ?_⟩
                    rw [y6]; unfold frOf; rw [if_pos q1, if_neg q2]; simpa using hfin
                · right; simp [q1]
              clear h2 h3 h4 h5 h6 h7 h8 hr hf2 y6 y8 hfin hP hlk hth hsu hgs hgd hfj hfl e7 hT hfr
              generalize wtOf T = wt at *
              generalize qE.2.contains ((j : Int) + 1) = cj at *
              cases cj with
              | true =>
                rcases hwt with ⟨e1, e2⟩ | e1
                · go_wp2_with (at_builtin; refine wpList_append_row _ rfl (.tmp 112) (.tmp 114) 29 rfl 3 (.int .i64 0) 1 8 Tryd.underlying29 info3 rfl (by decide) (.slice oa (goers qE n j).length oc) (goers qE n j).length ((goers qE n j).flatMap (nE .i64)) rfl ?b1 ⟨wr.heap.size, 0, none⟩ 1 1 [.int .i64 ((j : Int) + 1)] rfl rfl ?b2 ?b3 ?b4 ?b5 ?b6)
                  case b1 => obtain ⟨_, _, _, _, _, _, _, hr7, _⟩ := HWJ.out; exact hr7.alloc _
                  case b3 => first | rfl | (intro u hu; simp at hu; subst hu; rfl)
                  case b4 => unfold maxLen; omega
                  case b5 => omega
                  case b6 =>
                    intro v' w5 hrow' hsm hbk
                    have hwo := HWJ.out.app (x := (j : Int) + 1) (by simpa using hrow') hsm (fun k hk => by
                      rcases hbk k hk with h | h
                      · exact .inl h
                      · right; simpa using h)
                    have HW5 : Hid (Wo w B F wb nt w5 (freeTo qE.1 n (j + 1)) (f2) v' (goers qE n (j + 1))) := Lib.hid (by rw [HGS.out]; exact hwo)
                    obtain ⟨a5, c5, rfl, -, -, -⟩ := hrow'.form
                    clear hrow' hsm hbk hwo
                    go_wp2
                    go_roundw
                    case rel => exact ⟨j + 1, _, by omega, by go_num, HW5.out, fun i h1 h2 => by
                      first
                        | exact HF2.out i (by omega) h2
                        | (have h3 : i ≠ j + 1 := by omega
                           show (if i = j + 1 then _ else f2 i) = _
                           rw [if_neg h3]; exact HF2.out i (by omega) h2)⟩
                    case measure => simp [intOf]; omega
                · go_wp2_with (at_builtin; refine wpList_append_row _ rfl (.tmp 112) (.tmp 114) 29 rfl 3 (.int .i64 0) 1 8 Tryd.underlying29 info3 rfl (by decide) (.slice oa (goers qE n j).length oc) (goers qE n j).length ((goers qE n j).flatMap (nE .i64)) rfl ?d1 ⟨wr.heap.size, 0, none⟩ 1 1 [.int .i64 ((j : Int) + 1)] rfl rfl ?d2 ?d3 ?d4 ?d5 ?d6)
                  case d1 => obtain ⟨_, _, _, _, _, _, _, hr7, _⟩ := HWJ.out; exact hr7.alloc _
                  case d3 => first | rfl | (intro u hu; simp at hu; subst hu; rfl)
                  case d4 => unfold maxLen; omega
                  case d5 => omega
                  case d6 =>
                    intro v' w5 hrow' hsm hbk
                    have hwo := HWJ.out.app (x := (j : Int) + 1) (by simpa using hrow') hsm (fun k hk => by
                      rcases hbk k hk with h | h
                      · exact .inl h
                      · right; simpa using h)
                    have HW5 : Hid (Wo w B F wb nt w5 (freeTo qE.1 n (j + 1)) (f2) v' (goers qE n (j + 1))) := Lib.hid (by rw [HGS.out]; exact hwo)
                    obtain ⟨a5, c5, rfl, -, -, -⟩ := hrow'.form
                    clear hrow' hsm hbk hwo
                    go_wp2
                    go_roundw
                    case rel => exact ⟨j + 1, _, by omega, by go_num, HW5.out, fun i h1 h2 => by
                      first
                        | exact HF2.out i (by omega) h2
                        | (have h3 : i ≠ j + 1 := by omega
                           show (if i = j + 1 then _ else f2 i) = _
                           rw [if_neg h3]; exact HF2.out i (by omega) h2)⟩
                    case measure => simp [intOf]; omega
              | false =>
                have HGJ : Hid (goers qE n (j + 1) = goers qE n j) := Lib.hid (by rw [HGS.out]; simp)
                rcases hwt with ⟨e1, e2⟩ | e1
                all_goals
                  go_wp2
                  go_roundw
                  case rel => exact ⟨j + 1, f2, by omega, by go_num, by rw [HGJ.out]; exact HWJ.out, fun i h1 h2 => HF2.out i (by omega) h2⟩
                  case measure => simp [intOf]; omega
          · have hjn' : (nt : Int) < (j : Int) + 1 := by omega
            have hjj : j = nt := by omega
            obtain ⟨ta', tc', rfl⟩ := hr.tform
            have c0 := hr.b0
            rw [hfl] at c0
            have HDN : Hid (DidR B F w wr mE ∧ Row wr 3 1 (.slice oa (goers qE n j).length oc) oE.length (oE.flatMap (nE .i64)) ∧ ∀ k ∈ blk (.slice oa (goers qE n j).length oc), w.heap.size ≤ k) := Lib.hid (by
              have e1 : goers qE n j = oE := by rw [HEO.out, hjj, HNT.out]
              have e2 : freeTo qE.1 n j = mE := by rw [HEM.out, hjj, HNT.out]
              rw [e1] at h7
              rw [e2] at hr
              exact ⟨⟨F', ⟨_, _, _, _, _, hr⟩, h2, h3⟩, by rw [e1]; exact h7, fun k hk => (h8 k hk).1⟩)
            clear h2 h3 h4 h5 h6 h7 h8 hr hf2 hjn hjj hfl
            go_wp2
            go_ret2
            exact ⟨_, rfl, HDN.out⟩

theorem r_endF (n x e : Int) (h : Rr w B m F) (ok : Ok m) (l : List Int) (b : Int) (m' : Bk) (he : endF m n x e = (l, b, m')) :
    Calls Tryd.prog 37 #[.pointer (some ⟨B, 0, none⟩), .int .i64 n, .int .u64 x, .int .i64 e] w fun en w' =>
      ∃ v, en = .returned (.tuple #[v, .int .i64 b]) ∧ DidR B F w w' m' ∧ Row w' 3 1 v l.length (l.flatMap (nE .i64)) ∧ ∀ k ∈ blk v, w.heap.size ≤ k := by
  unfold endF at he
  by_cases hn : m.is n = false
  · rw [if_pos hn] at he
    injection he with e1 e2
    injection e2 with e2 e3
    subst e1 e2 e3
    have := r_end_bad n x e h ok (.inl hn)
    rw [if_pos hn] at this
    refine this.mono ?_
    rintro en w1 ⟨rfl, rfl⟩
    exact ⟨_, rfl, DidR.stay h, Row.nil _ _ _, by simp [blk]⟩
  · rw [if_neg hn] at he
    have hn' : m.is n = true := by simpa using hn
    by_cases hg : (m.th n).goes = false
    · rw [if_pos hg] at he
      injection he with e1 e2
      injection e2 with e2 e3
      subst e1 e2 e3
      have := r_end_bad n x e h ok (.inr hg)
      rw [if_neg hn] at this
      refine this.mono ?_
      rintro en w1 ⟨rfl, rfl⟩
      exact ⟨_, rfl, DidR.stay h, Row.nil _ _ _, by simp [blk]⟩
    · rw [if_neg hg] at he
      have hg' : (m.th n).goes = true := by simpa using hg
      injection he with e1 e2
      injection e2 with e2 e3
      subst e1 e2 e3
      by_cases he0 : e = 0
      · exact r_end_zero n x e h ok hn' hg' he0
      · exact r_end_err n x e h ok hn' hg' he0
end Lk
end Go.Proofs.YtkfdoocmapjkbaaDoor
