/- Layer 19, package locks: Start, Lock, and what only looks. -/
import Derived.Test.YtkfdoocmapjkbaaDoorLkRep
import Derived.Maps.AppendAt
namespace Go.Proofs.YtkfdoocmapjkbaaDoor
open Go.RowKit Hp
namespace Lk
variable {w w' : World} {B : Nat} {m : Bk} {F : List Nat} {tv lv gv : Value} {rvs : List Value}

theorem info3 : (Tryd.prog.info? 3).map (fun i => (i.zero, i.size, i.bytes)) = some (some (.int .i64 0), 1, 8) := by kernel_rfl
theorem info98 : (Tryd.prog.info? 98).map (fun i => (i.zero, i.size, i.bytes)) = some (some (.agg #[.bool false, .int .u64 0, .int .i64 0, .int .i64 0, .int .i64 0]), 5, 40) := by kernel_rfl

/-- What a call does: the book stands as m', and nothing else that was there has changed. -/
def Did (B : Nat) (F : List Nat) (w w' : World) (m' : Bk) : Prop := ∃ F', Rep w' B m' F' ∧ Same F w w' ∧ ∀ k ∈ F', k ∈ F ∨ w.heap.size ≤ k

theorem Did.stay (h : Rep w B m F) : Did B F w w m := ⟨F, h, Same.refl _ _, fun _ hk => .inl hk⟩

theorem is_iff (m : Bk) (n : Int) : m.is n = true ↔ 1 ≤ n ∧ n ≤ m.ths.length := by simp [Bk.is]
theorem isL_iff (m : Bk) (n : Int) : m.isL n = true ↔ 0 ≤ n ∧ n < m.lks.length := by simp [Bk.isL]
theorem goes_iff (t : Th) : t.goes = true ↔ t.en = false ∧ t.fin = 0 ∧ t.lk = 0 := by cases h : t.en <;> simp [Th.goes, Th.waits, h]

set_option maxHeartbeats 400000 in
set_option maxRecDepth 100000 in
theorem threads_any (h : Rep w B m F) : Calls Tryd.prog 50 #[.pointer (some ⟨B, 0, none⟩)] w fun e w' => e = .returned (.int .i64 m.ths.length) ∧ w = w' := by
  obtain ⟨tv, lv, gv, rvs, h⟩ := h
  obtain ⟨a, c, rfl⟩ := h.tform
  have b0 := h.b0
  clear h
  go_enter Tryd.func50, Tryd.ntmps50
  go_wp2
  go_ret
  exact ⟨rfl, rfl⟩

set_option maxHeartbeats 400000 in
set_option maxRecDepth 100000 in
theorem holder_any (l : Int) (h : Rep w B m F) (hnl : m.lks.length ≤ 8) : Calls Tryd.prog 18 #[.pointer (some ⟨B, 0, none⟩), .int .i64 l] w fun e w' => e = .returned (.int .i64 (holderF m l)) ∧ w = w' := by
  obtain ⟨tv, lv, gv, rvs, h⟩ := h
  by_cases hl : m.isL l = true
  · have e : holderF m l = (m.lo l).ho := by simp [holderF, hl]
    rw [e]
    obtain ⟨g, o, c, rfl⟩ := h.llit hl
    have b1 := h.b1
    obtain ⟨_, _, _, _, _, l0, _⟩ := h.lok l hl
    rw [isL_iff] at hl
    obtain ⟨hl1, hl2⟩ := hl
    clear h e
    go_enter Tryd.func18, Tryd.ntmps18
    go_wp2
    go_ret
    exact ⟨rfl, rfl⟩
  · have e : holderF m l = 0 := by simp [holderF, hl]
    obtain ⟨a, c, rfl⟩ := h.lform
    have b1 := h.b1
    rw [e, isL_iff] at *
    clear h e
    rcases Int.lt_or_le l 0 with h0 | h0
    · go_enter Tryd.func18, Tryd.ntmps18
      go_wp2
      go_ret
      exact ⟨rfl, rfl⟩
    · have h1 : (m.lks.length : Int) ≤ l := by omega
      clear hl
      go_enter Tryd.func18, Tryd.ntmps18
      go_wp2
      go_ret
      exact ⟨rfl, rfl⟩

set_option maxHeartbeats 400000 in
set_option maxRecDepth 100000 in
theorem waits_any (n : Int) (h : Rep w B m F) (hnt : m.ths.length ≤ 8) : Calls Tryd.prog 12 #[.pointer (some ⟨B, 0, none⟩), .int .i64 n] w fun e w' => e = .returned (.bool (waitsF m n)) ∧ w = w' := by
  obtain ⟨tv, lv, gv, rvs, h⟩ := h
  by_cases hn : m.is n = true
  · have e : waitsF m n = (m.th n).waits := by simp [waitsF, hn]
    rw [e]
    obtain ⟨g, o, c, rfl⟩ := h.tlit hn
    have b0 := h.b0
    obtain ⟨_, _, _, t0, t1, t2, t3, t4, _⟩ := h.thr n hn
    rw [is_iff] at hn
    obtain ⟨hn1, hn2⟩ := hn
    clear h e
    unfold Th.waits
    by_cases hf : (m.th n).fin = 0
    · rw [hf] at t3 ⊢
      go_enter Tryd.func12, Tryd.ntmps12
      go_wp2
      go_ret
      exact ⟨rfl, rfl⟩
    · have hf' : ((m.th n).fin != 0) = true := by simpa using hf
      rw [hf']
      clear hf
      go_enter Tryd.func12, Tryd.ntmps12
      go_wp2
      go_ret
      exact ⟨rfl, rfl⟩
  · have e : waitsF m n = false := by simp [waitsF, hn]
    obtain ⟨a, c, rfl⟩ := h.tform
    have b0 := h.b0
    rw [e, is_iff] at *
    clear h e
    rcases Int.lt_or_le n 1 with h0 | h0
    · go_enter Tryd.func12, Tryd.ntmps12
      go_wp2
      go_ret
      exact ⟨rfl, rfl⟩
    · have h1 : (m.ths.length : Int) < n := by omega
      clear hn
      go_enter Tryd.func12, Tryd.ntmps12
      go_wp2
      go_ret
      exact ⟨rfl, rfl⟩

set_option maxHeartbeats 400000 in
set_option maxRecDepth 100000 in
theorem ended_any (n : Int) (h : Rep w B m F) (hnt : m.ths.length ≤ 8) : Calls Tryd.prog 11 #[.pointer (some ⟨B, 0, none⟩), .int .i64 n] w fun e w' =>
    e = .returned (.tuple (if m.is n then #[.agg #[.bool (m.th n).en, .int .u64 (m.th n).w, .int .i64 (m.th n).e], .int .i64 0] else #[.agg #[.bool false, .int .u64 0, .int .i64 0], .int .i64 190])) ∧ Same [] w w' := by
  obtain ⟨tv, lv, gv, rvs, h⟩ := h
  by_cases hn : m.is n = true
  · rw [if_pos hn]
    obtain ⟨g, o, c, rfl⟩ := h.tlit hn
    have b0 := h.b0
    obtain ⟨hgl, _, _, t0, t1, t2, t3, t4, _⟩ := h.thr n hn
    rw [is_iff] at hn
    obtain ⟨hn1, hn2⟩ := hn
    have hB := h.book.lt
    clear h
    go_enter Tryd.func11, Tryd.ntmps11
    go_wp2
    exact bodyPost_ret (v := .tuple #[.agg #[.bool (m.th n).en, .int .u64 (m.th n).w, .int .i64 (m.th n).e], .int .i64 0]) (by simp [results, Tryd.results11, go_sem]) rfl ⟨rfl, (by repeat (first | exact Same.refl _ _ | refine Same.setCell ?_ (.inr (by simp)) _ | refine Same.alloc ?_ _ | refine Same.drew ?_))⟩
  · rw [if_neg hn]
    obtain ⟨a, c, rfl⟩ := h.tform
    have b0 := h.b0
    rw [is_iff] at hn
    have hB := h.book.lt
    clear h
    rcases Int.lt_or_le n 1 with h0 | h0
    · go_enter Tryd.func11, Tryd.ntmps11
      go_wp2
      exact bodyPost_ret (v := .tuple #[.agg #[.bool false, .int .u64 0, .int .i64 0], .int .i64 190]) (by simp [results, Tryd.results11, go_sem]) rfl ⟨rfl, (by repeat (first | exact Same.refl _ _ | refine Same.setCell ?_ (.inr (by simp)) _ | refine Same.alloc ?_ _ | refine Same.drew ?_))⟩
    · have h1 : (m.ths.length : Int) < n := by omega
      clear hn
      go_enter Tryd.func11, Tryd.ntmps11
      go_wp2
      exact bodyPost_ret (v := .tuple #[.agg #[.bool false, .int .u64 0, .int .i64 0], .int .i64 190]) (by simp [results, Tryd.results11, go_sem]) rfl ⟨rfl, (by repeat (first | exact Same.refl _ _ | refine Same.setCell ?_ (.inr (by simp)) _ | refine Same.alloc ?_ _ | refine Same.drew ?_))⟩

theorem word_get (l : List Int) (i : Nat) (hi : i < l.length) (k : IntKind) : (l.flatMap (nE k))[i]? = some (.int k (l.getD i 0)) := by
  have := flat_get (nE k) 1 (nE_len k) l i 0 hi (by omega)
  simp only [Nat.mul_one, Nat.add_zero] at this
  rw [this]; simp [nE, List.getD, hi]

theorem word_set (l : List Int) (i : Nat) (hi : i < l.length) (k : IntKind) (x : Int) : (l.flatMap (nE k)).set i (.int k x) = (l.set i x).flatMap (nE k) := by
  have := flat_set (nE k) 1 (nE_len k) x 0 (.int k x) (by omega) l i hi (by simp [nE])
  simpa using this

set_option maxHeartbeats 400000 in
set_option maxRecDepth 100000 in
theorem global_any (i : Int) (h : Rep w B m F) (hng : m.gl.length ≤ 64) : Calls Tryd.prog 27 #[.pointer (some ⟨B, 0, none⟩), .int .i64 i] w fun e w' =>
    e = .returned (.tuple #[.int .u64 (globalF m i).1, .int .i64 (globalF m i).2]) ∧ w = w' := by
  obtain ⟨tv, lv, gv, rvs, h⟩ := h
  obtain ⟨a, c, rfl⟩ := h.gform
  have b2 := h.b2
  by_cases hi : 0 ≤ i ∧ i < m.gl.length
  · unfold globalF; rw [if_pos hi]
    obtain ⟨hi1, hi2⟩ := hi
    obtain ⟨g, o, c', he, _, _, hc, _⟩ := h.gl.at_ (by omega)
    injection he with he; subst he
    have hx := hc i.toNat (by omega)
    rw [word_get _ _ (by omega)] at hx
    clear hc h
    go_enter Tryd.func27, Tryd.ntmps27
    go_wp2
    go_ret2
    exact ⟨rfl, rfl⟩
  · unfold globalF; rw [if_neg hi]
    clear h
    rcases Int.lt_or_le i 0 with h0 | h0
    · clear hi
      go_enter Tryd.func27, Tryd.ntmps27
      go_wp2
      go_ret2
      exact ⟨rfl, rfl⟩
    · have h1 : (m.gl.length : Int) ≤ i := by omega
      clear hi
      go_enter Tryd.func27, Tryd.ntmps27
      go_wp2
      go_ret2
      exact ⟨rfl, rfl⟩

set_option maxHeartbeats 400000 in
set_option maxRecDepth 100000 in
theorem setGlobal_any (i x : Int) (h : Rep w B m F) (hng : m.gl.length ≤ 64) : Calls Tryd.prog 43 #[.pointer (some ⟨B, 0, none⟩), .int .i64 i, .int .u64 x] w fun e w' =>
    e = .returned (.tuple #[.int .u64 (setGlobalF m i x).1, .int .i64 (setGlobalF m i x).2.1]) ∧ Did B F w w' (setGlobalF m i x).2.2 := by
  have hg := global_any (w := w) i h hng
  have hst := Did.stay h
  obtain ⟨tv, lv, gv, rvs, h⟩ := h
  obtain ⟨a, c, rfl⟩ := h.gform
  have b2 := h.b2
  by_cases hi : 0 ≤ i ∧ i < m.gl.length
  · unfold setGlobalF; rw [if_pos hi]
    unfold globalF at hg; rw [if_pos hi] at hg
    obtain ⟨hi1, hi2⟩ := hi
    obtain ⟨g, o, c', he, _, hlt, hc, hfr⟩ := h.gl.at_ (by omega)
    injection he with he; subst he
    have hx := hc i.toNat (by omega)
    rw [word_get _ _ (by omega)] at hx
    have hdid : Did B F w (w.setCell ⟨g, o + i.toNat, none⟩ (.int .u64 x)) { m with gl := m.gl.set i.toNat x } := by
      refine ⟨F, ⟨tv, lv, .slice (some ⟨g, o, none⟩) m.gl.length c, rvs, ?_⟩, (Same.refl _ _).setCell (.inl (h.fG g (by simp [blk]))) _, fun _ hk => .inl hk⟩
      have hs : Same [g] w (w.setCell ⟨g, o + i.toNat, none⟩ (.int .u64 x)) := (Same.refl _ _).setCell (by simp) _
      have far : ∀ {e s n v' xs}, Row w e s v' n xs → 33 ≠ e → ∀ k ∈ blk v', k ∉ [g] := fun hr he k hk hm => by
        simp at hm; subst hm; exact h.gl.ne hr he _ (by simp [blk]) hk
      refine ⟨h.book.frame hs (fun hm => h.gl.ne_blk h.book (by decide) g (by simp [blk]) (List.mem_singleton.1 hm).symm), h.ths.frame hs (far h.ths (by decide)), h.lks.frame hs (far h.lks (by decide)), ?_, h.rv,
        fun i hi => (h.rows i hi).frame hs (far (h.rows i hi) (by decide)), h.apart, h.fB, h.fT, h.fL, h.fG, h.fR, by simpa using h.lt⟩
      have := h.gl.set i.toNat (by omega) (.int .u64 x)
      rw [word_set _ _ (by omega)] at this
      simpa using this
    have HD := Lib.hid hdid
    clear hc h hst hdid
    generalize m.gl.getD i.toNat 0 = y at *
    have HG := Lib.hid hg
    clear hg
    go_enter Tryd.func43, Tryd.ntmps43
    go_wp2_with (go_at_call 27; refine HG.out.mono ?_; rintro e w1 ⟨rfl, rfl⟩)
    go_ret2
    exact ⟨rfl, HD.out⟩
  · unfold setGlobalF; rw [if_neg hi]
    unfold globalF at hg; rw [if_neg hi] at hg
    have HS := Lib.hid hst
    have HG := Lib.hid hg
    clear h hst hg hi
    go_enter Tryd.func43, Tryd.ntmps43
    go_wp2_with (go_at_call 27; refine HG.out.mono ?_; rintro e w1 ⟨rfl, rfl⟩)
    go_ret2
    exact ⟨rfl, HS.out⟩

set_option maxHeartbeats 400000 in
set_option maxRecDepth 100000 in
theorem start_any (h : Rep w B m F) (hnt : m.ths.length ≤ 8) : Calls Tryd.prog 9 #[.pointer (some ⟨B, 0, none⟩)] w fun e w' =>
    e = .returned (.tuple #[.int .i64 (start m).1, .int .i64 (start m).2.1]) ∧ Did B F w w' (start m).2.2 := by
  have hst := Did.stay h
  obtain ⟨tv, lv, gv, rvs, h⟩ := h
  obtain ⟨a, c, rfl⟩ := h.tform
  have b0 := h.b0
  by_cases h8 : m.ths.length = 8
  · unfold start; rw [if_pos h8]
    rw [h8] at b0
    have HS := Lib.hid hst
    clear h hst h8
    go_enter Tryd.func9, Tryd.ntmps9
    go_wp2
    go_ret2
    exact ⟨rfl, HS.out⟩
  · unfold start; rw [if_neg h8]
    have h8' : ((m.ths.length : Int) == 8) = false := by simp; omega
    have hB := h.book.lt
    have fB : ∀ j, w.frozen? ⟨B, j, none⟩ = false := h.book.frozen
    have HH := Lib.hid h
    have hap : ∀ w1 v', Row w1 98 5 v' (m.ths.length + 1) ((m.ths ++ [t0]).flatMap thE) → Same (blk (.slice a m.ths.length c)) w w1 → (∀ k ∈ blk v', k ∈ blk (.slice a m.ths.length c) ∨ w.heap.size ≤ k) → Did B F w (w1.setCell ⟨B, 0, none⟩ v') { m with ths := m.ths ++ [t0] } := by
      intro w1 v' hr hs hb
      have hs2 : Same (B :: blk (.slice a m.ths.length c)) w (w1.setCell ⟨B, 0, none⟩ v') := (hs.mono (fun x hx => .inl (List.mem_cons_of_mem _ hx))).setCell (by simp) v'
      have far : ∀ {e s n v' xs}, Row w e s v' n xs → 98 ≠ e → 93 ≠ e → ∀ k ∈ blk v', k ∉ B :: blk (.slice a m.ths.length c) := fun hr he he' k hk hm => by
        rcases List.mem_cons.1 hm with hm | hm
        · exact hr.ne_blk h.book he'.symm k hk hm
        · exact h.ths.ne hr he k hm hk
      refine ⟨F ++ blk v', ⟨v', lv, gv, rvs, ?_⟩, hs2.mono (fun x hx => ?_), fun k hk => ?_⟩
      · refine ⟨?_, ?_, h.lks.frame hs2 (far h.lks (by decide) (by decide)), h.gl.frame hs2 (far h.gl (by decide) (by decide)), h.rv, fun i hi => (h.rows i hi).frame hs2 (far (h.rows i hi) (by decide) (by decide)), h.apart,
          by simp [h.fB], fun k hk => by simp [hk], fun k hk => by simp [h.fL k hk], fun k hk => by simp [h.fG k hk], fun i hi k hk => by simp [h.fR i hi k hk], fun k hk => ?_⟩
        · exact (h.book.frame hs (fun hm => h.ths.ne_blk h.book (by decide) B hm rfl)).set 0 v'
        · have : (m.ths ++ [t0]).length = m.ths.length + 1 := by simp
          simp only [this]
          exact hr.setOther (fun hm => by
            rcases hb B hm with h1 | h1
            · exact h.ths.ne_blk h.book (by decide) B h1 rfl
            · omega) v'
        · simp only [World.size_setCell]
          rcases List.mem_append.1 hk with hk | hk
          · exact Nat.lt_of_lt_of_le (h.lt k hk) hs.size
          · exact hr.lt k hk
      · rcases List.mem_cons.1 hx with rfl | hx
        · exact .inl h.fB
        · exact .inl (h.fT x hx)
      · rcases List.mem_append.1 hk with hk | hk
        · exact .inl hk
        · rcases hb k hk with h1 | h1
          · exact .inl (h.fT k h1)
          · exact .inr h1
    have HAP := Lib.hid hap
    clear hap hst h
    go_enter Tryd.func9, Tryd.ntmps9
    go_wp2_with (at_builtin; refine wpList_append_row _ rfl (.tmp 14) (.tmp 16) 90 rfl 98 (.agg #[.bool false, .int .u64 0, .int .i64 0, .int .i64 0, .int .i64 0]) 5 40 Tryd.underlying90 info98 rfl (by decide) (.slice a m.ths.length c) m.ths.length (m.ths.flatMap thE) rfl ?hrow1 ⟨w.heap.size, 0, none⟩ 1 1 (thE t0) rfl rfl ?c1 ?c2 ?b1 ?b2 ?K)
    case hrow1 => exact HH.out.ths.alloc _
    case c1 => intro j u hj; match j, hj with
      | 0, hj | 1, hj | 2, hj | 3, hj | 4, hj => simp [thE, t0] at hj; subst hj; simp [Addr.add]
    case c2 => intro u hu; simp [thE, t0] at hu; rcases hu with rfl | rfl | rfl <;> rfl
    case b1 => unfold maxLen; omega
    case b2 => omega
    case K =>
      intro v' w1 hrow hs hb
      have hs1 := ((Same.refl (blk (.slice a m.ths.length c)) w).alloc _).trans hs
      have hb1 : ∀ k ∈ blk v', k ∈ blk (.slice a m.ths.length c) ∨ w.heap.size ≤ k := fun k hk => by
        rcases hb k hk with h1 | h1
        · exact .inl h1
        · right; have : (w.alloc (.cells #[] 3)).heap.size = w.heap.size + 1 := by simp
          omega
      have hd := HAP.out w1 v' (by simpa using hrow) hs1 hb1
      obtain ⟨a', c', rfl, _, _, _⟩ := hrow.form
      have k0 := (hs1.cell (b := B) (o := 0) hB (fun hm => HH.out.ths.ne_blk HH.out.book (by decide) B hm rfl)).trans b0
      have f0 : w1.frozen? ⟨B, 0, none⟩ = false := (hs1.frozen hB (fun hm => HH.out.ths.ne_blk HH.out.book (by decide) B hm rfl)).trans (fB 0)
      have hB1 : B < w1.heap.size := Nat.lt_of_lt_of_le hB hs1.size
      have HD := Lib.hid hd
      clear hs hb hs1 hb1 hd hrow
      go_wp2
      go_ret2
      exact ⟨by simp, HD.out⟩
end Lk
end Go.Proofs.YtkfdoocmapjkbaaDoor
