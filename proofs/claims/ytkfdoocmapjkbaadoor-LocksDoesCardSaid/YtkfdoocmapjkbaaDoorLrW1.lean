/- Layer 19, the document's answer (dappleref19): is, goes, Start, and what only looks. -/
import Derived.Test.YtkfdoocmapjkbaaDoorLrRep
import Derived.Maps.AppendAt
namespace Go.Proofs.YtkfdoocmapjkbaaDoor
open Go.RowKit Hp
namespace Lk
variable {w w' : World} {B : Nat} {m : Bk} {gs : List Int} {F : List Nat} {tv lv gv : Value} {rvs : List Value}

theorem info138 : (Tryd.prog.info? 138).map (fun i => (i.zero, i.size, i.bytes)) = some (some (.agg #[.int .i64 0, .int .i64 0, .bool false, .int .u64 0, .int .i64 0]), 5, 40) := by kernel_rfl

def DidR (B : Nat) (F : List Nat) (w w' : World) (m' : Bk) : Prop := ∃ F', Rr w' B m' F' ∧ Same F w w' ∧ ∀ k ∈ F', k ∈ F ∨ w.heap.size ≤ k
theorem DidR.stay (h : Rr w B m F) : DidR B F w w m := ⟨F, h, Same.refl _ _, fun _ hk => .inl hk⟩
theorem DidR.drew {w w1 : World} {m' : Bk} (h : DidR B F w w1 m') : DidR B F w w1.drew m' := by
  obtain ⟨F', ⟨gs', tv', lv', gv', rv', hr1⟩, hr2, hr3⟩ := h
  exact ⟨F', ⟨gs', tv', lv', gv', rv', hr1.drew⟩, hr2.drew, hr3⟩

theorem wt_iff (ok : Ok m) (n : Int) : wtOf (m.th n) = 0 ↔ (m.th n).waits = false := by
  unfold wtOf Th.waits
  by_cases h : (m.th n).lk = 0
  · by_cases h2 : (m.th n).fin = 0 <;> simp [h, h2]
  · simp [h]

set_option maxHeartbeats 400000 in
set_option maxRecDepth 100000 in
theorem r_is (n : Int) (h : Rr w B m F) (hnt : m.ths.length ≤ 8) : Calls Tryd.prog 73 #[.pointer (some ⟨B, 0, none⟩), .int .i64 n] w fun e w' => e = .returned (.bool (m.is n)) ∧ w = w' := by
  obtain ⟨gs, tv, lv, gv, rvs, h⟩ := h
  obtain ⟨a, c, rfl⟩ := h.tform
  have b0 := h.b0
  by_cases hn : m.is n = true
  · rw [hn]
    rw [is_iff] at hn
    obtain ⟨hn1, hn2⟩ := hn
    clear h
    go_enter Tryd.func73, Tryd.ntmps73
    go_wp2
    go_ret
    exact ⟨rfl, rfl⟩
  · have hn' : m.is n = false := by simpa using hn
    rw [hn']
    rw [is_iff] at hn
    clear h hn'
    rcases Int.lt_or_le n 1 with h0 | h0
    · clear hn
      go_enter Tryd.func73, Tryd.ntmps73
      go_wp2
      go_ret
      exact ⟨rfl, rfl⟩
    · have h1 : (m.ths.length : Int) < n := by omega
      have h2 : decide (n ≤ (m.ths.length : Int)) = false := by simp; omega
      clear hn
      go_enter Tryd.func73, Tryd.ntmps73
      go_wp2
      go_ret
      exact ⟨by simp [h2], rfl⟩

set_option maxHeartbeats 400000 in
set_option maxRecDepth 100000 in
theorem r_goes (n : Int) (h : Rr w B m F) (hnt : m.ths.length ≤ 8) (hn : m.is n = true) : Calls Tryd.prog 74 #[.pointer (some ⟨B, 0, none⟩), .int .i64 n] w fun e w' => e = .returned (.bool (m.th n).goes) ∧ w = w' := by
  obtain ⟨gs, tv, lv, gv, rvs, h⟩ := h
  obtain ⟨g, o, c, rfl⟩ := h.tlit hn
  have b0 := h.b0
  obtain ⟨_, _, _, t0, -, t2, _⟩ := h.thr n hn
  rw [is_iff] at hn
  obtain ⟨hn1, hn2⟩ := hn
  clear h
  unfold Th.goes
  have hw : (wtOf (m.th n) == 0) = !(m.th n).waits := by
    unfold wtOf Th.waits
    by_cases h : (m.th n).lk = 0
    · by_cases h2 : (m.th n).fin = 0 <;> simp [h, h2]
    · simp [h]
  generalize wtOf (m.th n) = wt at *
  generalize (m.th n).waits = wa at *
  generalize (m.th n).en = en at *
  cases en with
  | true =>
    clear hw
    go_enter Tryd.func74, Tryd.ntmps74
    go_wp2
    go_ret
    exact ⟨rfl, rfl⟩
  | false =>
    cases wa with
    | true =>
      have hw' : (wt == 0) = false := hw
      clear hw
      go_enter Tryd.func74, Tryd.ntmps74
      go_wp2
      go_ret
      exact ⟨rfl, rfl⟩
    | false =>
      have hw' : (wt == 0) = true := hw
      clear hw
      go_enter Tryd.func74, Tryd.ntmps74
      go_wp2
      go_ret
      exact ⟨rfl, rfl⟩

set_option maxHeartbeats 400000 in
set_option maxRecDepth 100000 in
theorem r_holder (l : Int) (h : Rr w B m F) (hnl : m.lks.length ≤ 8) : Calls Tryd.prog 48 #[.pointer (some ⟨B, 0, none⟩), .int .i64 l] w fun e w' => e = .returned (.int .i64 (holderF m l)) ∧ w = w' := by
  obtain ⟨gs, tv, lv, gv, rvs, h⟩ := h
  by_cases hl : m.isL l = true
  · have e : holderF m l = (m.lo l).ho := by simp [holderF, hl]
    rw [e]
    obtain ⟨g, o, c, rfl⟩ := h.llit hl
    have b1 := h.b1
    obtain ⟨_, _, _, _, _, l0, _⟩ := h.lok l hl
    rw [isL_iff] at hl
    obtain ⟨hl1, hl2⟩ := hl
    clear h e
    go_enter Tryd.func48, Tryd.ntmps48
    go_wp2
    go_ret
    exact ⟨rfl, rfl⟩
  · have e : holderF m l = 0 := by simp [holderF, hl]
    obtain ⟨a, c, rfl⟩ := h.lform
    have b1 := h.b1
    rw [e, isL_iff] at *
    clear h e
    rcases Int.lt_or_le l 0 with h0 | h0
    · go_enter Tryd.func48, Tryd.ntmps48
      go_wp2
      go_ret
      exact ⟨rfl, rfl⟩
    · have h1 : (m.lks.length : Int) ≤ l := by omega
      clear hl
      go_enter Tryd.func48, Tryd.ntmps48
      go_wp2
      go_ret
      exact ⟨rfl, rfl⟩

set_option maxHeartbeats 400000 in
set_option maxRecDepth 100000 in
theorem r_waits (n : Int) (h : Rr w B m F) (hnt : m.ths.length ≤ 8) : Calls Tryd.prog 47 #[.pointer (some ⟨B, 0, none⟩), .int .i64 n] w fun e w' => e = .returned (.bool (waitsF m n)) ∧ w = w' := by
  have HI := Lib.hid (r_is n h hnt)
  obtain ⟨gs, tv, lv, gv, rvs, h⟩ := h
  by_cases hn : m.is n = true
  · have e : waitsF m n = (m.th n).waits := by simp [waitsF, hn]
    rw [e]
    rw [hn] at HI
    obtain ⟨g, o, c, rfl⟩ := h.tlit hn
    have b0 := h.b0
    obtain ⟨_, _, _, t0, _⟩ := h.thr n hn
    have hw : (wtOf (m.th n) != 0) = (m.th n).waits := by
      unfold wtOf Th.waits
      by_cases h : (m.th n).lk = 0
      · by_cases h2 : (m.th n).fin = 0 <;> simp [h, h2]
      · simp [h]
    rw [is_iff] at hn
    obtain ⟨hn1, hn2⟩ := hn
    clear h e
    generalize wtOf (m.th n) = wt at *
    generalize (m.th n).waits = wa at *
    go_enter Tryd.func47, Tryd.ntmps47
    go_wp2_with fail
    refine HI.out.mono ?_
    rintro en w1 ⟨rfl, rfl⟩
    go_wp2
    go_ret
    exact ⟨rfl, rfl⟩
  · have e : waitsF m n = false := by simp [waitsF, hn]
    have hn' : m.is n = false := by simpa using hn
    rw [hn'] at HI
    rw [e]
    clear h e hn hn'
    go_enter Tryd.func47, Tryd.ntmps47
    go_wp2_with fail
    refine HI.out.mono ?_
    rintro en w1 ⟨rfl, rfl⟩
    go_wp2
    go_ret
    exact ⟨rfl, rfl⟩

set_option maxHeartbeats 400000 in
set_option maxRecDepth 100000 in
theorem r_ended (n : Int) (h : Rr w B m F) (hnt : m.ths.length ≤ 8) : Calls Tryd.prog 46 #[.pointer (some ⟨B, 0, none⟩), .int .i64 n] w fun e w' =>
    e = .returned (.tuple (if m.is n then #[.agg #[.bool (m.th n).en, .int .u64 (m.th n).w, .int .i64 (m.th n).e], .int .i64 0] else #[.agg #[.bool false, .int .u64 0, .int .i64 0], .int .i64 190])) ∧ Same [] w w' := by
  have HI : Hid (∀ o, Calls Tryd.prog 73 #[.pointer (some ⟨B, 0, none⟩), .int .i64 n] (w.alloc o) fun e w' => e = .returned (.bool (m.is n)) ∧ w.alloc o = w') := Lib.hid (fun o => r_is n (h.frame (G := []) ((Same.refl _ _).alloc o) (by simp)) hnt)
  obtain ⟨gs, tv, lv, gv, rvs, h⟩ := h
  by_cases hn : m.is n = true
  · rw [if_pos hn]
    rw [hn] at HI
    obtain ⟨g, o, c, rfl⟩ := h.tlit hn
    have b0 := h.b0
    obtain ⟨hgl, _, _, t0, -, t2, t3, t4, _⟩ := h.thr n hn
    rw [is_iff] at hn
    obtain ⟨hn1, hn2⟩ := hn
    have hB := h.book.lt
    clear h
    go_enter Tryd.func46, Tryd.ntmps46
    go_wp2_with fail
    refine (HI.out _).mono ?_
    rintro en w1 ⟨rfl, rfl⟩
    go_wp2
    exact bodyPost_ret (v := .tuple #[.agg #[.bool (m.th n).en, .int .u64 (m.th n).w, .int .i64 (m.th n).e], .int .i64 0]) (by simp [results, Tryd.results46, go_sem]) rfl ⟨rfl, (by repeat (first | exact Same.refl _ _ | refine Same.setCell ?_ (.inr (by simp)) _ | refine Same.alloc ?_ _ | refine Same.drew ?_))⟩
  · rw [if_neg hn]
    have hn' : m.is n = false := by simpa using hn
    rw [hn'] at HI
    have hB := h.book.lt
    clear h hn hn'
    go_enter Tryd.func46, Tryd.ntmps46
    go_wp2_with fail
    refine (HI.out _).mono ?_
    rintro en w1 ⟨rfl, rfl⟩
    go_wp2
    exact bodyPost_ret (v := .tuple #[.agg #[.bool false, .int .u64 0, .int .i64 0], .int .i64 190]) (by simp [results, Tryd.results46, go_sem]) rfl ⟨rfl, (by repeat (first | exact Same.refl _ _ | refine Same.setCell ?_ (.inr (by simp)) _ | refine Same.alloc ?_ _ | refine Same.drew ?_))⟩

set_option maxHeartbeats 400000 in
set_option maxRecDepth 100000 in
theorem r_global (i : Int) (h : Rr w B m F) (hng : m.gl.length ≤ 64) : Calls Tryd.prog 42 #[.pointer (some ⟨B, 0, none⟩), .int .i64 i] w fun e w' =>
    e = .returned (.tuple #[.int .u64 (globalF m i).1, .int .i64 (globalF m i).2]) ∧ w = w' := by
  obtain ⟨gs, tv, lv, gv, rvs, h⟩ := h
  obtain ⟨a, c, rfl⟩ := h.gform
  have b2 := h.b2
  by_cases hi : 0 ≤ i ∧ i < m.gl.length
  · unfold globalF; rw [if_pos hi]
    obtain ⟨hi1, hi2⟩ := hi
    obtain ⟨g, o, c', he, _, _, hc, _⟩ := h.gl.at_ (by omega)
    injection he with he; subst he
    have hx := hc i.toNat (by omega)
    rw [word_get _ _ (by omega)] at hx
    clear hc h
    go_enter Tryd.func42, Tryd.ntmps42
    go_wp2
    go_ret2
    exact ⟨rfl, rfl⟩
  · unfold globalF; rw [if_neg hi]
    clear h
    rcases Int.lt_or_le i 0 with h0 | h0
    · clear hi
      go_enter Tryd.func42, Tryd.ntmps42
      go_wp2
      go_ret2
      exact ⟨rfl, rfl⟩
    · have h1 : (m.gl.length : Int) ≤ i := by omega
      clear hi
      go_enter Tryd.func42, Tryd.ntmps42
      go_wp2
      go_ret2
      exact ⟨rfl, rfl⟩

set_option maxHeartbeats 400000 in
set_option maxRecDepth 100000 in
theorem r_setGlobal (i x : Int) (h : Rr w B m F) (hng : m.gl.length ≤ 64) : Calls Tryd.prog 44 #[.pointer (some ⟨B, 0, none⟩), .int .i64 i, .int .u64 x] w fun e w' =>
    e = .returned (.tuple #[.int .u64 (setGlobalF m i x).1, .int .i64 (setGlobalF m i x).2.1]) ∧ DidR B F w w' (setGlobalF m i x).2.2 := by
  have hst := DidR.stay h
  obtain ⟨gs, tv, lv, gv, rvs, h⟩ := h
  obtain ⟨a, c, rfl⟩ := h.gform
  have b2 := h.b2
  by_cases hi : 0 ≤ i ∧ i < m.gl.length
  · unfold setGlobalF; rw [if_pos hi]
    obtain ⟨hi1, hi2⟩ := hi
    obtain ⟨g, o, c', he, _, hlt, hc, hfr⟩ := h.gl.at_ (by omega)
    injection he with he; subst he
    have hx := hc i.toNat (by omega)
    rw [word_get _ _ (by omega)] at hx
    have hgB : ¬ g = B := fun e => h.gl.ne_blk h.book (by decide) g (by simp [blk]) e
    have hdid : DidR B F w (w.setCell ⟨g, o + i.toNat, none⟩ (.int .u64 x)) { m with gl := m.gl.set i.toNat x } := by
      refine ⟨F, ⟨gs, tv, lv, .slice (some ⟨g, o, none⟩) m.gl.length c, rvs, ?_⟩, (Same.refl _ _).setCell (.inl (h.fG g (by simp [blk]))) _, fun _ hk => .inl hk⟩
      have hs : Same [g] w (w.setCell ⟨g, o + i.toNat, none⟩ (.int .u64 x)) := (Same.refl _ _).setCell (by simp) _
      have far : ∀ {e s n v' xs}, Row w e s v' n xs → 33 ≠ e → ∀ k ∈ blk v', k ∉ [g] := fun hr he k hk hm => by
        simp at hm; subst hm; exact h.gl.ne hr he _ (by simp [blk]) hk
      refine ⟨h.book.frame hs (fun hm => h.gl.ne_blk h.book (by decide) g (by simp [blk]) (List.mem_singleton.1 hm).symm), h.ths.frame hs (far h.ths (by decide)), h.lks.frame hs (far h.lks (by decide)), ?_, h.rv, h.gsl,
        fun i hi => (h.rows i hi).frame hs (far (h.rows i hi) (by decide)), h.apart, h.fB, h.fT, h.fL, h.fG, h.fR, by simpa using h.lt⟩
      have := h.gl.set i.toNat (by omega) (.int .u64 x)
      rw [word_set _ _ (by omega)] at this
      simpa using this
    have HD := Lib.hid hdid
    have hB := h.book.lt
    clear hc h hst hdid
    generalize m.gl.getD i.toNat 0 = y at *
    go_enter Tryd.func44, Tryd.ntmps44
    go_wp2
    (try (go_region; go_wp2))
    go_ret2
    refine ⟨rfl, ?_⟩
    first | exact HD.out | exact HD.out.drew
  · unfold setGlobalF; rw [if_neg hi]
    have HS := Lib.hid hst
    clear h hst
    rcases Int.lt_or_le i 0 with h0 | h0
    · clear hi
      go_enter Tryd.func44, Tryd.ntmps44
      go_wp2
      go_ret2
      exact ⟨rfl, HS.out⟩
    · have h1 : (m.gl.length : Int) ≤ i := by omega
      clear hi
      go_enter Tryd.func44, Tryd.ntmps44
      go_wp2
      go_ret2
      exact ⟨rfl, HS.out⟩

set_option maxHeartbeats 400000 in
set_option maxRecDepth 100000 in
theorem r_start (h : Rr w B m F) (hnt : m.ths.length ≤ 8) : Calls Tryd.prog 36 #[.pointer (some ⟨B, 0, none⟩)] w fun e w' =>
    e = .returned (.tuple #[.int .i64 (start m).1, .int .i64 (start m).2.1]) ∧ DidR B F w w' (start m).2.2 := by
  have hst := DidR.stay h
  obtain ⟨gs, tv, lv, gv, rvs, h⟩ := h
  obtain ⟨a, c, rfl⟩ := h.tform
  have b0 := h.b0
  by_cases h8 : m.ths.length = 8
  · unfold start; rw [if_pos h8]
    rw [h8] at b0
    have HS := Lib.hid hst
    clear h hst h8
    go_enter Tryd.func36, Tryd.ntmps36
    go_wp2
    go_ret2
    exact ⟨rfl, HS.out⟩
  · unfold start; rw [if_neg h8]
    have h8' : ¬ (8 : Int) ≤ (m.ths.length : Int) := by omega
    have hz1 : (m.ths ++ [t0]).zip (gs ++ [0]) = m.ths.zip gs ++ [(t0, 0)] := List.zip_append h.gsl.symm
    have HZ1 := Lib.hid hz1
    clear hz1
    have hB := h.book.lt
    have fB : ∀ j, w.frozen? ⟨B, j, none⟩ = false := h.book.frozen
    have HH := Lib.hid h
    have hap : ∀ w1 v', Row w1 138 5 v' (m.ths.length + 1) (((m.ths ++ [t0]).zip (gs ++ [0])).flatMap rE) → Same (blk (.slice a m.ths.length c)) w w1 → (∀ k ∈ blk v', k ∈ blk (.slice a m.ths.length c) ∨ w.heap.size ≤ k) → DidR B F w (w1.setCell ⟨B, 0, none⟩ v') { m with ths := m.ths ++ [t0] } := by
      intro w1 v' hr hs hb
      have hs2 : Same (B :: blk (.slice a m.ths.length c)) w (w1.setCell ⟨B, 0, none⟩ v') := (hs.mono (fun x hx => .inl (List.mem_cons_of_mem _ hx))).setCell (by simp) v'
      have far : ∀ {e s n v' xs}, Row w e s v' n xs → 138 ≠ e → 112 ≠ e → ∀ k ∈ blk v', k ∉ B :: blk (.slice a m.ths.length c) := fun hr he he' k hk hm => by
        rcases List.mem_cons.1 hm with hm | hm
        · exact hr.ne_blk h.book he'.symm k hk hm
        · exact h.ths.ne hr he k hm hk
      refine ⟨F ++ blk v', ⟨gs ++ [0], v', lv, gv, rvs, ?_⟩, hs2.mono (fun x hx => ?_), fun k hk => ?_⟩
      · refine ⟨?_, ?_, h.lks.frame hs2 (far h.lks (by decide) (by decide)), h.gl.frame hs2 (far h.gl (by decide) (by decide)), h.rv, by simp [h.gsl], fun i hi => (h.rows i hi).frame hs2 (far (h.rows i hi) (by decide) (by decide)), h.apart,
          by simp [h.fB], fun k hk => by simp [hk], fun k hk => by simp [h.fL k hk], fun k hk => by simp [h.fG k hk], fun i hi k hk => by simp [h.fR i hi k hk], fun k hk => ?_⟩
        · exact (h.book.frame hs (fun hm => h.ths.ne_blk h.book (by decide) B hm rfl)).set 0 v'
        · have : (m.ths ++ [t0]).length = m.ths.length + 1 := by simp
          simp only [this]
          exact hr.setOther (fun hm => by
            rcases hb B hm with h1 | h1
            · exact h.ths.ne_blk h.book (by decide) B h1 rfl
            · omega) v'
        · simp only [World.size_setCell]
          rcases List.mem_append.1 hk with hk | hk
          · exact Nat.lt_of_lt_of_le (h.lt k hk) hs.size
          · exact hr.lt k hk
      · rcases List.mem_cons.1 hx with rfl | hx
        · exact .inl h.fB
        · exact .inl (h.fT x hx)
      · rcases List.mem_append.1 hk with hk | hk
        · exact .inl hk
        · rcases hb k hk with h1 | h1
          · exact .inl (h.fT k h1)
          · exact .inr h1
    have HAP := Lib.hid hap
    clear hap hst h
    go_enter Tryd.func36, Tryd.ntmps36
    go_wp2_with (at_builtin; refine wpList_append_row _ rfl (.tmp 14) (.tmp 16) 110 rfl 138 (.agg #[.int .i64 0, .int .i64 0, .bool false, .int .u64 0, .int .i64 0]) 5 40 Tryd.underlying110 info138 rfl (by decide) (.slice a m.ths.length c) m.ths.length ((m.ths.zip gs).flatMap rE) rfl ?hrow1 ⟨w.heap.size, 0, none⟩ 1 1 (rE (t0, 0)) rfl rfl ?c1 ?c2 ?b1 ?b2 ?K)
    case hrow1 => exact HH.out.ths.alloc _
    case c1 => intro j u hj; match j, hj with
      | 0, hj | 1, hj | 2, hj | 3, hj | 4, hj => simp [rE, t0, wtOf, frOf] at hj; subst hj; simp [Addr.add]
    case c2 => intro u hu; simp [rE, t0, wtOf, frOf] at hu; rcases hu with rfl | rfl | rfl | rfl <;> rfl
    case b1 => unfold maxLen; omega
    case b2 => omega
    case K =>
      intro v' w1 hrow hs hb
      have hs1 := ((Same.refl (blk (.slice a m.ths.length c)) w).alloc _).trans hs
      have hb1 : ∀ k ∈ blk v', k ∈ blk (.slice a m.ths.length c) ∨ w.heap.size ≤ k := fun k hk => by
        rcases hb k hk with h1 | h1
        · exact .inl h1
        · right; have : (w.alloc (.cells #[] 3)).heap.size = w.heap.size + 1 := by simp
          omega
      have hd := HAP.out w1 v' (by rw [HZ1.out]; simpa using hrow) hs1 hb1
      obtain ⟨a', c', rfl, _, _, _⟩ := hrow.form
      have k0 := (hs1.cell (b := B) (o := 0) hB (fun hm => HH.out.ths.ne_blk HH.out.book (by decide) B hm rfl)).trans b0
      have f0 : w1.frozen? ⟨B, 0, none⟩ = false := (hs1.frozen hB (fun hm => HH.out.ths.ne_blk HH.out.book (by decide) B hm rfl)).trans (fB 0)
      have hB1 : B < w1.heap.size := Nat.lt_of_lt_of_le hB hs1.size
      have HD := Lib.hid hd
      clear hs hb hs1 hb1 hd hrow
      go_wp2
      go_ret2
      exact ⟨by simp, HD.out⟩
end Lk
end Go.Proofs.YtkfdoocmapjkbaaDoor
