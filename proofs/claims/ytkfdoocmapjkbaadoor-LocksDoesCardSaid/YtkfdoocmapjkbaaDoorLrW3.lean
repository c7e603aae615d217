/- Layer 19, the document's answer: Lock, Unlock, Join. -/
import Derived.Test.YtkfdoocmapjkbaaDoorLrW2
namespace Go.Proofs.YtkfdoocmapjkbaaDoor
open Go.RowKit Hp
namespace Lk
variable {w w' : World} {B : Nat} {m : Bk} {gs : List Int} {F : List Nat} {tv lv gv : Value} {rvs : List Value}

set_option maxHeartbeats 1600000 in
set_option maxRecDepth 100000 in
theorem r_lock (n l : Int) (h : Rr w B m F) (ok : Ok m) (zr : Zr m) :
    Calls Tryd.prog 40 #[.pointer (some ⟨B, 0, none⟩), .int .i64 n, .int .i64 l] w fun e w' =>
      e = .returned (.tuple #[.bool (lockF m n l).1, .int .i64 (lockF m n l).2.1]) ∧ DidR B F w w' (lockF m n l).2.2 := by
  have hst := DidR.stay h
  have HI := Lib.hid (r_is n h ok.nt)
  have hnl := ok.nl
  by_cases hn : m.is n = true
  case neg =>
    have hn : m.is n = false := by simpa using hn
    have e : lockF m n l = (false, 190, m) := by simp [lockF, askF, hn]
    rw [e]
    rw [hn] at HI
    have HS := Lib.hid hst
    clear h hst ok zr hn e
    go_enter Tryd.func40, Tryd.ntmps40
    go_wp2_with fail
    refine HI.out.mono ?_
    rintro en w1 ⟨rfl, rfl⟩
    go_wp2
    go_ret2
    exact ⟨rfl, HS.out⟩
  case pos =>
  rw [hn] at HI
  have HG := Lib.hid (r_goes n h ok.nt hn)
  by_cases hl : m.isL l = true
  case neg =>
    have hl' : m.isL l = false := by simpa using hl
    have e : lockF m n l = (false, 190, m) := by simp [lockF, askF, hl']
    rw [e]
    rw [isL_iff] at hl
    have HS := Lib.hid hst
    obtain ⟨gs, tv, lv, gv, rvs, h⟩ := h
    obtain ⟨a, c, rfl⟩ := h.lform
    have b1 := h.b1
    clear h hst ok zr hn e hl'
    rcases Int.lt_or_le l 0 with h0 | h0
    · clear hl
      go_enter Tryd.func40, Tryd.ntmps40
      go_wp2_with fail
      refine HI.out.mono ?_
      rintro en w1 ⟨rfl, rfl⟩
      go_wp2
      go_ret2
      exact ⟨rfl, HS.out⟩
    · have h1 : (m.lks.length : Int) ≤ l := by omega
      clear hl
      go_enter Tryd.func40, Tryd.ntmps40
      go_wp2_with fail
      refine HI.out.mono ?_
      rintro en w1 ⟨rfl, rfl⟩
      go_wp2
      go_ret2
      exact ⟨rfl, HS.out⟩
  case pos =>
  by_cases hg : (m.th n).goes = true
  case neg =>
    have hg : (m.th n).goes = false := by simpa using hg
    have e : lockF m n l = (false, 192, m) := by simp [lockF, askF, hn, hl, hg]
    rw [e]
    rw [hg] at HG
    rw [isL_iff] at hl
    have HS := Lib.hid hst
    obtain ⟨hl1, hl2⟩ := hl
    obtain ⟨gs, tv, lv, gv, rvs, h⟩ := h
    obtain ⟨a, c, rfl⟩ := h.lform
    have b1 := h.b1
    clear h hst ok zr hn e hg
    go_enter Tryd.func40, Tryd.ntmps40
    go_wp2_with fail
    refine HI.out.mono ?_
    rintro en w1 ⟨rfl, rfl⟩
    go_wp2_with fail
    refine HG.out.mono ?_
    rintro en w1 ⟨rfl, rfl⟩
    go_wp2
    go_ret2
    exact ⟨rfl, HS.out⟩
  case pos =>
  have ha : askF m n l = 0 := by simp [askF, hn, hl, hg]
  have hgi := (goes_iff _).1 hg
  have hz := zr n hn hgi.1
  unfold lockF
  rw [if_neg (by rw [ha]; simp)]
  rw [hg] at HG
  have hrl := row_len8 ok hl
  obtain ⟨gs, tv, lv, gv, rvs, h⟩ := h
  obtain ⟨gt, ot, ct, rfl⟩ := h.tlit hn
  obtain ⟨gl, ol, cl, rfl⟩ := h.llit hl
  have b0 := h.b0
  have b1 := h.b1
  obtain ⟨htlt, htF, hBt, t0, ⟨fr, t1, -⟩, t2, t3, t4, tf, tput, -⟩ := h.thr n hn
  obtain ⟨hllt, hlF, hBl, htl, hrv, l0, l1, lf, hrow, lho, lrow⟩ := h.lok l hl
  have hB := h.book.lt
  have HN := Lib.hid hn
  have HL := Lib.hid hl
  have hnt := ok.nt
  rw [isL_iff] at hl
  obtain ⟨hl1, hl2⟩ := hl
  by_cases hh : (m.lo l).ho = n
  · rw [if_pos hh]
    have HS := Lib.hid hst
    rw [hh] at l0
    have e1 : (n == n) = true := by simp
    clear ok h hst hn hg hrl htF htlt t0 t1 t2 t3 t4 tf tput hrv l1 lf hrow lho lrow hh htl ha hgi hz zr
    go_enter Tryd.func40, Tryd.ntmps40
    go_wp2_with fail
    refine HI.out.mono ?_
    rintro en w1 ⟨rfl, rfl⟩
    go_wp2_with fail
    refine HG.out.mono ?_
    rintro en w1 ⟨rfl, rfl⟩
    go_wp2
    go_ret2
    exact ⟨rfl, HS.out⟩
  · rw [if_neg hh]
    by_cases h0 : (m.lo l).ho = 0
    · rw [if_pos h0]
      rw [h0] at l0 hh
      have e1 : ((0 : Int) == n) = false := by simpa using hh
      have HD : Hid (DidR B F w (w.setCell ⟨gl, ol + l.toNat * 2, none⟩ (.int .i64 n)) (m.setL l { m.lo l with ho := n })) :=
        Lib.hid ⟨F, ⟨_, _, _, _, _, lho n⟩, (Same.refl _ _).setCell (.inl hlF) _, fun _ hk => .inl hk⟩
      clear ok h hst hn hg hrl htF htlt t0 t1 t2 t3 t4 tf tput hrv l1 hrow lho lrow hh htl h0 ha hgi hz zr
      go_enter Tryd.func40, Tryd.ntmps40
      go_wp2_with fail
      refine HI.out.mono ?_
      rintro en w1 ⟨rfl, rfl⟩
      go_wp2_with fail
      refine HG.out.mono ?_
      rintro en w1 ⟨rfl, rfl⟩
      go_wp2
      go_ret2
      exact ⟨rfl, HD.out⟩
    · rw [if_neg h0]
      obtain ⟨ra, rc, hra, hrc, hrm, hrn⟩ := hrow.form
      have e1 : ((m.lo l).ho == n) = false := by simpa using hh
      have e2 : ((m.lo l).ho == 0) = false := by simpa using h0
      have HF := Lib.hid hrv
      have HRV := Lib.hid hra
      have HROW := Lib.hid hrow
      have HLR := Lib.hid lrow
      have HGI := Lib.hid hgi
      have HZ := Lib.hid hz
      rw [hra] at l1
      have HTF := Lib.hid htF
      have HLF := Lib.hid hlF
      have HTL := Lib.hid htl
      have hn1 := (is_iff m n).1 hn
      obtain ⟨hn1, hn2⟩ := hn1
      clear ok h hst hn hg htF hlF tput hrv hrow lho lrow hh h0 hra htl ha hgi hz zr
      go_enter Tryd.func40, Tryd.ntmps40
      go_wp2_with fail
      refine HI.out.mono ?_
      rintro en w1 ⟨rfl, rfl⟩
      go_wp2_with fail
      refine HG.out.mono ?_
      rintro en w1 ⟨rfl, rfl⟩
      go_wp2_with (first
        | (at_builtin; refine wpList_append_row _ rfl (.tmp 57) (.tmp 59) 29 rfl 3 (.int .i64 0) 1 8 Tryd.underlying29 info3 rfl (by decide) (.slice ra (m.lo l).row.length rc) (m.lo l).row.length ((m.lo l).row.flatMap (nE .i64)) rfl ?hrow1 ⟨w.heap.size, 0, none⟩ 1 1 [.int .i64 n] rfl rfl ?c1 ?c2 ?b1 ?b2 ?K))
      case hrow1 => rw [← HRV.out]; exact HROW.out.alloc _
      case c1 => exact cell_one_new w (.int .i64 n) 3
      case c2 => intro u hu; simp at hu; subst hu; rfl
      case b1 => unfold maxLen; omega
      case b2 => omega
      case K =>
        intro v' w' hrow' hs hb
        have hs2 : Same (blk (rvs.getD l.toNat undef)) w w' := by rw [HRV.out]; exact ((Same.refl _ _).alloc _).trans hs
        have hb' : ∀ k ∈ blk v', k ∈ blk (rvs.getD l.toNat undef) ∨ w.heap.size ≤ k := fun k hk => by
          rcases hb k hk with h1 | h1
          · exact .inl (by rw [HRV.out]; exact h1)
          · exact .inr (by omega)
        obtain ⟨a', c', rfl, _, _, _⟩ := hrow'.form
        have hgn : gt ∉ blk (rvs.getD l.toNat undef) := fun hm => (HF.out _ hm).2.2.2 (by simp [blk])
        have hgB : B ∉ blk (rvs.getD l.toNat undef) := fun hm => (HF.out _ hm).2.2.1 rfl
        have k1 := (hs2.cell (b := gl) (o := ol + l.toNat * 2 + 1) hllt (fun hm => (HF.out _ hm).2.1 rfl)).trans l1
        have s0 := (hs2.cell (b := gt) (o := ot + (n.toNat - 1) * 5) htlt hgn).trans t0
        have s1 := (hs2.cell (b := gt) (o := ot + (n.toNat - 1) * 5 + 1) htlt hgn).trans t1
        have s2 := (hs2.cell (b := gt) (o := ot + (n.toNat - 1) * 5 + 2) htlt hgn).trans t2
        have s3 := (hs2.cell (b := gt) (o := ot + (n.toNat - 1) * 5 + 3) htlt hgn).trans t3
        have s4 := (hs2.cell (b := gt) (o := ot + (n.toNat - 1) * 5 + 4) htlt hgn).trans t4
        have s5 := (hs2.cell (b := B) (o := 0) hB hgB).trans b0
        have f1 : ∀ j, w'.frozen? ⟨gl, j, none⟩ = false := fun j => (hs2.frozen hllt (fun hm => (HF.out _ hm).2.1 rfl)).trans (lf j)
        have f2 : ∀ j, w'.frozen? ⟨gt, j, none⟩ = false := fun j => (hs2.frozen htlt hgn).trans (tf j)
        have hgg : gt ≠ gl := HTL.out gt (by simp [blk])
        have q1 := HLR.out w' _ ((m.lo l).row ++ [n]) hs2 hb' (by simpa [nE] using hrow')
        have q2 := (q1.thr n (show m.is n = true from HN.out)).2.2.2.2.2.2.2.2.2.1 { m.th n with lk := l + 1 } 0 [.int .i64 2, .int .i64 l, .bool false, .int .u64 0, .int .i64 0] (by
          have : ¬ (l + 1 = 0) := by omega
          simp [rE, wtOf, frOf, this, HGI.out.1, HZ.out.1, HZ.out.2])
        have q3 : DidR B F w ((((((w'.setCell ⟨gl, ol + l.toNat * 2 + 1, none⟩ (.slice a' ((m.lo l).row.length + 1) c')).setCell ⟨gt, ot + (n.toNat - 1) * 5, none⟩ (.int .i64 2)).setCell ⟨gt, ot + (n.toNat - 1) * 5 + 1, none⟩ (.int .i64 l)).setCell ⟨gt, ot + (n.toNat - 1) * 5 + 2, none⟩ (.bool false)).setCell ⟨gt, ot + (n.toNat - 1) * 5 + 3, none⟩ (.int .u64 0)).setCell ⟨gt, ot + (n.toNat - 1) * 5 + 4, none⟩ (.int .i64 0)) ((m.setL l { m.lo l with row := (m.lo l).row ++ [n] }).setT n { m.th n with lk := l + 1 }) := by
          refine ⟨_, ⟨_, _, _, _, _, q2⟩, ((((((hs2.mono (fun x hx => .inl (HF.out x hx).1)).setCell (.inl HLF.out) _).setCell (.inl HTF.out) _).setCell (.inl HTF.out) _).setCell (.inl HTF.out) _).setCell (.inl HTF.out) _).setCell (.inl HTF.out) _, fun k hk => ?_⟩
          rcases List.mem_append.1 hk with hk | hk
          · exact .inl hk
          · rcases hb' k hk with h1 | h1
            · exact .inl (HF.out k h1).1
            · exact .inr h1
        have HD := Lib.hid q3
        clear hs hb hs2 hb' hrow' q1 q2 q3 t0 t1 t2 t3 t4 l0 l1 b0 b1 hgn hgB
        go_wp2
        go_ret2
        exact ⟨rfl, HD.out⟩

set_option maxHeartbeats 1600000 in
set_option maxRecDepth 100000 in
theorem r_unlock (n l : Int) (h : Rr w B m F) (ok : Ok m) :
    Calls Tryd.prog 41 #[.pointer (some ⟨B, 0, none⟩), .int .i64 n, .int .i64 l] w fun e w' =>
      e = .returned (.tuple #[.int .i64 (unlockF m n l).1, .int .i64 (unlockF m n l).2.1]) ∧ DidR B F w w' (unlockF m n l).2.2 := by
  have hst := DidR.stay h
  have HI := Lib.hid (r_is n h ok.nt)
  have hnl := ok.nl
  by_cases hn : m.is n = true
  case neg =>
    have hn : m.is n = false := by simpa using hn
    have e : unlockF m n l = (0, 190, m) := by simp [unlockF, askF, hn]
    rw [e]
    rw [hn] at HI
    have HS := Lib.hid hst
    clear h hst ok hn e
    go_enter Tryd.func41, Tryd.ntmps41
    go_wp2_with fail
    refine HI.out.mono ?_
    rintro en w1 ⟨rfl, rfl⟩
    go_wp2
    go_ret2
    exact ⟨rfl, HS.out⟩
  case pos =>
  rw [hn] at HI
  have HG := Lib.hid (r_goes n h ok.nt hn)
  by_cases hl : m.isL l = true
  case neg =>
    have hl' : m.isL l = false := by simpa using hl
    have e : unlockF m n l = (0, 190, m) := by simp [unlockF, askF, hl']
    rw [e]
    rw [isL_iff] at hl
    have HS := Lib.hid hst
    obtain ⟨gs, tv, lv, gv, rvs, h⟩ := h
    obtain ⟨a, c, rfl⟩ := h.lform
    have b1 := h.b1
    clear h hst ok hn e hl'
    rcases Int.lt_or_le l 0 with h0 | h0
    · clear hl
      go_enter Tryd.func41, Tryd.ntmps41
      go_wp2_with fail
      refine HI.out.mono ?_
      rintro en w1 ⟨rfl, rfl⟩
      go_wp2
      go_ret2
      exact ⟨rfl, HS.out⟩
    · have h1 : (m.lks.length : Int) ≤ l := by omega
      clear hl
      go_enter Tryd.func41, Tryd.ntmps41
      go_wp2_with fail
      refine HI.out.mono ?_
      rintro en w1 ⟨rfl, rfl⟩
      go_wp2
      go_ret2
      exact ⟨rfl, HS.out⟩
  case pos =>
  by_cases hg : (m.th n).goes = true
  case neg =>
    have hg : (m.th n).goes = false := by simpa using hg
    have e : unlockF m n l = (0, 192, m) := by simp [unlockF, askF, hn, hl, hg]
    rw [e]
    rw [hg] at HG
    rw [isL_iff] at hl
    have HS := Lib.hid hst
    obtain ⟨hl1, hl2⟩ := hl
    obtain ⟨gs, tv, lv, gv, rvs, h⟩ := h
    obtain ⟨a, c, rfl⟩ := h.lform
    have b1 := h.b1
    clear h hst ok hn e hg
    go_enter Tryd.func41, Tryd.ntmps41
    go_wp2_with fail
    refine HI.out.mono ?_
    rintro en w1 ⟨rfl, rfl⟩
    go_wp2_with fail
    refine HG.out.mono ?_
    rintro en w1 ⟨rfl, rfl⟩
    go_wp2
    go_ret2
    exact ⟨rfl, HS.out⟩
  case pos =>
  have ha : askF m n l = 0 := by simp [askF, hn, hl, hg]
  unfold unlockF
  rw [if_neg (by rw [ha]; simp)]
  rw [hg] at HG
  have HH := Lib.hid (r_hands l h ok.nl ok.nt hl (row_len8 ok hl) (fun t ht => ⟨(ok.rowIn l t hl ht).1, by
    have h1 := ok.rowIn l t hl ht
    rcases ok.lk t h1.1 with h2 | ⟨_, _, h2, _⟩
    · have := (isL_iff m l).1 hl; omega
    · exact h2⟩))
  obtain ⟨gs, tv, lv, gv, rvs, h⟩ := h
  obtain ⟨gl, ol, cl, rfl⟩ := h.llit hl
  have b1 := h.b1
  obtain ⟨-, -, -, -, -, l0, -⟩ := h.lok l hl
  rw [isL_iff] at hl
  obtain ⟨hl1, hl2⟩ := hl
  by_cases hh : (m.lo l).ho ≠ n
  · rw [if_pos hh]
    have HS := Lib.hid hst
    have e1 : ((m.lo l).ho != n) = true := by simpa using hh
    clear ok h hst hn hg hh HH ha
    go_enter Tryd.func41, Tryd.ntmps41
    go_wp2_with fail
    refine HI.out.mono ?_
    rintro en w1 ⟨rfl, rfl⟩
    go_wp2_with fail
    refine HG.out.mono ?_
    rintro en w1 ⟨rfl, rfl⟩
    go_wp2
    go_ret2
    exact ⟨rfl, HS.out⟩
  · rw [if_neg hh]
    have hh : (m.lo l).ho = n := by simpa using hh
    rw [hh] at l0
    have e1 : (n != n) = false := by simp
    clear ok h hst hn hg hh ha
    go_enter Tryd.func41, Tryd.ntmps41
    go_wp2_with fail
    refine HI.out.mono ?_
    rintro en w1 ⟨rfl, rfl⟩
    go_wp2_with fail
    refine HG.out.mono ?_
    rintro en w1 ⟨rfl, rfl⟩
    go_wp2_with fail
    refine HH.out.mono ?_
    rintro en w2 ⟨rfl, hd⟩
    go_wp2
    go_ret2
    exact ⟨rfl, hd⟩

set_option maxHeartbeats 1600000 in
set_option maxRecDepth 100000 in
theorem r_join (n f : Int) (h : Rr w B m F) (ok : Ok m) (zr : Zr m) :
    Calls Tryd.prog 39 #[.pointer (some ⟨B, 0, none⟩), .int .i64 n, .int .i64 f] w fun e w' =>
      e = .returned (.tuple #[.int .u64 (joinF m n f).1, .bool (joinF m n f).2.1, .int .i64 (joinF m n f).2.2.1]) ∧ DidR B F w w' (joinF m n f).2.2.2 := by
  have hst := DidR.stay h
  have HI := Lib.hid (r_is n h ok.nt)
  have HJ := Lib.hid (r_is f h ok.nt)
  have hnt := ok.nt
  by_cases hn : m.is n = true
  case neg =>
    have hn : m.is n = false := by simpa using hn
    have e : joinF m n f = (0, false, 190, m) := by simp [joinF, hn]
    rw [e]
    rw [hn] at HI
    have HS := Lib.hid hst
    clear h hst ok zr hn e
    go_enter Tryd.func39, Tryd.ntmps39
    go_wp2_with fail
    refine HI.out.mono ?_
    rintro en w1 ⟨rfl, rfl⟩
    go_wp2_with fail
    refine HJ.out.mono ?_
    rintro en w1 ⟨rfl, rfl⟩
    go_wp2
    go_ret3
    exact ⟨rfl, HS.out⟩
  case pos =>
  rw [hn] at HI
  have HG := Lib.hid (r_goes n h ok.nt hn)
  by_cases hf : m.is f = true
  case neg =>
    have hf : m.is f = false := by simpa using hf
    have e : joinF m n f = (0, false, 190, m) := by simp [joinF, hf]
    rw [e]
    rw [hf] at HJ
    have HS := Lib.hid hst
    clear h hst ok zr hn e hf
    go_enter Tryd.func39, Tryd.ntmps39
    go_wp2_with fail
    refine HI.out.mono ?_
    rintro en w1 ⟨rfl, rfl⟩
    go_wp2_with fail
    refine HJ.out.mono ?_
    rintro en w1 ⟨rfl, rfl⟩
    go_wp2
    go_ret3
    exact ⟨rfl, HS.out⟩
  case pos =>
  rw [hf] at HJ
  unfold joinF
  rw [if_neg (by simp [hn, hf])]
  by_cases hg : (m.th n).goes = false
  · rw [if_pos hg]
    rw [hg] at HG
    have HS := Lib.hid hst
    clear h hst ok zr hn hf hg
    go_enter Tryd.func39, Tryd.ntmps39
    go_wp2_with fail
    refine HI.out.mono ?_
    rintro en w1 ⟨rfl, rfl⟩
    go_wp2_with fail
    refine HJ.out.mono ?_
    rintro en w1 ⟨rfl, rfl⟩
    go_wp2_with fail
    refine HG.out.mono ?_
    rintro en w1 ⟨rfl, rfl⟩
    go_wp2
    go_ret3
    exact ⟨rfl, HS.out⟩
  · rw [if_neg hg]
    have hg : (m.th n).goes = true := by simpa using hg
    rw [hg] at HG
    by_cases hs : n = f
    · rw [if_pos hs]
      have HS := Lib.hid hst
      have e1 : (n == f) = true := by simpa using hs
      clear h hst ok zr hn hf hg hs
      go_enter Tryd.func39, Tryd.ntmps39
      go_wp2_with fail
      refine HI.out.mono ?_
      rintro en w1 ⟨rfl, rfl⟩
      go_wp2_with fail
      refine HJ.out.mono ?_
      rintro en w1 ⟨rfl, rfl⟩
      go_wp2_with fail
      refine HG.out.mono ?_
      rintro en w1 ⟨rfl, rfl⟩
      go_wp2
      go_ret3
      exact ⟨rfl, HS.out⟩
    · rw [if_neg hs]
      have e1 : (n == f) = false := by simpa using hs
      have hgi := (goes_iff _).1 hg
      have hz := zr n hn hgi.1
      obtain ⟨gs, tv, lv, gv, rvs, h⟩ := h
      obtain ⟨gt, ot, ct, rfl⟩ := h.tlit hn
      have b0 := h.b0
      have hB := h.book.lt
      obtain ⟨htlt, htF, hBt, t0, ⟨fr, t1, -⟩, t2, t3, t4, tf, tput, -⟩ := h.thr n hn
      obtain ⟨-, -, -, -, -, s2, s3, s4, -, -, -⟩ := h.thr f hf
      have hq := (is_iff m n).1 hn
      have hr := (is_iff m f).1 hf
      obtain ⟨hn1, hn2⟩ := hq
      obtain ⟨hf1, hf2⟩ := hr
      have hne : w.heap.size ≠ gt := by omega
      by_cases he : (m.th f).en = true
      · rw [if_pos he]
        rw [he] at s2
        have HS : Hid (∀ o, DidR B F w (w.alloc o) m) := Lib.hid (fun o => ⟨F, ⟨_, _, _, _, _, h.frame (G := []) ((Same.refl _ _).alloc o) (by simp)⟩, (Same.refl _ _).alloc o, fun _ hk => .inl hk⟩)
        clear h hst ok zr hn hf hg hs t0 t1 t2 t3 t4 tput hgi hz he
        go_enter Tryd.func39, Tryd.ntmps39
        go_wp2_with fail
        refine HI.out.mono ?_
        rintro en w1 ⟨rfl, rfl⟩
        go_wp2_with fail
        refine HJ.out.mono ?_
        rintro en w1 ⟨rfl, rfl⟩
        go_wp2_with fail
        refine HG.out.mono ?_
        rintro en w1 ⟨rfl, rfl⟩
        go_wp2
        go_region
        go_wp2
        go_ret3
        exact ⟨rfl, (HS.out _).drew⟩
      · rw [if_neg he]
        have he : (m.th f).en = false := by simpa using he
        rw [he] at s2
        have HD : Hid (∀ o, DidR B F w ((((((w.setCell ⟨gt, ot + (n.toNat - 1) * 5, none⟩ (.int .i64 1)).setCell ⟨gt, ot + (n.toNat - 1) * 5 + 1, none⟩ (.int .i64 f)).setCell ⟨gt, ot + (n.toNat - 1) * 5 + 2, none⟩ (.bool false)).setCell ⟨gt, ot + (n.toNat - 1) * 5 + 3, none⟩ (.int .u64 0)).setCell ⟨gt, ot + (n.toNat - 1) * 5 + 4, none⟩ (.int .i64 0)).alloc o) (m.setT n { m.th n with fin := f })) := Lib.hid (fun o => by
          have q2 := (tput { m.th n with fin := f } 0 [.int .i64 1, .int .i64 f, .bool false, .int .u64 0, .int .i64 0] (by
            have : ¬ (f = 0) := by omega
            simp [rE, wtOf, frOf, this, hgi.1, hgi.2.2, hz.1, hz.2]))
          exact ⟨F, ⟨_, _, _, _, _, q2.frame (G := []) ((Same.refl _ _).alloc o) (by simp)⟩, ((((((Same.refl F w).setCell (.inl htF) _).setCell (.inl htF) _).setCell (.inl htF) _).setCell (.inl htF) _).setCell (.inl htF) _).alloc o, fun _ hk => .inl hk⟩)
        clear h hst ok zr hn hf hg hs tput hgi hz he
        go_enter Tryd.func39, Tryd.ntmps39
        go_wp2_with fail
        refine HI.out.mono ?_
        rintro en w1 ⟨rfl, rfl⟩
        go_wp2_with fail
        refine HJ.out.mono ?_
        rintro en w1 ⟨rfl, rfl⟩
        go_wp2_with fail
        refine HG.out.mono ?_
        rintro en w1 ⟨rfl, rfl⟩
        go_wp2
        go_ret3
        exact ⟨rfl, HD.out _⟩
end Lk
end Go.Proofs.YtkfdoocmapjkbaaDoor
