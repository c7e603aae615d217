/- Layer 19, package locks: Lock, hand, Unlock, Join. -/
import Derived.Test.YtkfdoocmapjkbaaDoorLkW2
namespace Go.Proofs.YtkfdoocmapjkbaaDoor
open Go.RowKit Hp
namespace Lk
variable {w w' : World} {B : Nat} {m : Bk} {F : List Nat} {tv lv gv : Value} {rvs : List Value}

/-- What 'ask' answers where it refuses. -/
theorem ask_bad (n l : Int) (h : Rep w B m F) (ok : Ok m) (hx : askF m n l ≠ 0) :
    Calls Tryd.prog 33 #[.pointer (some ⟨B, 0, none⟩), .int .i64 n, .int .i64 l] w fun e w' => e = .returned (.tuple #[.pointer none, .int .i64 (askF m n l)]) ∧ w = w' := by
  by_cases h1 : m.is n = false ∨ m.isL l = false
  · have : askF m n l = 190 := by simp [askF, h1]
    rw [this]
    exact ask_none n l h ok h1
  · have hn : m.is n = true := by cases hh : m.is n <;> simp_all
    have hl : m.isL l = true := by cases hh : m.isL l <;> simp_all
    have hg : (m.th n).goes = false := by
      cases hh : (m.th n).goes with
      | false => rfl
      | true => simp [askF, hn, hl, hh] at hx
    have : askF m n l = 192 := by simp [askF, hn, hl, hg]
    rw [this]
    obtain ⟨tv, lv, gv, rvs, h⟩ := h
    obtain ⟨g, o, c, rfl⟩ := h.tlit hn
    have := ask_some n l g o _ c h ok hn hl
    rw [hg] at this
    exact this

theorem ask_ok (n l : Int) (hx : askF m n l = 0) : m.is n = true ∧ m.isL l = true ∧ (m.th n).goes = true := by
  unfold askF at hx
  split at hx
  · omega
  · split at hx
    · omega
    · rename_i h1 h2
      refine ⟨?_, ?_, ?_⟩
      · cases hh : m.is n <;> simp_all
      · cases hh : m.isL l <;> simp_all
      · cases hh : (m.th n).goes <;> simp_all

set_option maxHeartbeats 800000 in
set_option maxRecDepth 100000 in
theorem lock_any (n l : Int) (h : Rep w B m F) (ok : Ok m) :
    Calls Tryd.prog 13 #[.pointer (some ⟨B, 0, none⟩), .int .i64 n, .int .i64 l] w fun e w' =>
      e = .returned (.tuple #[.bool (lockF m n l).1, .int .i64 (lockF m n l).2.1]) ∧ Did B F w w' (lockF m n l).2.2 := by
  have hst := Did.stay h
  unfold lockF
  by_cases hx : askF m n l ≠ 0
  · rw [if_pos hx]
    have HA := Lib.hid (ask_bad n l h ok hx)
    have HS := Lib.hid hst
    have hx' : (askF m n l != 0) = true := by simpa using hx
    generalize askF m n l = x at *
    clear h hst ok hx
    go_enter Tryd.func13, Tryd.ntmps13
    go_wp2_with (go_at_call 33; refine HA.out.mono ?_; rintro e w1 ⟨rfl, rfl⟩)
    go_ret2
    exact ⟨rfl, HS.out⟩
  · rw [if_neg hx]
    have hx : askF m n l = 0 := by simpa using hx
    obtain ⟨hn, hl, hg⟩ := ask_ok n l hx
    have hrl := row_len8 ok hl
    have hnl := ok.nl
    obtain ⟨tv, lv, gv, rvs, h⟩ := h
    obtain ⟨gt, ot, ct, rfl⟩ := h.tlit hn
    obtain ⟨gl, ol, cl, rfl⟩ := h.llit hl
    have ha := ask_some n l gt ot _ ct h ok hn hl
    rw [if_pos hg] at ha
    have HA := Lib.hid ha
    have b1 := h.b1
    obtain ⟨htlt, htF, hBt, t0, t1, t2, t3, t4, tf, tset⟩ := h.thr n hn
    obtain ⟨hllt, hlF, hBl, htl, hrv, l0, l1, lf, hrow, lho, lrow⟩ := h.lok l hl
    have hB := h.book.lt
    have HR := Lib.hid h
    have HN := Lib.hid hn
    have HL := Lib.hid hl
    rw [isL_iff] at hl
    obtain ⟨hl1, hl2⟩ := hl
    by_cases hh : (m.lo l).ho = n
    · rw [if_pos hh]
      have HS := Lib.hid hst
      rw [hh] at l0
      have e1 : (n == n) = true := by simp
      clear ok h hst ha hx hn hg hrl htF htlt t0 t1 t2 t3 t4 tf tset hrv l1 lf hrow lho lrow hh htl
      go_enter Tryd.func13, Tryd.ntmps13
      go_wp2_with (go_at_call 33; refine HA.out.mono ?_; rintro e w1 ⟨rfl, rfl⟩)
      go_ret2
      exact ⟨rfl, HS.out⟩
    · rw [if_neg hh]
      by_cases h0 : (m.lo l).ho = 0
      · rw [if_pos h0]
        rw [h0] at l0 hh
        have e1 : ((0 : Int) == n) = false := by simpa using hh
        have HD : Hid (Did B F w (w.setCell ⟨gl, ol + l.toNat * 2, none⟩ (.int .i64 n)) (m.setL l { m.lo l with ho := n })) :=
          Lib.hid ⟨F, ⟨_, _, _, _, lho n⟩, (Same.refl _ _).setCell (.inl hlF) _, fun _ hk => .inl hk⟩
        clear ok h hst ha hx hn hg hrl htF htlt t0 t1 t2 t3 t4 tf tset hrv l1 hrow lho lrow hh htl h0
        go_enter Tryd.func13, Tryd.ntmps13
        go_wp2_with (go_at_call 33; refine HA.out.mono ?_; rintro e w1 ⟨rfl, rfl⟩)
        go_ret2
        exact ⟨rfl, HD.out⟩
      · rw [if_neg h0]
        obtain ⟨ra, rc, hra, hrc, hrm, hrn⟩ := hrow.form
        have e1 : ((m.lo l).ho == n) = false := by simpa using hh
        have e2 : ((m.lo l).ho == 0) = false := by simpa using h0
        have HF := Lib.hid hrv
        have HRV := Lib.hid hra
        have HROW := Lib.hid hrow
        have HLR := Lib.hid lrow
        rw [hra] at l1
        have hx4 : w.cell? ⟨gt, ot + (n.toNat - 1) * 5 + 4, none⟩ = some (.int .i64 (m.th n).lk) := t4
        have HTF := Lib.hid htF
        have HLF := Lib.hid hlF
        have HTL := Lib.hid htl
        clear ok h hst ha hx hn hg htF hlF t0 t1 t2 t3 t4 tset hrv hrow lho lrow hh h0 hra htl
        go_enter Tryd.func13, Tryd.ntmps13
        go_wp2_with (first
          | (go_at_call 33; refine HA.out.mono ?_; rintro e w1 ⟨rfl, rfl⟩)
          | (at_builtin; refine wpList_append_row _ rfl (.tmp 46) (.tmp 48) 29 rfl 3 (.int .i64 0) 1 8 Tryd.underlying29 info3 rfl (by decide) (.slice ra (m.lo l).row.length rc) (m.lo l).row.length ((m.lo l).row.flatMap (nE .i64)) rfl ?hrow1 ⟨w.heap.size, 0, none⟩ 1 1 [.int .i64 n] rfl rfl ?c1 ?c2 ?b1 ?b2 ?K))
        case hrow1 => rw [← HRV.out]; exact HROW.out.alloc _
        case c1 => exact cell_one_new w (.int .i64 n) 3
        case c2 => intro u hu; simp at hu; subst hu; rfl
        case b1 => unfold maxLen; omega
        case b2 => omega
        case K =>
          intro v' w' hrow' hs hb
          have hs2 : Same (blk (rvs.getD l.toNat undef)) w w' := by rw [HRV.out]; exact ((Same.refl _ _).alloc _).trans hs
          have hb' : ∀ k ∈ blk v', k ∈ blk (rvs.getD l.toNat undef) ∨ w.heap.size ≤ k := fun k hk => by
            rcases hb k hk with h1 | h1
            · exact .inl (by rw [HRV.out]; exact h1)
            · exact .inr (by omega)
          obtain ⟨a', c', rfl, _, _, _⟩ := hrow'.form
          have k1 := (hs2.cell (b := gl) (o := ol + l.toNat * 2 + 1) hllt (fun hm => (HF.out _ hm).2.1 rfl)).trans l1
          have k2 := (hs2.cell (b := gt) (o := ot + (n.toNat - 1) * 5 + 4) htlt (fun hm => (HF.out _ hm).2.2.2 (by simp [blk]))).trans hx4
          have f1 : ∀ j, w'.frozen? ⟨gl, j, none⟩ = false := fun j => (hs2.frozen hllt (fun hm => (HF.out _ hm).2.1 rfl)).trans (lf j)
          have f2 : ∀ j, w'.frozen? ⟨gt, j, none⟩ = false := fun j => (hs2.frozen htlt (fun hm => (HF.out _ hm).2.2.2 (by simp [blk]))).trans (tf j)
          have hgg : gt ≠ gl := HTL.out gt (by simp [blk])
          have q1 := HLR.out w' _ ((m.lo l).row ++ [n]) hs2 hb' (by simpa [nE] using hrow')
          have q2 := (q1.thr n (show m.is n = true from HN.out)).2.2.2.2.2.2.2.2.2 4 (.int .i64 (l + 1)) { (m.setL l { m.lo l with row := (m.lo l).row ++ [n] }).th n with lk := l + 1 } (by omega) rfl
          have q3 : Did B F w ((w'.setCell ⟨gl, ol + l.toNat * 2 + 1, none⟩ (.slice a' ((m.lo l).row.length + 1) c')).setCell ⟨gt, ot + (n.toNat - 1) * 5 + 4, none⟩ (.int .i64 (l + 1))) ((m.setL l { m.lo l with row := (m.lo l).row ++ [n] }).setT n { m.th n with lk := l + 1 }) := by
            refine ⟨_, ⟨_, _, _, _, q2⟩, ((hs2.mono (fun x hx => .inl (HF.out x hx).1)).setCell (.inl HLF.out) _).setCell (.inl HTF.out) _, fun k hk => ?_⟩
            rcases List.mem_append.1 hk with hk | hk
            · exact .inl hk
            · rcases hb' k hk with h1 | h1
              · exact .inl (HF.out k h1).1
              · exact .inr h1
          have HD := Lib.hid q3
          clear hs hb hs2 hb' hrow' q1 q2 q3
          go_wp2
          go_ret2
          exact ⟨rfl, HD.out⟩

end Lk
end Go.Proofs.YtkfdoocmapjkbaaDoor
