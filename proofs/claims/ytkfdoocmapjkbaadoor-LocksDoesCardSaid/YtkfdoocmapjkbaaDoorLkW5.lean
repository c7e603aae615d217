/- Layer 19, package locks: Unlock, Join. -/
import Derived.Test.YtkfdoocmapjkbaaDoorLkW4
namespace Go.Proofs.YtkfdoocmapjkbaaDoor
open Go.RowKit Hp
namespace Lk
variable {w w' : World} {B : Nat} {m : Bk} {F : List Nat} {tv lv gv : Value} {rvs : List Value}

theorem Did.drew {w w1 : World} {m' : Bk} (h : Did B F w w1 m') : Did B F w w1.drew m' := by
  obtain ⟨F', ⟨tv', lv', gv', rv', hr1⟩, hr2, hr3⟩ := h
  exact ⟨F', ⟨tv', lv', gv', rv', hr1.drew⟩, hr2.drew, hr3⟩

set_option maxHeartbeats 800000 in
set_option maxRecDepth 100000 in
theorem unlock_any (n l : Int) (h : Rep w B m F) (ok : Ok m) :
    Calls Tryd.prog 25 #[.pointer (some ⟨B, 0, none⟩), .int .i64 n, .int .i64 l] w fun e w' =>
      e = .returned (.tuple #[.int .i64 (unlockF m n l).1, .int .i64 (unlockF m n l).2.1]) ∧ Did B F w w' (unlockF m n l).2.2 := by
  have hst := Did.stay h
  unfold unlockF
  by_cases hx : askF m n l ≠ 0
  · rw [if_pos hx]
    have HA := Lib.hid (ask_bad n l h ok hx)
    have HS := Lib.hid hst
    have hx' : (askF m n l != 0) = true := by simpa using hx
    generalize askF m n l = x at *
    clear h hst ok hx
    go_enter Tryd.func25, Tryd.ntmps25
    go_wp2_with (go_at_call 33; refine HA.out.mono ?_; rintro e w1 ⟨rfl, rfl⟩)
    go_ret2
    exact ⟨rfl, HS.out⟩
  · rw [if_neg hx]
    have hx : askF m n l = 0 := by simpa using hx
    obtain ⟨hn, hl, hg⟩ := ask_ok n l hx
    have HH := Lib.hid (hand_any l h ok.nl ok.nt hl (row_len8 ok hl) (fun t ht => (ok.rowIn l t hl ht).1))
    have hnl := ok.nl
    obtain ⟨tv, lv, gv, rvs, h⟩ := h
    obtain ⟨gt, ot, ct, rfl⟩ := h.tlit hn
    obtain ⟨gl, ol, cl, rfl⟩ := h.llit hl
    have ha := ask_some n l gt ot _ ct h ok hn hl
    rw [if_pos hg] at ha
    have HA := Lib.hid ha
    have b1 := h.b1
    obtain ⟨-, -, -, -, -, l0, -⟩ := h.lok l hl
    rw [isL_iff] at hl
    obtain ⟨hl1, hl2⟩ := hl
    by_cases hh : (m.lo l).ho ≠ n
    · rw [if_pos hh]
      have HS := Lib.hid hst
      have e1 : ((m.lo l).ho != n) = true := by simpa using hh
      clear ok h hst ha hx hn hg hh HH
      go_enter Tryd.func25, Tryd.ntmps25
      go_wp2_with (go_at_call 33; refine HA.out.mono ?_; rintro e w1 ⟨rfl, rfl⟩)
      go_ret2
      exact ⟨rfl, HS.out⟩
    · rw [if_neg hh]
      have hh : (m.lo l).ho = n := by simpa using hh
      rw [hh] at l0
      have e1 : (n != n) = false := by simp
      clear ok h hst ha hx hn hg hh
      go_enter Tryd.func25, Tryd.ntmps25
      go_wp2_with (first | (go_at_call 33; refine HA.out.mono ?_; rintro e w1 ⟨rfl, rfl⟩) | (go_at_call 68; refine HH.out.mono ?_; rintro e w2 ⟨rfl, hd⟩))
      go_ret2
      exact ⟨rfl, hd⟩

set_option maxHeartbeats 800000 in
set_option maxRecDepth 100000 in
theorem join_any (n f : Int) (h : Rep w B m F) (ok : Ok m) :
    Calls Tryd.prog 16 #[.pointer (some ⟨B, 0, none⟩), .int .i64 n, .int .i64 f] w fun e w' =>
      e = .returned (.tuple #[.int .u64 (joinF m n f).1, .bool (joinF m n f).2.1, .int .i64 (joinF m n f).2.2.1]) ∧ Did B F w w' (joinF m n f).2.2.2 := by
  have hst := Did.stay h
  have hnt := ok.nt
  clear ok
  unfold joinF
  obtain ⟨tv, lv, gv, rvs, h⟩ := h
  by_cases hn : m.is n = true
  case neg =>
    have hn : m.is n = false := by simpa using hn
    rw [if_pos (.inl hn)]
    have HS := Lib.hid hst
    have H1 := Lib.hid (find_no n h hnt hn)
    have H2 : Hid (∃ p, Calls Tryd.prog 31 #[.pointer (some ⟨B, 0, none⟩), .int .i64 f] w fun e w' => e = .returned (.pointer p) ∧ w = w') := by
      by_cases hf : m.is f = true
      · obtain ⟨gt, ot, ct, rfl⟩ := h.tlit hf
        exact ⟨_, find_yes f gt ot _ ct h hnt hf⟩
      · exact ⟨_, find_no f h hnt (by simpa using hf)⟩
    obtain ⟨p, H2⟩ := H2.out
    have H2 := Lib.hid H2
    clear h hst hn
    go_enter Tryd.func16, Tryd.ntmps16
    go_wp2_with fail
    refine H1.out.mono ?_; rintro e w1 ⟨rfl, rfl⟩
    go_wp2_with fail
    refine H2.out.mono ?_; rintro e w1 ⟨rfl, rfl⟩
    go_wp2
    go_ret3
    exact ⟨rfl, HS.out⟩
  case pos =>
  obtain ⟨gt, ot, ct, rfl⟩ := h.tlit hn
  have H1 := Lib.hid (find_yes n gt ot _ ct h hnt hn)
  by_cases hf : m.is f = true
  case neg =>
    have hf : m.is f = false := by simpa using hf
    rw [if_pos (.inr hf)]
    have HS := Lib.hid hst
    have H2 := Lib.hid (find_no f h hnt hf)
    clear h hst hn hf
    go_enter Tryd.func16, Tryd.ntmps16
    go_wp2_with fail
    refine H1.out.mono ?_; rintro e w1 ⟨rfl, rfl⟩
    go_wp2_with fail
    refine H2.out.mono ?_; rintro e w1 ⟨rfl, rfl⟩
    go_wp2
    go_ret3
    exact ⟨rfl, HS.out⟩
  case pos =>
  rw [if_neg (by simp [hn, hf])]
  have H2 := Lib.hid (find_yes f gt ot _ ct h hnt hf)
  obtain ⟨htlt, htF, hBt, t0, t1, t2, t3, t4, tf, tset⟩ := h.thr n hn
  obtain ⟨-, -, -, s0, s1, s2, -, -, -, -⟩ := h.thr f hf
  have HG := Lib.hid (goes_any gt _ (m.th n) w t0 t3 t4)
  by_cases hg : (m.th n).goes = false
  · rw [if_pos hg]
    rw [hg] at HG
    have HS := Lib.hid hst
    clear h hst hn hf t0 t1 t2 t3 t4 s0 s1 s2 tset hg
    go_enter Tryd.func16, Tryd.ntmps16
    go_wp2_with fail
    refine H1.out.mono ?_; rintro e w1 ⟨rfl, rfl⟩
    go_wp2_with fail
    refine H2.out.mono ?_; rintro e w1 ⟨rfl, rfl⟩
    go_wp2_with (go_at_call 34; refine HG.out.mono ?_; rintro e w1 ⟨rfl, rfl⟩)
    go_ret3
    exact ⟨rfl, HS.out⟩
  · rw [if_neg hg]
    have hg : (m.th n).goes = true := by simpa using hg
    rw [hg] at HG
    by_cases hs : n = f
    · rw [if_pos hs]
      have HS := Lib.hid hst
      have e1 : (n == f) = true := by simpa using hs
      clear h hst hn hf t0 t1 t2 t3 t4 s0 s1 s2 tset hg hs
      go_enter Tryd.func16, Tryd.ntmps16
      go_wp2_with fail
      refine H1.out.mono ?_; rintro e w1 ⟨rfl, rfl⟩
      go_wp2_with fail
      refine H2.out.mono ?_; rintro e w1 ⟨rfl, rfl⟩
      go_wp2_with (go_at_call 34; refine HG.out.mono ?_; rintro e w1 ⟨rfl, rfl⟩)
      go_ret3
      exact ⟨rfl, HS.out⟩
    · rw [if_neg hs]
      have e1 : (n == f) = false := by simpa using hs
      by_cases he : (m.th f).en = true
      · rw [if_pos he]
        rw [he] at s0
        have HS := Lib.hid hst
        clear h hst hn hf t0 t1 t2 t3 t4 tset hg hs he
        go_enter Tryd.func16, Tryd.ntmps16
        go_wp2_with fail
        refine H1.out.mono ?_; rintro e w1 ⟨rfl, rfl⟩
        go_wp2_with fail
        refine H2.out.mono ?_; rintro e w1 ⟨rfl, rfl⟩
        go_wp2_with (go_at_call 34; refine HG.out.mono ?_; rintro e w1 ⟨rfl, rfl⟩)
        go_region
        go_wp2
        go_ret3
        exact ⟨rfl, HS.out.drew⟩
      · rw [if_neg he]
        have he : (m.th f).en = false := by simpa using he
        rw [he] at s0
        have HD : Hid (Did B F w (w.setCell ⟨gt, ot + (n.toNat - 1) * 5 + 3, none⟩ (.int .i64 f)) (m.setT n { m.th n with fin := f })) :=
          Lib.hid ⟨F, ⟨_, _, _, _, tset 3 (.int .i64 f) { m.th n with fin := f } (by omega) rfl⟩, (Same.refl _ _).setCell (.inl htF) _, fun _ hk => .inl hk⟩
        clear h hst hn hf tset hg hs he
        go_enter Tryd.func16, Tryd.ntmps16
        go_wp2_with fail
        refine H1.out.mono ?_; rintro e w1 ⟨rfl, rfl⟩
        go_wp2_with fail
        refine H2.out.mono ?_; rintro e w1 ⟨rfl, rfl⟩
        go_wp2_with (go_at_call 34; refine HG.out.mono ?_; rintro e w1 ⟨rfl, rfl⟩)
        go_ret3
        exact ⟨rfl, HD.out⟩

end Lk
end Go.Proofs.YtkfdoocmapjkbaaDoor
