/- Layer 19, package locks: Lock, hand, Unlock. -/
import Derived.Test.YtkfdoocmapjkbaaDoorLkW1
namespace Go.Proofs.YtkfdoocmapjkbaaDoor
open Go.RowKit Hp
namespace Lk
variable {w w' : World} {B : Nat} {m : Bk} {F : List Nat} {tv lv gv : Value} {rvs : List Value}

theorem Did.of {w w1 : World} {F F' : List Nat} {m' : Bk} (h : Rep w1 B m' F') (hs : Same F w w1) (hF : ∀ k ∈ F', k ∈ F ∨ w.heap.size ≤ k) : Did B F w w1 m' := ⟨F', h, hs, hF⟩

theorem nodup_len : ∀ (k : Nat) (l : List Int), l.Nodup → (∀ t ∈ l, 1 ≤ t ∧ t ≤ k) → l.length ≤ k
  | 0, l, _, h => by
    cases l with
    | nil => simp
    | cons t l => have := h t (by simp); omega
  | k + 1, l, hn, h => by
    have h1 : ∀ t ∈ l.erase (k + 1 : Int), 1 ≤ t ∧ t ≤ k := fun t ht => by
      have h2 := h t (List.mem_of_mem_erase ht)
      have : t ≠ k + 1 := fun e => by subst e; exact (List.Nodup.not_mem_erase hn) ht
      omega
    have := nodup_len k (l.erase (k + 1 : Int)) (hn.erase _) h1
    rw [List.length_erase] at this
    split at this <;> omega

theorem row_len8 (ok : Ok m) {l : Int} (hl : m.isL l = true) : (m.lo l).row.length ≤ 8 :=
  nodup_len 8 _ (ok.rowNo l hl) (fun t ht => by
    have := (is_iff m t).1 (ok.rowIn l t hl ht).1
    have := ok.nt
    omega)

set_option maxHeartbeats 800000 in
set_option maxRecDepth 100000 in
theorem find_yes (n : Int) (g o k c : Nat) (h : RepI w B m F (.slice (some ⟨g, o, none⟩) k c) lv gv rvs) (hnt : m.ths.length ≤ 8) (hn : m.is n = true) :
    Calls Tryd.prog 31 #[.pointer (some ⟨B, 0, none⟩), .int .i64 n] w fun e w' => e = .returned (.pointer (some ⟨g, o + (n.toNat - 1) * 5, none⟩)) ∧ w = w' := by
  have b0 := h.b0
  obtain rfl := h.tk
  rw [is_iff] at hn
  obtain ⟨hn1, hn2⟩ := hn
  clear h
  go_enter Tryd.func31, Tryd.ntmps31
  go_wp2
  go_ret
  exact ⟨rfl, rfl⟩

set_option maxHeartbeats 800000 in
set_option maxRecDepth 100000 in
theorem find_no (n : Int) (h : RepI w B m F tv lv gv rvs) (hnt : m.ths.length ≤ 8) (hn : m.is n = false) :
    Calls Tryd.prog 31 #[.pointer (some ⟨B, 0, none⟩), .int .i64 n] w fun e w' => e = .returned (.pointer none) ∧ w = w' := by
  obtain ⟨a, c, rfl⟩ := h.tform
  have b0 := h.b0
  have hn' : ¬ (1 ≤ n ∧ n ≤ m.ths.length) := fun hc => by simp [Bk.is, hc] at hn
  clear h hn
  rcases Int.lt_or_le n 1 with h0 | h0
  · clear hn'
    go_enter Tryd.func31, Tryd.ntmps31
    go_wp2
    go_ret
    exact ⟨rfl, rfl⟩
  · have h1 : (m.ths.length : Int) < n := by omega
    clear hn'
    go_enter Tryd.func31, Tryd.ntmps31
    go_wp2
    go_ret
    exact ⟨rfl, rfl⟩

set_option maxHeartbeats 800000 in
set_option maxRecDepth 100000 in
/-- A thread or a lock that is none. -/
theorem ask_none (n l : Int) (h : Rep w B m F) (ok : Ok m) (hx : m.is n = false ∨ m.isL l = false) :
    Calls Tryd.prog 33 #[.pointer (some ⟨B, 0, none⟩), .int .i64 n, .int .i64 l] w fun e w' => e = .returned (.tuple #[.pointer none, .int .i64 190]) ∧ w = w' := by
  have hnt := ok.nt
  have hnl := ok.nl
  clear ok
  obtain ⟨tv, lv, gv, rvs, h⟩ := h
  obtain ⟨a, c, rfl⟩ := h.tform
  obtain ⟨a', c', rfl⟩ := h.lform
  have b0 := h.b0
  have b1 := h.b1
  by_cases hn : m.is n = true
  · obtain ⟨g, o, c2, e⟩ := h.tlit hn
    rw [e] at b0
    clear e
    rw [is_iff] at hn
    obtain ⟨hn1, hn2⟩ := hn
    have hl : ¬ (0 ≤ l ∧ l < m.lks.length) := fun hc => by
      rcases hx with hx | hx
      · simp [Bk.is, hn1, hn2] at hx
      · simp [Bk.isL, hc] at hx
    clear h hx
    rcases Int.lt_or_le l 0 with h0 | h0
    · clear hl
      go_enter Tryd.func33, Tryd.ntmps33
      go_wp2
      go_ret2
      exact ⟨rfl, rfl⟩
    · have h1 : (m.lks.length : Int) ≤ l := by omega
      clear hl
      go_enter Tryd.func33, Tryd.ntmps33
      go_wp2
      go_ret2
      exact ⟨rfl, rfl⟩
  · rw [is_iff] at hn
    clear h hx
    rcases Int.lt_or_le n 1 with h0 | h0
    · clear hn
      go_enter Tryd.func33, Tryd.ntmps33
      go_wp2
      go_ret2
      exact ⟨rfl, rfl⟩
    · have h1 : (m.ths.length : Int) < n := by omega
      clear hn
      go_enter Tryd.func33, Tryd.ntmps33
      go_wp2
      go_ret2
      exact ⟨rfl, rfl⟩

set_option maxHeartbeats 800000 in
set_option maxRecDepth 100000 in
theorem goes_any (g o : Nat) (t : Th) (w : World) (t0 : w.cell? ⟨g, o, none⟩ = some (.bool t.en)) (t3 : w.cell? ⟨g, o + 3, none⟩ = some (.int .i64 t.fin)) (t4 : w.cell? ⟨g, o + 4, none⟩ = some (.int .i64 t.lk)) :
    Calls Tryd.prog 34 #[.pointer (some ⟨g, o, none⟩)] w fun e w' => e = .returned (.bool t.goes) ∧ w = w' := by
  unfold Th.goes Th.waits
  by_cases he : t.en = true
  · rw [he] at t0 ⊢
    go_enter Tryd.func34, Tryd.ntmps34
    go_wp2
    go_ret
    exact ⟨rfl, rfl⟩
  · have he' : t.en = false := by simpa using he
    rw [he'] at t0 ⊢
    by_cases hf : t.fin = 0
    · rw [hf] at t3 ⊢
      go_enter Tryd.func34, Tryd.ntmps34
      go_wp2
      go_ret
      exact ⟨rfl, rfl⟩
    · have hf' : (t.fin != 0) = true := by simpa using hf
      rw [hf']
      clear hf
      go_enter Tryd.func34, Tryd.ntmps34
      go_wp2
      go_ret
      exact ⟨rfl, rfl⟩

set_option maxHeartbeats 800000 in
set_option maxRecDepth 100000 in
/-- A thread and a lock that are there: does the thread go? -/
theorem ask_some (n l : Int) (g o k c : Nat) (h : RepI w B m F (.slice (some ⟨g, o, none⟩) k c) lv gv rvs) (ok : Ok m) (hn : m.is n = true) (hl : m.isL l = true) :
    Calls Tryd.prog 33 #[.pointer (some ⟨B, 0, none⟩), .int .i64 n, .int .i64 l] w fun e w' =>
      e = .returned (.tuple (if (m.th n).goes then #[.pointer (some ⟨g, o + (n.toNat - 1) * 5, none⟩), .int .i64 0] else #[.pointer none, .int .i64 192])) ∧ w = w' := by
  have hnt := ok.nt
  have hnl := ok.nl
  clear ok
  have b0 := h.b0
  have b1 := h.b1
  obtain ⟨a', c', e⟩ := h.lform
  rw [e] at b1
  obtain rfl := h.tk
  obtain ⟨_, _, _, t0, t1, t2, t3, t4, _⟩ := h.thr n hn
  have HG := Lib.hid (goes_any g _ (m.th n) w t0 t3 t4)
  have HF := Lib.hid (find_yes n g o _ c h hnt hn)
  rw [is_iff] at hn
  rw [isL_iff] at hl
  obtain ⟨hn1, hn2⟩ := hn
  obtain ⟨hl1, hl2⟩ := hl
  clear h e t0 t1 t2 t3 t4
  by_cases hg : (m.th n).goes = true
  · rw [if_pos hg]
    rw [hg] at HG
    clear hg
    go_enter Tryd.func33, Tryd.ntmps33
    go_wp2_with (first | (go_at_call 31; refine HF.out.mono ?_; rintro e w1 ⟨rfl, rfl⟩) | (go_at_call 34; refine HG.out.mono ?_; rintro e w1 ⟨rfl, rfl⟩))
    go_ret2
    exact ⟨rfl, rfl⟩
  · rw [if_neg hg]
    have hg' : (m.th n).goes = false := by simpa using hg
    rw [hg'] at HG
    clear hg hg'
    go_enter Tryd.func33, Tryd.ntmps33
    go_wp2_with (first | (go_at_call 31; refine HF.out.mono ?_; rintro e w1 ⟨rfl, rfl⟩) | (go_at_call 34; refine HG.out.mono ?_; rintro e w1 ⟨rfl, rfl⟩))
    go_ret2
    exact ⟨rfl, rfl⟩

end Lk
end Go.Proofs.YtkfdoocmapjkbaaDoor
