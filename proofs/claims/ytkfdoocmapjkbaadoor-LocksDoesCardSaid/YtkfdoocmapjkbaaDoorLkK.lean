/- Layer 19: what one book's life is; SameInts; the closed sentence at every statement's head. -/
import Derived.Test.YtkfdoocmapjkbaaDoorLkP2
namespace Go.Proofs.YtkfdoocmapjkbaaDoor
open Go.RowKit Hp
namespace Lk
variable {w w' W : World} {B : Nat} {m m' : Bk} {F : List Nat}

/-- A book of package locks that was made since w, and stands as m. -/
structure Own (w W : World) (B : Nat) (m : Bk) (F : List Nat) : Prop where
  ok : Ok m
  rep : Rep W B m F
  new : ∀ k ∈ F, w.heap.size ≤ k

theorem Rep.lt (h : Rep W B m F) : ∀ k ∈ F, k < W.heap.size := by obtain ⟨_, _, _, _, h⟩ := h; exact h.lt
theorem Rep.inF (h : Rep W B m F) : B ∈ F := by obtain ⟨_, _, _, _, h⟩ := h; exact h.fB

/-- From F to F': nothing else that was there has changed; what is new in F' is new. -/
structure Upd (F F' : List Nat) (W W' : World) : Prop where
  same : Same F W W'
  new : ∀ k ∈ F', k ∈ F ∨ W.heap.size ≤ k

theorem Upd.refl (F : List Nat) (W : World) : Upd F F W W := ⟨Same.refl _ _, fun _ h => .inl h⟩
theorem Upd.since {F F' : List Nat} {W' : World} (u : Upd F F' W W') (h : Same [] w W) (hF : ∀ k ∈ F, w.heap.size ≤ k) : Same [] w W' := h.trans' u.same (fun k hk => .inr (hF k hk))
/-- What lies apart from F lies apart from F'. -/
theorem Upd.apart {F F' G : List Nat} {W' : World} (u : Upd F F' W W') (hd : ∀ k ∈ G, k ∉ F) (hlt : ∀ k ∈ G, k < W.heap.size) : ∀ k ∈ G, k ∉ F' := fun k hk hm => by
  rcases u.new k hm with h | h
  · exact hd k hk h
  · have := hlt k hk; omega
theorem Upd.row {F F' : List Nat} {W' : World} (u : Upd F F' W W') {e s n : Nat} {v : Value} {xs : List Value} (h : Row W e s v n xs) (hd : ∀ k ∈ blk v, k ∉ F) : Row W' e s v n xs ∧ ∀ k ∈ blk v, k ∉ F' :=
  ⟨h.frame u.same hd, u.apart hd h.lt⟩
theorem Upd.rep {F F' G : List Nat} {W' : World} (u : Upd F F' W W') {B2 : Nat} {m2 : Bk} (h : Rep W B2 m2 G) (hd : ∀ k ∈ G, k ∉ F) : Rep W' B2 m2 G ∧ ∀ k ∈ G, k ∉ F' :=
  ⟨h.frame u.same hd, u.apart hd h.lt⟩
theorem Own.frame {W' : World} {G : List Nat} (h : Own w W B m F) (hs : Same G W W') (hd : ∀ k ∈ F, k ∉ G) : Own w W' B m F := ⟨h.ok, h.rep.frame hs hd, h.new⟩

theorem Own.did {W' : World} (h : Own w W B m F) (hw : w.heap.size ≤ W.heap.size) (ok : Ok m') (hd : Did B F W W' m') : ∃ F', Own w W' B m' F' ∧ Upd F F' W W' := by
  obtain ⟨F', g1, g2, g3⟩ := hd
  exact ⟨F', ⟨ok, g1, fun k hk => by
    rcases g3 k hk with h1 | h1
    · exact h.new k h1
    · omega⟩, g2, g3⟩

theorem own_new (l g : Nat) (hl : l ≤ 8) (hg : g ≤ 64) (hw : w.heap.size ≤ W.heap.size) (hb : Bnd W) : Calls Tryd.prog 8 #[.int .i64 l, .int .i64 g] W fun e w' =>
    ∃ B F, e = .returned (.tuple #[.pointer (some ⟨B, 0, none⟩), .int .i64 0]) ∧ Own w w' B (newM l g) F ∧ Upd [] F W w' := by
  refine (new_ok l g hl hg hb).mono ?_
  rintro e w1 ⟨B, F, rfl, h1, h2, h3⟩
  exact ⟨B, F, rfl, ⟨newM_ok l g hl hg, h1, fun k hk => Nat.le_trans hw (h3 k hk)⟩, h2, fun k hk => .inr (h3 k hk)⟩

theorem own_start (h : Own w W B m F) (hw : w.heap.size ≤ W.heap.size)  (a : Int) (b : Int) (m' : Bk) (e : start m = (a, b, m')) :
    Calls Tryd.prog 9 #[.pointer (some ⟨B, 0, none⟩)] W fun en w' => en = .returned (.tuple #[.int .i64 a, .int .i64 b]) ∧ ∃ F', Own w w' B m' F' ∧ Upd F F' W w' := by
  refine (start_any h.rep h.ok.nt).mono ?_
  rintro en w1 ⟨rfl, hd⟩
  have ok' := h.ok.start
  rw [e] at hd ok' ⊢
  exact ⟨rfl, h.did hw ok' hd⟩

theorem own_lock (h : Own w W B m F) (hw : w.heap.size ≤ W.heap.size) (n l : Int) (a : Bool) (b : Int) (m' : Bk) (e : lockF m n l = (a, b, m')) :
    Calls Tryd.prog 13 #[.pointer (some ⟨B, 0, none⟩), .int .i64 n, .int .i64 l] W fun en w' => en = .returned (.tuple #[.bool a, .int .i64 b]) ∧ ∃ F', Own w w' B m' F' ∧ Upd F F' W w' := by
  refine (lock_any n l h.rep h.ok).mono ?_
  rintro en w1 ⟨rfl, hd⟩
  have ok' := h.ok.lock n l
  rw [e] at hd ok' ⊢
  exact ⟨rfl, h.did hw ok' hd⟩

theorem own_unlock (h : Own w W B m F) (hw : w.heap.size ≤ W.heap.size) (n l : Int) (a : Int) (b : Int) (m' : Bk) (e : unlockF m n l = (a, b, m')) :
    Calls Tryd.prog 25 #[.pointer (some ⟨B, 0, none⟩), .int .i64 n, .int .i64 l] W fun en w' => en = .returned (.tuple #[.int .i64 a, .int .i64 b]) ∧ ∃ F', Own w w' B m' F' ∧ Upd F F' W w' := by
  refine (unlock_any n l h.rep h.ok).mono ?_
  rintro en w1 ⟨rfl, hd⟩
  have ok' := h.ok.unlock n l
  rw [e] at hd ok' ⊢
  exact ⟨rfl, h.did hw ok' hd⟩

theorem own_join (h : Own w W B m F) (hw : w.heap.size ≤ W.heap.size) (n f : Int) (x : Int) (a : Bool) (b : Int) (m' : Bk) (e : joinF m n f = (x, a, b, m')) :
    Calls Tryd.prog 16 #[.pointer (some ⟨B, 0, none⟩), .int .i64 n, .int .i64 f] W fun en w' => en = .returned (.tuple #[.int .u64 x, .bool a, .int .i64 b]) ∧ ∃ F', Own w w' B m' F' ∧ Upd F F' W w' := by
  refine (join_any n f h.rep h.ok).mono ?_
  rintro en w1 ⟨rfl, hd⟩
  have ok' := h.ok.join n f
  rw [e] at hd ok' ⊢
  exact ⟨rfl, h.did hw ok' hd⟩

theorem own_setGlobal (h : Own w W B m F) (hw : w.heap.size ≤ W.heap.size) (i y : Int) (a : Int) (b : Int) (m' : Bk) (e : setGlobalF m i y = (a, b, m')) :
    Calls Tryd.prog 43 #[.pointer (some ⟨B, 0, none⟩), .int .i64 i, .int .u64 y] W fun en w' => en = .returned (.tuple #[.int .u64 a, .int .i64 b]) ∧ ∃ F', Own w w' B m' F' ∧ Upd F F' W w' := by
  refine (setGlobal_any i y h.rep h.ok.ng).mono ?_
  rintro en w1 ⟨rfl, hd⟩
  have ok' := h.ok.setGlobal i y
  rw [e] at hd ok' ⊢
  exact ⟨rfl, h.did hw ok' hd⟩

theorem own_end (h : Own w W B m F) (hw : w.heap.size ≤ W.heap.size) (n x e : Int) (l : List Int) (b : Int) (m' : Bk) (he : endF m n x e = (l, b, m')) :
    Calls Tryd.prog 26 #[.pointer (some ⟨B, 0, none⟩), .int .i64 n, .int .u64 x, .int .i64 e] W fun en w' =>
      ∃ v F', en = .returned (.tuple #[v, .int .i64 b]) ∧ Own w w' B m' F' ∧ Upd F F' W w' ∧ Row w' 3 1 v l.length (l.flatMap (nE .i64)) ∧ ∀ k ∈ blk v, W.heap.size ≤ k ∧ k ∉ F' := by
  have ok := h.ok
  unfold endF at he
  by_cases hn : m.is n = false
  · rw [if_pos hn] at he
    injection he with e1 e2
    injection e2 with e2 e3
    subst e1 e2 e3
    have := end_bad n x e h.rep ok (.inl hn)
    rw [if_pos hn] at this
    refine this.mono ?_
    rintro en w1 ⟨rfl, rfl⟩
    exact ⟨_, F, rfl, h, Upd.refl _ _, Row.nil _ _ _, by simp [blk]⟩
  · rw [if_neg hn] at he
    have hn' : m.is n = true := by simpa using hn
    by_cases hg : (m.th n).goes = false
    · rw [if_pos hg] at he
      injection he with e1 e2
      injection e2 with e2 e3
      subst e1 e2 e3
      have := end_bad n x e h.rep ok (.inr hg)
      rw [if_neg hn] at this
      refine this.mono ?_
      rintro en w1 ⟨rfl, rfl⟩
      exact ⟨_, F, rfl, h, Upd.refl _ _, Row.nil _ _ _, by simp [blk]⟩
    · rw [if_neg hg] at he
      have hg' : (m.th n).goes = true := by simpa using hg
      injection he with e1 e2
      injection e2 with e2 e3
      subst e1 e2 e3
      refine (end_ok n x e h.rep ok hn' hg').mono ?_
      rintro en w1 ⟨v, rfl, F', g1, g2, g3, g4, g5⟩
      rw [endL_eq ok x e hn' hg'] at g4
      exact ⟨v, F', rfl, ⟨ok.ended x e hn' hg', g1, fun k hk => by
        rcases g3 k hk with h1 | h1
        · exact h.new k h1
        · omega⟩, ⟨g2, g3⟩, g4, g5⟩

theorem own_global (h : Own w W B m F) (i a b : Int) (e : globalF m i = (a, b)) : Calls Tryd.prog 27 #[.pointer (some ⟨B, 0, none⟩), .int .i64 i] W fun en w' => en = .returned (.tuple #[.int .u64 a, .int .i64 b]) ∧ W = w' := by
  have := global_any i h.rep h.ok.ng
  rw [e] at this
  exact this

theorem own_waits (h : Own w W B m F) (n : Int) (a : Bool) (e : waitsF m n = a) : Calls Tryd.prog 12 #[.pointer (some ⟨B, 0, none⟩), .int .i64 n] W fun en w' => en = .returned (.bool a) ∧ W = w' := by
  have := waits_any n h.rep h.ok.nt
  rw [e] at this
  exact this

theorem own_holder (h : Own w W B m F) (l a : Int) (e : holderF m l = a) : Calls Tryd.prog 18 #[.pointer (some ⟨B, 0, none⟩), .int .i64 l] W fun en w' => en = .returned (.int .i64 a) ∧ W = w' := by
  have := holder_any l h.rep h.ok.nl
  rw [e] at this
  exact this

theorem own_stuck (h : Own w W B m F) (l : List Int) (e : stuckF m = l) : Calls Tryd.prog 22 #[.pointer (some ⟨B, 0, none⟩)] W fun en w' =>
    ∃ v, en = .returned v ∧ Own w w' B m F ∧ Same [] W w' ∧ Row w' 3 1 v l.length (l.flatMap (nE .i64)) ∧ ∀ k ∈ blk v, W.heap.size ≤ k := by
  refine (stuck_any h.rep h.ok (h.rep.lt B h.rep.inF)).mono ?_
  rintro en w1 ⟨v, rfl, g1, g2, g3⟩
  rw [e] at g1
  exact ⟨v, rfl, h.frame g2 (by simp), g2, g1, g3⟩

set_option maxHeartbeats 800000 in
set_option maxRecDepth 100000 in
theorem same_ints (xs ys : List Int) (a b : Value) (ha : Row W 3 1 a xs.length (xs.flatMap (nE .i64))) (hb : Row W 3 1 b ys.length (ys.flatMap (nE .i64))) (hx : xs.length ≤ 1000000) (hy : ys.length ≤ 1000000) :
    Calls Tryd.prog 28 #[a, b] W fun en w' => en = .returned (.bool (decide (xs = ys))) ∧ Same [] W w' := by
  obtain ⟨aa, ac, rfl, -, -, -⟩ := ha.form
  obtain ⟨ba, bc, rfl, -, -, -⟩ := hb.form
  by_cases hl : xs.length = ys.length
  · have e1 : ((xs.length : Int) != (xs.length : Int)) = false := by simp
    have HX := Lib.hid ha
    have HY := Lib.hid hb
    rw [← hl] at HY ⊢
    obtain ⟨n, hn⟩ : ∃ n, n = xs.length := ⟨_, rfl⟩
    rw [← hn] at hx HX HY ⊢
    have HN := Lib.hid hn
    have HL := Lib.hid hl
    clear ha hb hn hl hy e1
    go_enter Tryd.func28, Tryd.ntmps28
    go_wp2
    go_loopw [5] (fun c wr => ∃ k : Nat, k ≤ n ∧ c = .int .i64 k ∧ xs.take k = ys.take k ∧ Same [] W wr) (fun c _ => n - (intOf c).toNat)
    case atStart => exact ⟨0, Nat.zero_le _, rfl, rfl, Same.refl _ _⟩
    case round =>
      obtain ⟨k, hk, rfl, htk, hs⟩ := hrel
      have HT := Lib.hid htk
      have HS := Lib.hid hs
      by_cases hlt : k < n
      · have hx1 := HX.out.frame hs (by simp)
        have hy1 := HY.out.frame hs (by simp)
        obtain ⟨ga, oa, ca, ea, -, -, hca, -⟩ := hx1.at_ (by omega)
        obtain ⟨gb, ob, cb, eb, -, -, hcb, -⟩ := hy1.at_ (by omega)
        injection ea with ea _ ea2
        injection eb with eb _ eb2
        subst ea eb
        have ka := hca k (by omega)
        have kb := hcb k (by omega)
        rw [word_get _ _ (by rw [← HN.out]; exact hlt)] at ka
        rw [word_get _ _ (by rw [← HL.out, ← HN.out]; exact hlt)] at kb
        have htx : xs.take (k + 1) = xs.take k ++ [xs.getD k 0] := by
          have : k < xs.length := by rw [← HN.out]; exact hlt
          rw [List.take_succ_eq_append_getElem this]; simp [List.getD, this]
        have hty : ys.take (k + 1) = ys.take k ++ [ys.getD k 0] := by
          have : k < ys.length := by rw [← HL.out, ← HN.out]; exact hlt
          rw [List.take_succ_eq_append_getElem this]; simp [List.getD, this]
        have HTX := Lib.hid htx
        have HTY := Lib.hid hty
        have hne : xs.getD k 0 ≠ ys.getD k 0 → xs ≠ ys := fun h e => h (by rw [e])
        have HNE := Lib.hid hne
        clear htk hs hx1 hy1 hca hcb ea2 eb2 htx hty hne
        generalize xs.getD k 0 = x at *
        generalize ys.getD k 0 = y at *
        by_cases hxy : x = y
        · have e2 : (x != y) = false := by simpa using hxy
          have hk2 : Hid (xs.take (k + 1) = ys.take (k + 1)) := by rw [HTX.out, HTY.out, HT.out, hxy]; rfl
          clear hxy
          go_wp2
          go_region
          go_wp2
          go_roundw
          case rel => exact ⟨k + 1, by omega, by go_num, hk2.out, HS.out.drew⟩
          case measure => simp [intOf]; omega
        · have e2 : (x != y) = true := by simpa using hxy
          have hd : Hid (decide (xs = ys) = false) := Lib.hid (by simpa using HNE.out hxy)
          clear hxy
          go_wp2
          go_region
          go_wp2
          go_ret
          exact ⟨by rw [hd.out]; rfl, HS.out.drew⟩
      · have hd : Hid (decide (xs = ys) = true) := Lib.hid (by
          have h1 : k = n := by omega
          have h2 := HT.out
          rw [h1, HN.out, List.take_length, HL.out, List.take_length] at h2
          simpa using h2)
        clear htk hs
        go_wp2
        go_ret
        exact ⟨by rw [hd.out]; rfl, HS.out⟩
  · have e1 : ((xs.length : Int) != (ys.length : Int)) = true := by simp; omega
    have hd : Hid (decide (xs = ys) = false) := Lib.hid (by simp; exact fun e => hl (by rw [e]))
    clear ha hb hl
    go_enter Tryd.func28, Tryd.ntmps28
    go_wp2
    go_ret
    exact ⟨by rw [hd.out]; rfl, Same.refl _ _⟩

def k0 : Bk := newM 2 1
def k1 : Bk := (start k0).2.2
def k2 : Bk := (start k1).2.2
def k3 : Bk := (start k2).2.2
def k4 : Bk := (lockF k3 1 0).2.2
def k5 : Bk := (lockF k4 2 0).2.2
def k6 : Bk := (lockF k5 3 0).2.2
def k7 : Bk := (unlockF k6 1 0).2.2
def k8 : Bk := (endF k7 2 85 0).2.2
def k9 : Bk := (lockF k8 3 0).2.2
def k10 : Bk := (lockF k9 1 1).2.2
def k11 : Bk := (lockF k10 3 1).2.2
def k12 : Bk := (lockF k11 1 0).2.2

theorem row_lit1 (W : World) (x : Int) : Row (W.alloc (.cells #[.int .i64 x] 3)) 3 1 (.slice (some ⟨W.heap.size, 0, none⟩) 1 1) [x].length ([x].flatMap (nE .i64)) :=
  Row.full (Blk.new W 3 [.int .i64 x]) 1 1 rfl (by simp [maxLen])
theorem row_lit2 (W : World) (x y : Int) : Row (W.alloc (.cells #[.int .i64 x, .int .i64 y] 3)) 3 1 (.slice (some ⟨W.heap.size, 0, none⟩) 2 2) [x, y].length ([x, y].flatMap (nE .i64)) :=
  Row.full (Blk.new W 3 [.int .i64 x, .int .i64 y]) 2 1 rfl (by simp [maxLen])

set_option maxHeartbeats 3200000 in
set_option maxRecDepth 100000 in
/-- The chapter's first and third examples come out so. -/
theorem known_any (hb : Bnd w) : Calls Tryd.prog 7 #[] w fun e w' => e = .returned (.bool true) ∧ Same [] w w' := by
  have HB := Lib.hid hb
  clear hb
  go_enter Tryd.func7, Tryd.ntmps7
  have s := Same.refl [] w
  go_wp2_with fail
  refine (own_new (w := w) 2 1 (by omega) (by omega) (Nat.le_refl _) HB.out).mono ?_
  rintro e w0 ⟨B, F, rfl, h, u⟩
  replace s := u.since s (by simp)
  clear u
  go_wp2_with fail
  refine (own_start h s.size 1 0 k1 rfl).mono ?_
  rintro e w1 ⟨rfl, F1, h1, u⟩
  replace s := u.since s h.new
  clear u h
  have h := h1
  clear h1
  go_wp2_with fail
  refine (own_start h s.size 2 0 k2 rfl).mono ?_
  rintro e w2 ⟨rfl, F2, h2, u⟩
  replace s := u.since s h.new
  clear u h
  have h := h2
  clear h2
  go_wp2_with fail
  refine (own_start h s.size 3 0 k3 rfl).mono ?_
  rintro e w3 ⟨rfl, F3, h3, u⟩
  replace s := u.since s h.new
  clear u h
  have h := h3
  clear h3
  go_wp2_with fail
  refine (own_lock h s.size 1 0 true 0 k4 rfl).mono ?_
  rintro e w4 ⟨rfl, F4, h4, u⟩
  replace s := u.since s h.new
  clear u h
  have h := h4
  clear h4
  go_wp2_with fail
  refine (own_lock h s.size 2 0 false 0 k5 rfl).mono ?_
  rintro e w5 ⟨rfl, F5, h5, u⟩
  replace s := u.since s h.new
  clear u h
  have h := h5
  clear h5
  go_wp2_with fail
  refine (own_lock h s.size 3 0 false 0 k6 rfl).mono ?_
  rintro e w6 ⟨rfl, F6, h6, u⟩
  replace s := u.since s h.new
  clear u h
  have h := h6
  clear h6
  go_wp2_with fail
  refine (own_unlock h s.size 1 0 2 0 k7 rfl).mono ?_
  rintro e w7 ⟨rfl, F7, h7, u⟩
  replace s := u.since s h.new
  clear u h
  have h := h7
  clear h7
  go_wp2_with fail
  refine (own_waits h 2 false rfl).mono ?_
  rintro e w8 ⟨rfl, rfl⟩
  go_wp2_with fail
  refine (own_waits h 3 true rfl).mono ?_
  rintro e w8 ⟨rfl, rfl⟩
  go_wp2_with fail
  refine (own_end h s.size 2 85 0 [3] 0 k8 rfl).mono ?_
  rintro e w8 ⟨v8, F8, rfl, h8, u, r8, n8⟩
  replace s := u.since s h.new
  replace n8 : ∀ k ∈ blk v8, k ∉ F8 := fun k hk => (n8 k hk).2
  clear u h
  have h := h8
  clear h8
  go_wp2_with fail
  refine (own_lock h s.size 3 0 false 191 k9 rfl).mono ?_
  rintro e w9 ⟨rfl, F9, h9, u⟩
  replace s := u.since s h.new
  obtain ⟨r8, n8⟩ := u.row r8 n8
  clear u h
  have h := h9
  clear h9
  go_wp2_with fail
  refine (own_lock h s.size 1 1 true 0 k10 rfl).mono ?_
  rintro e w10 ⟨rfl, F10, h10, u⟩
  replace s := u.since s h.new
  obtain ⟨r8, n8⟩ := u.row r8 n8
  clear u h
  have h := h10
  clear h10
  go_wp2_with fail
  refine (own_lock h s.size 3 1 false 0 k11 rfl).mono ?_
  rintro e w11 ⟨rfl, F11, h11, u⟩
  replace s := u.since s h.new
  obtain ⟨r8, n8⟩ := u.row r8 n8
  clear u h
  have h := h11
  clear h11
  go_wp2_with fail
  refine (own_lock h s.size 1 0 false 0 k12 rfl).mono ?_
  rintro e w12 ⟨rfl, F12, h12, u⟩
  replace s := u.since s h.new
  obtain ⟨r8, n8⟩ := u.row r8 n8
  clear u h
  have h := h12
  clear h12
  go_wp2_with fail
  refine (own_stuck h [1, 3] rfl).mono ?_
  rintro e w13 ⟨v13, rfl, h13, s13, r13, n13⟩
  replace s := s.trans s13
  replace r8 := r8.frame s13 (by simp)
  clear h
  obtain ⟨a8, c8, rfl, -, -, -⟩ := r8.form
  obtain ⟨a13, c13, rfl, -, -, -⟩ := r13.form
  go_wp2_with fail
  refine (own_global h13 0 4 0 rfl).mono ?_
  rintro e w14 ⟨rfl, rfl⟩
  go_wp2_with fail
  refine (same_ints [3] [3] _ _ (r8.alloc _) (row_lit1 _ 3) (by simp) (by simp)).mono ?_
  rintro e w15 ⟨rfl, s15⟩
  replace s15 := ((Same.refl [] w13).alloc _).trans s15
  replace s := s.trans s15
  replace h13 := h13.frame s15 (by simp)
  replace r13 := r13.frame s15 (by simp)
  go_wp2_with fail
  refine (own_holder h13 0 3 rfl).mono ?_
  rintro e w16 ⟨rfl, rfl⟩
  go_wp2_with fail
  refine (same_ints [1, 3] [1, 3] _ _ (r13.alloc _) (row_lit2 _ 1 3) (by simp) (by simp)).mono ?_
  rintro e w17 ⟨rfl, s17⟩
  replace s := s.trans (((Same.refl [] w15).alloc _).trans s17)
  clear r8 n8 r13 n13 h13
  go_wp2
  go_ret
  exact ⟨rfl, s⟩

set_option maxHeartbeats 400000 in
set_option maxRecDepth 100000 in
theorem numbers_any (hb : Bnd w) : Calls Tryd.prog 3 #[] w fun e w' => e = .returned (.bool true) ∧ Same [] w w' := by
  have HK := Lib.hid (known_any hb)
  clear hb
  go_enter Tryd.func3, Tryd.ntmps3
  go_wp2_with (go_at_call 7; refine HK.out.mono ?_; rintro e w1 ⟨rfl, hs⟩)
  go_ret
  exact ⟨rfl, hs⟩
end Lk
end Go.Proofs.YtkfdoocmapjkbaaDoor
