/- Layer 19: both books side by side, and the book of what came out. -/
import Derived.Test.YtkfdoocmapjkbaaDoorLrW6
import Derived.Test.YtkfdoocmapjkbaaDoorLsP
namespace Go.Proofs.YtkfdoocmapjkbaaDoor
open Go.RowKit Hp
namespace Lk
variable {w w' W : World} {B R D : Nat} {m m' mr mr' : Bk} {F G V : List Nat}

theorem zr_lock {m : Bk} (z : Zr m) (t l : Int) : Zr (lockF m t l).2.2 := by
  unfold lockF
  split
  · exact z
  · rename_i ha
    have ht := (ask_ok t l (by simpa using ha)).1
    split
    · exact z
    · split
      · exact z
      · exact zr_setT (m := m.setL l _) z t ht _ ⟨rfl, rfl, rfl⟩
theorem zr_unlock {m : Bk} (ok : Ok m) (z : Zr m) (t l : Int) : Zr (unlockF m t l).2.2 := by
  unfold unlockF
  split
  · exact z
  · rename_i ha
    split
    · exact z
    · exact hand_zr ok l (ask_ok t l (by simpa using ha)).2.1 z
theorem zr_join {m : Bk} (z : Zr m) (n f : Int) : Zr (joinF m n f).2.2.2 := by
  unfold joinF
  split
  · exact z
  · rename_i h1
    split
    · exact z
    · split
      · exact z
      · split
        · exact z
        · exact zr_setT z n (by cases hh : m.is n <;> simp_all) _ ⟨rfl, rfl, rfl⟩
theorem zr_end {m : Bk} (ok : Ok m) (z : Zr m) (n x e : Int) : Zr (endF m n x e).2.2 := by
  unfold endF
  split
  · exact z
  · rename_i h1
    split
    · exact z
    · rename_i h2
      exact end_zr ok z x e (by simpa using h1) (by simpa using h2)
theorem zr_start {m : Bk} (z : Zr m) : Zr (start m).2.2 := by
  unfold start
  split
  · exact z
  · intro t ht he
    have hi := (is_iff _ t).1 ht
    simp only [List.length_append, List.length_singleton] at hi
    by_cases c : t ≤ m.ths.length
    · have hth : (⟨m.ths ++ [t0], m.lks, m.gl⟩ : Bk).th t = m.th t := by
        simp only [Bk.th, List.getD_eq_getElem?_getD]
        rw [List.getElem?_append_left (by omega)]
      have he' : ((⟨m.ths ++ [t0], m.lks, m.gl⟩ : Bk).th t).en = false := he
      show ((⟨m.ths ++ [t0], m.lks, m.gl⟩ : Bk).th t).w = 0 ∧ ((⟨m.ths ++ [t0], m.lks, m.gl⟩ : Bk).th t).e = 0
      rw [hth] at he' ⊢
      exact z t (by rw [is_iff]; omega) he'
    · have hth : (⟨m.ths ++ [t0], m.lks, m.gl⟩ : Bk).th t = t0 := by
        simp only [Bk.th, List.getD_eq_getElem?_getD]
        rw [List.getElem?_append_right (by omega)]
        have : t.toNat - 1 - m.ths.length = 0 := by omega
        rw [this]; rfl
      show ((⟨m.ths ++ [t0], m.lks, m.gl⟩ : Bk).th t).w = 0 ∧ ((⟨m.ths ++ [t0], m.lks, m.gl⟩ : Bk).th t).e = 0
      rw [hth]; exact ⟨rfl, rfl⟩
theorem zr_setGlobal {m : Bk} (z : Zr m) (i y : Int) : Zr (setGlobalF m i y).2.2 := by
  unfold setGlobalF
  split
  · exact z
  · exact z

/-- The program's book as m, the document's as mr. -/
structure Pair (w W : World) (B R : Nat) (m mr : Bk) (F G : List Nat) : Prop where
  b : Own w W B m F
  okr : Ok mr
  zr : Zr mr
  r : Rr W R mr G
  rn : ∀ k ∈ G, w.heap.size ≤ k
  off : ∀ k ∈ F, k ∉ G

theorem Pair.frame {W' : World} {H : List Nat} (p : Pair w W B R m mr F G) (hs : Same H W W') (hF : ∀ k ∈ F, k ∉ H) (hG : ∀ k ∈ G, k ∉ H) : Pair w W' B R m mr F G :=
  ⟨p.b.frame hs hF, p.okr, p.zr, p.r.frame hs hG, p.rn, p.off⟩

/-- The first book has gone on: the document's stands as it stood. -/
theorem Pair.first {W1 : World} {F' : List Nat} (p : Pair w W B R m mr F G) (u : Upd F F' W W1) : Rr W1 R mr G ∧ ∀ k ∈ F', k ∉ G :=
  ⟨p.r.frame u.same (fun k hk hm => p.off k hm hk), fun k hk hm => by
    rcases u.new k hk with h | h
    · exact p.off k h hm
    · have := p.r.lt k hm; omega⟩

theorem Pair.both {W1 W2 : World} {F' : List Nat} (p : Pair w W B R m mr F G) (hw : w.heap.size ≤ W.heap.size) (ho : Own w W1 B m' F') (u : Upd F F' W W1) (ok : Ok mr') (z : Zr mr') (hd : DidR R G W1 W2 mr') :
    ∃ G', Pair w W2 B R m' mr' F' G' ∧ Upd (F ++ G) (F' ++ G') W W2 := by
  obtain ⟨G', g1, g2, g3⟩ := hd
  have hf := (p.first u).2
  have hsz := u.same.size
  have hlt := ho.rep.lt
  refine ⟨G', ⟨ho.frame g2 hf, ok, z, g1, fun k hk => ?_, fun k hk hm => ?_⟩, ⟨(u.same.mono (fun x hx => .inl (by simp [hx]))).trans' g2 (fun x hx => .inl (by simp [hx])), fun k hk => ?_⟩⟩
  · rcases g3 k hk with h | h
    · exact p.rn k h
    · omega
  · rcases g3 k hm with h | h
    · exact hf k hk h
    · have := hlt k hk; omega
  · rcases List.mem_append.1 hk with hk | hk
    · rcases u.new k hk with h | h
      · exact .inl (by simp [h])
      · exact .inr h
    · rcases g3 k hk with h | h
      · exact .inl (by simp [h])
      · exact .inr (by omega)

theorem Pair.both' {W1 W2 : World} {F' : List Nat} (p : Pair w W B R m mr F G) (hw : w.heap.size ≤ W.heap.size) (ho : Own w W1 B m' F') (u : Upd F F' W W1) (ok : Ok mr') (z : Zr mr') (hd : DidR R G W1 W2 mr') :
    ∃ G', Pair w W2 B R m' mr' F' G' ∧ Upd (F ++ G) (F' ++ G') W W2 ∧ ∀ k, k < W1.heap.size → k ∉ G → k ∉ G' := by
  obtain ⟨G', g1, g2, g3⟩ := hd
  have hf := (p.first u).2
  have hsz := u.same.size
  have hlt := ho.rep.lt
  refine ⟨G', ⟨ho.frame g2 hf, ok, z, g1, fun k hk => ?_, fun k hk hm => ?_⟩, ⟨(u.same.mono (fun x hx => .inl (by simp [hx]))).trans' g2 (fun x hx => .inl (by simp [hx])), fun k hk => ?_⟩, fun k h1 h2 hm => ?_⟩
  · rcases g3 k hk with h | h
    · exact p.rn k h
    · omega
  · rcases g3 k hm with h | h
    · exact hf k hk h
    · have := hlt k hk; omega
  · rcases List.mem_append.1 hk with hk | hk
    · rcases u.new k hk with h | h
      · exact .inl (by simp [h])
      · exact .inr h
    · rcases g3 k hk with h | h
      · exact .inl (by simp [h])
      · exact .inr (by omega)
  · rcases g3 k hm with h | h
    · exact h2 h
    · omega

/-- The book of lists that came out: lists of numbers alone. -/
def cs17 (ro : Value) : List Value := .slice none 0 0 :: .slice none 0 0 :: ro :: List.replicate 14 (.slice none 0 0)
def Ib (W : World) (D : Nat) (ls : List (List Int)) (V : List Nat) : Prop := ∃ ro rvs, Blk W D 74 (cs17 ro) ∧ LL (nE .i64) 29 3 1 W ro rvs ls V

theorem Ib.frame {W' : World} {H : List Nat} {ls : List (List Int)} (h : Ib W D ls V) (hs : Same H W W') (hD : D ∉ H) (hV : ∀ k ∈ V, k ∉ H) : Ib W' D ls V := by
  obtain ⟨ro, rvs, h1, h2⟩ := h
  exact ⟨ro, rvs, h1.frame hs hD, h2.frame hs hV⟩

theorem info29b : (Tryd.prog.info? 29).map (fun i => (i.zero, i.size, i.bytes)) = some (some (.slice none 0 0), 1, 24) := by kernel_rfl

set_option maxHeartbeats 800000 in
set_option maxRecDepth 100000 in
theorem ints_any (ls : List (List Int)) (l : List Int) (v : Value) (h : Ib W D ls V) (hr : Row W 3 1 v l.length (l.flatMap (nE .i64))) (hv : ∀ k ∈ blk v, k ∉ V ∧ k ≠ D) (hD : D ∉ V) (hn : ls.length ≤ 1000000) :
    Calls Tryd.prog 38 #[.pointer (some ⟨D, 0, none⟩), v] W fun e w' => e = .returned (.tuple #[]) ∧ ∃ V', Ib w' D (ls ++ [l]) V' ∧ D ∉ V' ∧ Same (D :: V) W w' ∧ ∀ k ∈ V', k ∈ V ∨ k ∈ blk v ∨ W.heap.size ≤ k := by
  obtain ⟨ro, rvs, hb, hll⟩ := h
  obtain ⟨oa, oc, rfl, -, -, -⟩ := hll.top.form
  obtain ⟨va, vc, rfl, -, -, -⟩ := hr.form
  have c2 : W.cell? ⟨D, 2, none⟩ = some (.slice oa ls.length oc) := hb.cell 2
  have hDl := hb.lt
  have hfz := hb.frozen
  have FIN : Hid (∀ w1 v', Row w1 29 1 v' (ls.length + 1) (rvs ++ [.slice va l.length vc]) → Same (blk (.slice oa ls.length oc)) W w1 → (∀ k ∈ blk v', k ∈ blk (.slice oa ls.length oc) ∨ W.heap.size ≤ k) →
      ∃ V', Ib (w1.setCell ⟨D, 2, none⟩ v') D (ls ++ [l]) V' ∧ D ∉ V' ∧ Same (D :: V) W (w1.setCell ⟨D, 2, none⟩ v') ∧ ∀ k ∈ V', k ∈ V ∨ k ∈ blk (.slice va l.length vc) ∨ W.heap.size ≤ k) := Lib.hid (fun w1 v' h1 h2 h3 => by
    have q := hll.snoc (by decide) hr (fun k hk => (hv k hk).1) h1 h2 h3
    have hDt : D ∉ blk (.slice oa ls.length oc) := fun hm => hD (hll.topIn D hm)
    have hDV : D ∉ V ++ (blk v' ++ blk (.slice va l.length vc)) := fun hm => by
      simp only [List.mem_append] at hm
      rcases hm with hm | hm | hm
      · exact hD hm
      · rcases h3 D hm with h | h
        · exact hDt h
        · omega
      · exact (hv D hm).2 rfl
    refine ⟨_, ⟨v', rvs ++ [.slice va l.length vc], ?_, q.frame (F := [D]) ((Same.refl _ _).setCell (by simp) _) (fun k hk hm => hDV (by rw [← List.mem_singleton.1 hm]; exact hk))⟩, hDV, ?_, fun k hk => ?_⟩
    · have := (hb.frame h2 hDt).set 2 v'
      exact this
    · exact (h2.mono (fun x hx => .inl (List.mem_cons_of_mem _ (hll.topIn x hx)))).setCell (by simp) _
    · simp only [List.mem_append] at hk
      rcases hk with hk | hk | hk
      · exact .inl hk
      · rcases h3 k hk with h | h
        · exact .inl (hll.topIn k h)
        · exact .inr (.inr h)
      · exact .inr (.inl hk))
  have HTOP := Lib.hid hll.top
  have hDt : Hid (D ∉ blk (.slice oa ls.length oc)) := Lib.hid (fun hm => hD (hll.topIn D hm))
  clear hll hb hr hv hD
  go_enter Tryd.func38, Tryd.ntmps38
  go_wp2_with (at_builtin; refine wpList_append_row _ rfl (.tmp 8) (.tmp 10) 28 rfl 29 (.slice none 0 0) 1 24 Tryd.underlying28 info29b rfl (by decide) (.slice oa ls.length oc) ls.length rvs rfl ?hrow1 ⟨W.heap.size, 0, none⟩ 1 1 [.slice va l.length vc] rfl rfl ?c1 ?c2 ?b1 ?b2 ?K)
  case hrow1 => exact HTOP.out.alloc _
  case c1 => exact cell_one_new W (.slice va l.length vc) 29
  case c2 => intro u hu; simp at hu; subst hu; rfl
  case b1 => unfold maxLen; omega
  case b2 => omega
  case K =>
    intro v' w1 hrow' hsm hbk
    have hs1 : Same (blk (.slice oa ls.length oc)) W w1 := ((Same.refl _ _).alloc _).trans hsm
    have HF := Lib.hid (FIN.out w1 v' (by simpa using hrow') hs1 (fun k hk => by
      rcases hbk k hk with h | h
      · exact .inl h
      · right; omega))
    have c3 := (hs1.cell (b := D) (o := 2) hDl hDt.out).trans c2
    have f3 := (hs1.frozen (b := D) (o := 2) hDl hDt.out).trans (hfz 2)
    obtain ⟨a5, c5, rfl, -, -, -⟩ := hrow'.form
    clear hrow' hsm hbk hs1
    go_wp2
    go_end0
    exact ⟨rfl, HF.out⟩

/-- Both books, and the book of what came out. -/
structure Trio (w W : World) (B R D : Nat) (m mr : Bk) (ls : List (List Int)) (F G V : List Nat) : Prop where
  p : Pair w W B R m mr F G
  i : Ib W D ls V
  dF : D ∉ F
  dG : D ∉ G
  dV : D ∉ V
  vF : ∀ k ∈ V, k ∉ F
  vG : ∀ k ∈ V, k ∉ G
  dn : w.heap.size ≤ D
  vn : ∀ k ∈ V, w.heap.size ≤ k

theorem Trio.dlt {ls : List (List Int)} (t : Trio w W B R D m mr ls F G V) : D < W.heap.size := by obtain ⟨_, _, h, _⟩ := t.i; exact h.lt
theorem Trio.vlt {ls : List (List Int)} (t : Trio w W B R D m mr ls F G V) : ∀ k ∈ V, k < W.heap.size := by obtain ⟨_, _, _, h⟩ := t.i; exact h.lt

theorem Trio.frame {W' : World} {H : List Nat} {ls : List (List Int)} (t : Trio w W B R D m mr ls F G V) (hs : Same H W W') (hF : ∀ k ∈ F, k ∉ H) (hG : ∀ k ∈ G, k ∉ H) (hD : D ∉ H) (hV : ∀ k ∈ V, k ∉ H) : Trio w W' B R D m mr ls F G V :=
  ⟨t.p.frame hs hF hG, t.i.frame hs hD hV, t.dF, t.dG, t.dV, t.vF, t.vG, t.dn, t.vn⟩

/-- The two books have gone on by themselves. -/
theorem Trio.both {W1 : World} {F' G' : List Nat} {ls : List (List Int)} (t : Trio w W B R D m mr ls F G V) (p' : Pair w W1 B R m' mr' F' G') (u : Upd (F ++ G) (F' ++ G') W W1) :
    Trio w W1 B R D m' mr' ls F' G' V ∧ Upd (F ++ G ++ D :: V) (F' ++ G' ++ D :: V) W W1 := by
  have hd := t.dlt
  have hv := t.vlt
  have off : ∀ k, k ∉ F ++ G → k < W.heap.size → k ∉ F' ++ G' := fun k h1 h2 hm => by
    rcases u.new k hm with h | h
    · exact h1 h
    · omega
  have hD := off D (fun hm => by rcases List.mem_append.1 hm with h | h; exact t.dF h; exact t.dG h) hd
  have hV : ∀ k ∈ V, k ∉ F' ++ G' := fun k hk => off k (fun hm => by rcases List.mem_append.1 hm with h | h; exact t.vF k hk h; exact t.vG k hk h) (hv k hk)
  refine ⟨⟨p', t.i.frame u.same (fun hm => by rcases List.mem_append.1 hm with h | h; exact t.dF h; exact t.dG h) (fun k hk hm => by rcases List.mem_append.1 hm with h | h; exact t.vF k hk h; exact t.vG k hk h),
    fun h => hD (by simp [h]), fun h => hD (by simp [h]), t.dV, fun k hk h => hV k hk (by simp [h]), fun k hk h => hV k hk (by simp [h]), t.dn, t.vn⟩, u.same.mono (fun x hx => .inl (by simp at hx ⊢; rcases hx with h | h <;> simp [h])), fun k hk => ?_⟩
  simp only [List.mem_append, List.mem_cons] at hk ⊢
  rcases hk with (hk | hk) | hk | hk
  · rcases u.new k (by simp [hk]) with h | h
    · simp only [List.mem_append] at h; exact .inl (.inl h)
    · exact .inr h
  · rcases u.new k (by simp [hk]) with h | h
    · simp only [List.mem_append] at h; exact .inl (.inl h)
    · exact .inr h
  · exact .inl (.inr (.inl hk))
  · exact .inl (.inr (.inr hk))

/-- One list more has come out. -/
theorem Trio.ints {W1 : World} {V' : List Nat} {ls ls' : List (List Int)} {v : Value} (t : Trio w W B R D m mr ls F G V) (hv : ∀ k ∈ blk v, w.heap.size ≤ k ∧ k ∉ F ∧ k ∉ G) (hvl : ∀ k ∈ blk v, k < W.heap.size)
    (h1 : Ib W1 D ls' V') (h2 : D ∉ V') (h3 : Same (D :: V) W W1) (h4 : ∀ k ∈ V', k ∈ V ∨ k ∈ blk v ∨ W.heap.size ≤ k) (hw : w.heap.size ≤ W.heap.size) :
    Trio w W1 B R D m mr ls' F G V' := by
  have hF : ∀ k ∈ F, k ∉ D :: V := fun k hk hm => by
    rcases List.mem_cons.1 hm with h | h
    · exact t.dF (h ▸ hk)
    · exact t.vF k h hk
  have hG : ∀ k ∈ G, k ∉ D :: V := fun k hk hm => by
    rcases List.mem_cons.1 hm with h | h
    · exact t.dG (h ▸ hk)
    · exact t.vG k h hk
  refine ⟨t.p.frame h3 hF hG, h1, t.dF, t.dG, h2, fun k hk hm => ?_, fun k hk hm => ?_, t.dn, fun k hk => ?_⟩
  · rcases h4 k hk with h | h | h
    · exact t.vF k h hm
    · exact (hv k h).2.1 hm
    · have := t.p.b.rep.lt k hm; omega
  · rcases h4 k hk with h | h | h
    · exact t.vG k h hm
    · exact (hv k h).2.2 hm
    · have := t.p.r.lt k hm; omega
  · rcases h4 k hk with h | h | h
    · exact t.vn k h
    · exact (hv k h).1
    · omega

/-- A step of both books. -/
def stepM (m : Bk) (kd t n x e : Int) : Bk :=
  if kd = 1 then (start m).2.2 else if kd = 2 then (endF m t x e).2.2 else if kd = 3 then (joinF m t n).2.2.2 else if kd = 4 then (lockF m t n).2.2
  else if kd = 5 then (unlockF m t n).2.2 else if kd = 7 then (setGlobalF m n x).2.2 else m
end Lk
end Go.Proofs.YtkfdoocmapjkbaaDoor
