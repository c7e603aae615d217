/- The toy: shaded, Alloc. -/
import Derived.Test.YtkepcdbogeineaaGreatDoorVmR
namespace Go.Proofs.YtkepcdbogeineaaGreatDoor
open Go.RowKit Hp Ck
namespace Vm
variable {w w' w1 W W' : World} {H : Nat} {cv gv sv hv : Value} {G G1 : List Nat} {t t' : Toy}

def shadL (a b : Int) : List Int := (if cellI a then [cellN a] else []) ++ (if cellI b then [cellN b] else [])
/-- A new list of numbers. -/
def NewL (w : World) (l : List Int) (v : Value) (w' : World) : Prop := ∃ A C, v = .slice A l.length C ∧ Ow w' 3 1 v l.length (l.map (Value.int .i64)) ∧ (∀ b, v.ownBlock = some b → w.heap.size ≤ b) ∧ Same [] w w'
theorem infoV_N : (Tryz.prog.info? 3).map (fun i => (i.zero, i.size, i.bytes)) = some (some (.int .i64 0), 1, 8) := by kernel_rfl

theorem newL_add {l : List Int} {x : Int} {A : Option Addr} {C g C' : Nat} {w5 : World} (h : NewL w l (.slice A l.length C) w1) (hown : Ow w5 3 1 (.slice (some ⟨g, 0, none⟩) (l.length + 1) C') (l.length + 1) (l.map (Value.int .i64) ++ [.int .i64 x]))
    (hs : Same (Value.slice A l.length C).ownBlock.toList w1 w5) (hat : (Value.slice A l.length C).ownBlock = some g ∨ w1.heap.size ≤ g) : NewL w (l ++ [x]) (.slice (some ⟨g, 0, none⟩) (l.length + 1) C') w5 := by
  obtain ⟨A2, C2, e, h1, h2, h3⟩ := h
  refine ⟨some ⟨g, 0, none⟩, C', by simp, by simpa using hown, fun b hb => ?_, h3.trans' hs (fun x hx => .inr (h2 x (by simpa using hx)))⟩
  cases hb
  rcases hat with h4 | h4
  · exact h2 g h4
  · exact Nat.le_trans h3.size h4

set_option maxHeartbeats 4000000 in
set_option maxRecDepth 100000 in
theorem shaded_any (a b : Int) (ha : 0 ≤ a ∧ a < 18446744073709551616) (hb : 0 ≤ b ∧ b < 18446744073709551616) : Calls Tryz.prog 148 #[.int .u64 a, .int .u64 b] w fun e w' => ∃ v, e = .returned v ∧ NewL w (shadL a b) v w' := by
  have HA := Lib.hid (fun W => cellR_any (w := W) a ha)
  have HB := Lib.hid (fun W => cellR_any (w := W) b hb)
  obtain ⟨i0, hi1, hz0, hz1, hz2⟩ := info_parts infoV_N
  have HI0 := Lib.hid (And.intro hi1 (And.intro hz0 (And.intro hz1 hz2)))
  unfold shadL
  obtain ⟨ka, hka⟩ : ∃ k, k = cellI a := ⟨_, rfl⟩
  obtain ⟨kb, hkb⟩ : ∃ k, k = cellI b := ⟨_, rfl⟩
  obtain ⟨na, hna⟩ : ∃ k, k = cellN a := ⟨_, rfl⟩
  obtain ⟨nb, hnb⟩ : ∃ k, k = cellN b := ⟨_, rfl⟩
  rw [← hka, ← hna] at HA
  rw [← hkb, ← hnb] at HB
  rw [← hka, ← hna, ← hkb, ← hnb]
  have H0 : NewL w [] (.slice none 0 0) w := ⟨none, 0, rfl, World.ownsRow_nil _ _ _ _, (fun b hb => by cases hb), Same.refl _ _⟩
  have HN := Lib.hid H0
  clear hka hkb hna hnb ha hb hi1 hz0 hz1 hz2 H0
  cases ka
  · cases kb
    · go_enter Tryz.func148, Tryz.ntmps148
      go_wp2_with fail
      refine (HA.out _).mono ?_
      rintro e w2 ⟨rfl, rfl⟩
      go_wp2_with fail
      refine (HB.out _).mono ?_
      rintro e w2 ⟨rfl, rfl⟩
      go_wp2_with fail
      go_ret
      exact ⟨_, rfl, HN.out⟩
    · go_enter Tryz.func148, Tryz.ntmps148
      go_wp2_with fail
      refine (HA.out _).mono ?_
      rintro e w2 ⟨rfl, rfl⟩
      go_wp2_with fail
      refine (HB.out _).mono ?_
      rintro e w2 ⟨rfl, rfl⟩
      go_wp2_with (at_builtin; refine wpList_append_lies _ rfl (.tmp 26) (.tmp 28) 42 rfl 0 3 i0 _ 1 8 Tryz.underlying42 HI0.out.1 HI0.out.2.1 HI0.out.2.2.1 HI0.out.2.2.2 rfl (by decide) (.slice none 0 0) 0 [] rfl (World.ownsRow_nil _ _ _ _) _ 1 1 [.int .i64 nb] rfl rfl (cells1_new _ _ _) (by intro u hu; simp at hu; subst hu; rfl) (by omega) (by unfold maxLen; omega) (by omega) (Nat.zero_le _) _ rfl ?_)
      intro g C' w5 hown hgrow hat hlt
      have HG := Lib.hid (newL_add (x := nb) HN.out hown (((Same.refl _ w).alloc _).trans (Same.of_grown hgrow)) (by
        rcases hat with h | h
        · exact .inl h
        · right; rw [h]; simp))
      clear hown hgrow hat hlt
      go_wp2_with fail
      go_ret
      exact ⟨_, rfl, HG.out⟩
  · cases kb
    · go_enter Tryz.func148, Tryz.ntmps148
      go_wp2_with fail
      refine (HA.out _).mono ?_
      rintro e w2 ⟨rfl, rfl⟩
      go_wp2_with fail
      refine (HB.out _).mono ?_
      rintro e w2 ⟨rfl, rfl⟩
      go_wp2_with (at_builtin; refine wpList_append_lies _ rfl (.tmp 21) (.tmp 23) 42 rfl 0 3 i0 _ 1 8 Tryz.underlying42 HI0.out.1 HI0.out.2.1 HI0.out.2.2.1 HI0.out.2.2.2 rfl (by decide) (.slice none 0 0) 0 [] rfl (World.ownsRow_nil _ _ _ _) _ 1 1 [.int .i64 na] rfl rfl (cells1_new _ _ _) (by intro u hu; simp at hu; subst hu; rfl) (by omega) (by unfold maxLen; omega) (by omega) (Nat.zero_le _) _ rfl ?_)
      intro g C' w5 hown hgrow hat hlt
      have HG := Lib.hid (newL_add (x := na) HN.out hown (((Same.refl _ w).alloc _).trans (Same.of_grown hgrow)) (by
        rcases hat with h | h
        · exact .inl h
        · right; rw [h]; simp))
      clear hown hgrow hat hlt
      go_wp2_with fail
      go_ret
      exact ⟨_, rfl, HG.out⟩
    · go_enter Tryz.func148, Tryz.ntmps148
      go_wp2_with fail
      refine (HA.out _).mono ?_
      rintro e w2 ⟨rfl, rfl⟩
      go_wp2_with fail
      refine (HB.out _).mono ?_
      rintro e w2 ⟨rfl, rfl⟩
      go_wp2_with (at_builtin; refine wpList_append_lies _ rfl (.tmp 21) (.tmp 23) 42 rfl 0 3 i0 _ 1 8 Tryz.underlying42 HI0.out.1 HI0.out.2.1 HI0.out.2.2.1 HI0.out.2.2.2 rfl (by decide) (.slice none 0 0) 0 [] rfl (World.ownsRow_nil _ _ _ _) _ 1 1 [.int .i64 na] rfl rfl (cells1_new _ _ _) (by intro u hu; simp at hu; subst hu; rfl) (by omega) (by unfold maxLen; omega) (by omega) (Nat.zero_le _) _ rfl ?_)
      intro g C' w5 hown hgrow hat hlt
      have HG := Lib.hid (newL_add (x := na) HN.out hown (((Same.refl _ w).alloc _).trans (Same.of_grown hgrow)) (by
        rcases hat with h | h
        · exact .inl h
        · right; rw [h]; simp))
      have HO := Lib.hid hown
      clear hown hgrow hat hlt
      go_wp2_with (at_builtin; refine wpList_append_lies _ rfl (.tmp 26) (.tmp 28) 42 rfl 0 3 i0 _ 1 8 Tryz.underlying42 HI0.out.1 HI0.out.2.1 HI0.out.2.2.1 HI0.out.2.2.2 rfl (by decide) (.slice (some ⟨g, 0, none⟩) 1 C') 1 [.int .i64 na] rfl (Ow.frame HO.out ((Same.refl [] w5).alloc _) (by simp)) _ 1 1 [.int .i64 nb] rfl rfl (cells1_new _ _ _) (by intro u hu; simp at hu; subst hu; rfl) (by omega) (by unfold maxLen; omega) (by omega) (Nat.zero_le _) _ rfl ?_)
      intro g2 C2 w6 hown hgrow hat hlt
      have HG2 := Lib.hid (newL_add (x := nb) (l := [na]) HG.out hown (((Same.refl _ w5).alloc _).trans (Same.of_grown hgrow)) (by
        rcases hat with h | h
        · exact .inl h
        · right; rw [h]; simp))
      clear hown hgrow hat hlt
      go_wp2_with fail
      go_ret
      exact ⟨_, rfl, HG2.out⟩
/-- A cell more. -/
def Toy.more (t : Toy) (c : Cel) : Toy := { t with cells := t.cells ++ [c] }
theorem ToyAt.grow {A : Option Addr} {C g C' : Nat} {c : Cel} {w5 : World} (h : ToyAt w H (.slice A t.cells.length C) gv sv hv t G)
    (hown : Ow w5 209 4 (.slice (some ⟨g, 0, none⟩) (t.cells.length + 1) C') (t.cells.length + 1) (flatC t.cells ++ celC c)) (hs : Same (Value.slice A t.cells.length C).ownBlock.toList w w5) (hat : (Value.slice A t.cells.length C).ownBlock = some g ∨ w.heap.size ≤ g) (hlt : g < w5.heap.size) :
    ToyAt (w5.setCell ⟨H, 2, none⟩ (.slice (some ⟨g, 0, none⟩) (t.cells.length + 1) C')) H (.slice (some ⟨g, 0, none⟩) (t.cells.length + 1) C') gv sv hv (t.more c) (g :: G) ∧ Same G w (w5.setCell ⟨H, 2, none⟩ (.slice (some ⟨g, 0, none⟩) (t.cells.length + 1) C')) ∧ ∀ b ∈ g :: G, b ∈ G ∨ w.heap.size ≤ b := by
  have hnew : ∀ b ∈ g :: G, b ∈ G ∨ w.heap.size ≤ b := fun b hb => by
    rcases List.mem_cons.1 hb with h1 | h1
    · subst h1
      rcases hat with h2 | h2
      · exact .inl (h.inC b h2)
      · exact .inr h2
    · exact .inl h1
  have hsG : Same G w w5 := hs.mono (fun y hy => .inl (h.inC y (by simpa using hy)))
  have hS : Same G w (w5.setCell ⟨H, 2, none⟩ (.slice (some ⟨g, 0, none⟩) (t.cells.length + 1) C')) := hsG.setCell (.inl h.inH) _
  have hS1 : Same [H] w5 (w5.setCell ⟨H, 2, none⟩ (.slice (some ⟨g, 0, none⟩) (t.cells.length + 1) C')) := (Same.refl _ _).setCell (by simp) _
  have hoff : ∀ {e s n : Nat} {v : Value} {xs : List Value}, Ow w e s v n xs → e ≠ 209 → e ≠ 62 → Ow (w5.setCell ⟨H, 2, none⟩ (.slice (some ⟨g, 0, none⟩) (t.cells.length + 1) C')) e s v n xs := fun ho n1 n2 =>
    (ho.frame hs (fun b hb hm => ho.ne h.cs n1 hb (by simpa using hm))).frame hS1 (h.ne ho n2)
  have hb5 : Blk w5 H 62 (toyC (.slice A t.cells.length C) gv sv hv t) := Blk.frame h.b hs (fun hm => h.ne h.cs (by decide) H (by simpa using hm) (by simp))
  have hgH : g ≠ H := fun e => by
    rcases hat with h1 | h1
    · exact h.ne h.cs (by decide) g h1 (by rw [e]; simp)
    · have := h.b.lt; omega
  refine ⟨⟨Blk.set hb5 2 _, ?_, hoff h.gs (by decide) (by decide), hoff h.ss (by decide) (by decide), hoff h.hs (by decide) (by decide), List.mem_cons_of_mem _ h.inH, fun b hb => by cases hb; simp, fun b hb => List.mem_cons_of_mem _ (h.inG b hb), fun b hb => List.mem_cons_of_mem _ (h.inS b hb), fun b hb => List.mem_cons_of_mem _ (h.inA b hb), h.ghd, fun b hb => ?_⟩, hS, hnew⟩
  · have h2 := hown.frame hS1 (fun b hb hm => hgH (by cases hb; simpa using hm))
    simpa [Toy.more, flatC] using h2
  · rcases List.mem_cons.1 hb with h1 | h1
    · subst h1; simpa using hlt
    · exact Nat.lt_of_lt_of_le (h.gl b h1) hS.size

theorem infoV_C : (Tryz.prog.info? 209).map (fun i => (i.zero, i.size, i.bytes)) = some (some (.agg #[.int .u8 0, .int .u8 0, .int .u64 0, .int .u64 0]), 4, 24) := by kernel_rfl
theorem cells4_new (W : World) (x y z u : Value) (t : TypeId) : ∀ j v, [x, y, z, u][j]? = some v → (W.alloc (.cells #[x, y, z, u] t)).cell? ((⟨W.heap.size, 0, none⟩ : Addr).add j) = some v := World.news_of_block (Blk.new W t [x, y, z, u])

/-- What Alloc leaves. -/
def AllocP (t : Toy) (k a b : Int) (w : World) (H : Nat) (gv sv : Value) (G : List Nat) (e : Ending) (w' : World) : Prop :=
  ∃ cv hv G', (if (t.cells.length : Int) < t.most then ∃ v, e = .returned (.tuple #[.int .i64 (t.off + t.cells.length), .bool true, v]) ∧ (∃ A C, v = .slice A (shadL a b).length C) ∧ Ow w' 3 1 v (shadL a b).length ((shadL a b).map (Value.int .i64)) ∧ (∀ x, v.ownBlock = some x → w.heap.size ≤ x ∧ x ∉ G') ∧ ToyAt w' H cv gv sv hv ((t.ask [a, b]).more ⟨k, 0, a, b⟩) G'
    else e = .returned (.tuple #[.int .i64 0, .bool false, .slice none 0 0]) ∧ ToyAt w' H cv gv sv hv (t.ask [a, b]) G') ∧ Same G w w' ∧ ∀ x ∈ G', x ∈ G ∨ w.heap.size ≤ x

set_option maxHeartbeats 4000000 in
set_option maxRecDepth 100000 in
theorem alloc_any (h : ToyAt w H cv gv sv hv t G) (hf : t.Fine) (k a b : Int) (ha : 0 ≤ a ∧ a < 18446744073709551616) (hb : 0 ≤ b ∧ b < 18446744073709551616) :
    Calls Tryz.prog 134 #[.pointer (some ⟨H, 0, none⟩), .int .u8 k, .int .u64 a, .int .u64 b] w (AllocP t k a b w H gv sv G) := by
  have hof := hf.off
  have hle := hf.len
  obtain ⟨A, C, rfl⟩ := own_lit h.cs
  obtain ⟨i0, hi1, hz0, hz1, hz2⟩ := info_parts infoV_C
  have HI0 := Lib.hid (And.intro hi1 (And.intro hz0 (And.intro hz1 hz2)))
  have HSH := Lib.hid (fun W => shaded_any (w := W) a b ha hb)
  obtain ⟨w0, hw0⟩ : ∃ w0, w0 = w.alloc (.cells #[.int .u64 a, .int .u64 b] 30) := ⟨_, rfl⟩
  have hs0 : Same [] w w0 := by rw [hw0]; exact (Same.refl _ _).alloc _
  have hx : Ow w0 30 1 (.slice (some ⟨w.heap.size, 0, none⟩) 2 2) 2 [.int .u64 a, .int .u64 b] := ⟨rfl, .inr ⟨w.heap.size, 2, _, rfl, Nat.zero_le _, by rw [hw0]; exact heap_alloc_new w _, Nat.le_refl _, by decide, by simp, by simp⟩⟩
  have HA := Lib.hid (asked_any (h.frame0 hs0) (.slice (some ⟨w.heap.size, 0, none⟩) 2 2) [a, b] hx (fun x hx hm => by
    have h1 := h.gl x (h.inG x hx)
    have h2 : w.heap.size = x := by simpa [Value.ownBlock] using hm
    omega) hf.calls)
  have HW0 := Lib.hid hw0
  have HS0 := Lib.hid hs0
  have HGL := Lib.hid h.gl
  clear h hf hi1 hz0 hz1 hz2 hx hs0 hw0
  go_enter Tryz.func134, Tryz.ntmps134
  go_wp2_with fail
  rw [← HW0.out]
  refine HA.out.mono ?_
  rintro e w1 ⟨rfl, h1, hs1⟩
  have h1 : ToyAt w1 H (.slice A t.cells.length C) gv sv (.slice (some ⟨w.heap.size, 0, none⟩) 2 2) (t.ask [a, b]) (w.heap.size :: G) := h1
  have H1 := Lib.hid h1
  have HS1 := Lib.hid (HS0.out.mono (F' := G) (by simp) |>.trans hs1)
  obtain ⟨l, hl⟩ : ∃ l, l = t.cells.length := ⟨_, rfl⟩
  have c0 : w1.cell? ⟨H, 0, none⟩ = some (.int .i64 t.off) := h1.b.cell 0
  have c1 : w1.cell? ⟨H, 1, none⟩ = some (.int .i64 t.most) := h1.b.cell 1
  have c2 : w1.cell? ⟨H, 2, none⟩ = some (.slice A l C) := by rw [hl]; exact h1.b.cell 2
  have tz := h1.b.lt
  have tf := h1.b.frozen
  have HL := Lib.hid hl
  rw [← hl] at hle
  clear h1 hs1 HA hl
  by_cases hroom : (l : Int) < t.most
  · have hd : decide (t.most ≤ (l : Int)) = false := decide_eq_false (by omega)
    go_wp2_with fail
    go_quiet (fail)
    obtain ⟨w2, hw2⟩ : ∃ w2, w2 = w1.drewN nq := ⟨_, rfl⟩
    rw [← hw2]
    have hs2 : Same [] w1 w2 := by rw [hw2]; exact (Same.refl _ _).drewN _
    have h2 := H1.out.frame0 hs2
    have H2 := Lib.hid h2
    have HS2 := Lib.hid (HS1.out.trans' hs2 (by simp))
    have c0 : w2.cell? ⟨H, 0, none⟩ = some (.int .i64 t.off) := h2.b.cell 0
    have c2 : w2.cell? ⟨H, 2, none⟩ = some (.slice A l C) := by rw [HL.out]; exact h2.b.cell 2
    have tz := h2.b.lt
    have tf := h2.b.frozen
    have HT : Hid (H ∉ (Value.slice A t.cells.length C).ownBlock.toList) := Lib.hid (fun hm => h2.ne h2.cs (by decide) H (by simpa using hm) (by simp))
    have hcs : Ow w2 209 4 (.slice A t.cells.length C) t.cells.length (flatC t.cells) := h2.cs
    rw [← HL.out] at hcs HT
    have HCS := Lib.hid hcs
    clear hs2 h2 hw2 hcs
    go_wp2_with (at_builtin; refine wpList_append_lies _ rfl (.tmp 30) (.tmp 35) 60 rfl 0 209 i0 _ 4 24 Tryz.underlying60 HI0.out.1 HI0.out.2.1 HI0.out.2.2.1 HI0.out.2.2.2 rfl (by decide) (.slice A l C) l (flatC t.cells) rfl (Ow.frame HCS.out ((Same.refl [] w2).alloc _) (by simp)) _ 1 1 [.int .u8 k, .int .u8 0, .int .u64 a, .int .u64 b] rfl rfl (cells4_new _ _ _ _ _ _) (by intro u hu; simp at hu; rcases hu with rfl | rfl | rfl | rfl <;> rfl) (by omega) (by unfold maxLen; omega) (by omega) (Nat.zero_le _) _ rfl ?_)
    intro g C' w5 hown hgrow hat hlt
    have hsA : Same (Value.slice A l C).ownBlock.toList w2 w5 := ((Same.refl _ w2).alloc _).trans (Same.of_grown hgrow)
    have d2 := (hsA.cell tz HT.out).trans c2
    have df : ∀ j, w5.frozen? ⟨H, j, none⟩ = false := (fun j => (hsA.frozen tz HT.out).trans (tf j))
    have d0 := (hsA.cell tz HT.out).trans c0
    have hat2 : (Value.slice A l C).ownBlock = some g ∨ w2.heap.size ≤ g := by
      rcases hat with h | h
      · exact .inl h
      · right; rw [h]; simp
    rw [HL.out] at hown hsA hat2
    have HG := Lib.hid (ToyAt.grow (t := t.ask [a, b]) (c := ⟨k, 0, a, b⟩) H2.out hown hsA hat2 hlt)
    clear hown hgrow hat hlt hsA hat2 c0 c1 c2 tf
    go_wp2_with fail
    obtain ⟨w6, hw6⟩ : ∃ w6, w6 = w5.setCell ⟨H, 2, none⟩ (.slice (some ⟨g, 0, none⟩) (l + 1) C') := ⟨_, rfl⟩
    rw [← hw6]
    have h6 : ToyAt w6 H (.slice (some ⟨g, 0, none⟩) (l + 1) C') gv sv (.slice (some ⟨w.heap.size, 0, none⟩) 2 2) ((t.ask [a, b]).more ⟨k, 0, a, b⟩) (g :: w.heap.size :: G) := by rw [hw6, HL.out]; exact HG.out.1
    have hs6 : Same (w.heap.size :: G) w2 w6 := by rw [hw6, HL.out]; exact HG.out.2.1
    have hn6 := HG.out.2.2
    have f0 : w6.cell? ⟨H, 0, none⟩ = some (.int .i64 t.off) := h6.b.cell 0
    have f2 : w6.cell? ⟨H, 2, none⟩ = some (.slice (some ⟨g, 0, none⟩) (l + 1) C') := h6.b.cell 2
    have fz := h6.b.lt
    have eA : IntKind.i64.wrap (t.off + ((l : Int) + 1)) = t.off + ((l : Int) + 1) := by rw [IntKind.wrap_i64]; omega
    have eB : IntKind.i64.wrap (t.off + ((l : Int) + 1) - 1) = t.off + (l : Int) := by rw [IntKind.wrap_i64]; omega
    have H6 := Lib.hid h6
    have HS6 := Lib.hid hs6
    have HN6 := Lib.hid hn6
    clear h6 hs6 hn6 hw6 HG d2 df d0 tz
    go_upto_region 5 with fail
    go_cut [8, 9, 10] (fun s8 s9 s10 wx => ∃ A9 C9, s8 = .int .i64 (t.off + (l : Int)) ∧ s9 = .bool true ∧ s10 = .slice A9 (shadL a b).length C9 ∧ Ow wx 3 1 (.slice A9 (shadL a b).length C9) (shadL a b).length ((shadL a b).map (Value.int .i64)) ∧ (∀ x, (Value.slice A9 (shadL a b).length C9).ownBlock = some x → w6.heap.size ≤ x) ∧ Same [] w6 wx)
    case first =>
      go_region_held3 (fun W => W.cell? ⟨H, 0, none⟩ = some (.int .i64 t.off) ∧ W.cell? ⟨H, 2, none⟩ = some (.slice (some ⟨g, 0, none⟩) (l + 1) C')) (go_keep) (first
        | (go_simp; go_at_call 148; refine (HSH.out _).mono ?_; rintro e wA ⟨v, rfl, hnl⟩; obtain ⟨A9, C9, rfl, ho9, hg9, hs9⟩ := hnl; have HSA : Hid (Same [] w6 wA) := Lib.hid (Same.trans (by repeat (first | exact Same.refl _ _ | refine Same.drew ?_ | refine Same.drewN ?_ _ | refine Same.alloc ?_ _)) hs9); have s0 := (HSA.out.cell fz (by simp)).trans f0; have s2 := (HSA.out.cell fz (by simp)).trans f2; have HO9 := Lib.hid ho9; have HG9 := Lib.hid hg9; clear ho9 hg9 hs9))
      all_goals
        go_wp2_with fail
        go_meet
        exact ⟨A9, C9, rfl, rfl, rfl, HO9.out, fun x hx => by have := HG9.out x hx; simpa using this, HSA.out⟩
    case rest =>
      obtain ⟨A9, C9, rfl, rfl, rfl, ho9, hg9, hs9⟩ := hcut
      have HO9 := Lib.hid ho9
      have HG9 := Lib.hid hg9
      have HS9 := Lib.hid hs9
      clear ho9 hg9 hs9
      go_wp2_with fail
      go_ret3
      have hz := HS0.out.size
      have hz2 := HS2.out.size
      have hz6 := HS6.out.size
      refine ⟨.slice (some ⟨g, 0, none⟩) (l + 1) C', .slice (some ⟨w.heap.size, 0, none⟩) 2 2, g :: w.heap.size :: G, ?_, (HS2.out.trans' HS6.out (fun x hx => ?_)).trans' HS9.out (by simp), fun x hx => ?_⟩
      · rw [if_pos (by rw [← HL.out]; exact hroom)]
        refine ⟨.slice A9 (shadL a b).length C9, by rw [← HL.out]; rfl, ⟨A9, C9, rfl⟩, HO9.out, fun x hx => ⟨by have := HG9.out x hx; omega, fun hm => ?_⟩, H6.out.frame0 HS9.out⟩
        have h1 := HG9.out x hx
        have h2 := H6.out.gl x hm
        omega
      · rcases List.mem_cons.1 hx with h | h
        · right; omega
        · exact .inl h
      · rcases HN6.out x hx with h | h
        · rcases List.mem_cons.1 h with h | h
          · right; omega
          · exact .inl h
        · right; omega
  · have hd : decide (t.most ≤ (l : Int)) = true := decide_eq_true (by omega)
    go_wp2_with fail
    go_quiet (fail)
    go_wp2_with fail
    go_ret3
    have hz := HS0.out.size
    refine ⟨.slice A t.cells.length C, .slice (some ⟨w.heap.size, 0, none⟩) 2 2, w.heap.size :: G, ?_, HS1.out.drewN _, fun x hx => ?_⟩
    · rw [if_neg (by rw [← HL.out]; omega)]
      exact ⟨rfl, H1.out.frame0 ((Same.refl [] _).drewN _)⟩
    · rcases List.mem_cons.1 hx with h | h
      · right; omega
      · exact .inl h
end Vm
end Go.Proofs.YtkepcdbogeineaaGreatDoor
