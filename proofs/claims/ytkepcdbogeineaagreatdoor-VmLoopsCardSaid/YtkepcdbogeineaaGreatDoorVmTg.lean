/- The toy: Global, SetGlobal. -/
import Derived.Test.YtkepcdbogeineaaGreatDoorVmK
namespace Go.Proofs.YtkepcdbogeineaaGreatDoor
open Go.RowKit Hp Ck
namespace Vm
variable {w w' w1 W W' : World} {k : Kx} {th th' : Th} {FT G G1 : List Nat} {t t' : Toy} {H : Nat} {cv gv sv hv : Value}

theorem glob_cell (h : ToyAt W H cv gv sv hv t G) (a : Nat) (ha : a < t.globals.length) : ∃ g C, gv = .slice (some ⟨g, 0, none⟩) t.globals.length C ∧ W.cell? ⟨g, a, none⟩ = some (.int .u64 (t.globals.getD a 0)) ∧ W.frozen? ⟨g, a, none⟩ = false ∧ g ∈ G ∧ g ≠ H ∧ g < W.heap.size := by
  obtain ⟨g, C, rfl⟩ : ∃ g C, gv = .slice (some ⟨g, 0, none⟩) t.globals.length C := by
    rcases h.gs.2 with ⟨_, h0⟩ | ⟨g, cap, cur, e, _⟩
    · omega
    · exact ⟨g, cap, e⟩
  obtain ⟨k1, k2⟩ := own_cell h.gs a (by omega)
  refine ⟨g, C, rfl, k1.trans ?_, k2, h.inG g rfl, fun e => h.ne h.gs (by decide) g rfl (by rw [e]; simp), h.gs.lt rfl⟩
  rw [List.getElem?_map, List.getElem?_eq_getElem ha, List.getD_eq_getElem?_getD, List.getElem?_eq_getElem ha]
  rfl

set_option maxHeartbeats 2000000 in
set_option maxRecDepth 100000 in
theorem tglobal_any (h : ToyAt w H cv gv sv hv t G) (hf : t.Fine) (a : Nat) (ha : a < t.globals.length) :
    Calls Tryz.prog 136 #[.pointer (some ⟨H, 0, none⟩), .int .i64 a] w fun e w' => e = .returned (.int .u64 (t.globals.getD a 0)) ∧ ToyAt w' H cv gv sv (.slice none 0 0) (t.ask []) G ∧ Same G w w' := by
  have HA := Lib.hid (asked_any h (.slice none 0 0) [] (World.ownsRow_nil _ _ _ _) (fun b hb hm => by cases hm) hf.calls)
  obtain ⟨x, hx⟩ : ∃ x, x = t.globals.getD a 0 := ⟨_, rfl⟩
  rw [← hx]
  have HX := Lib.hid hx
  have hal : (a : Int) < (t.globals.length : Int) := by omega
  have hal2 : ¬ (t.globals.length : Int) ≤ (a : Int) := by omega
  have ha0 : (0 : Int) ≤ (a : Int) := by omega
  have ha1 : ¬ (a : Int) < 0 := by omega
  obtain ⟨L, hL⟩ : ∃ L, L = t.globals.length := ⟨_, rfl⟩
  have HL := Lib.hid (And.intro hL ha)
  rw [← hL] at hal hal2
  clear h hf hx hL ha
  go_enter Tryz.func136, Tryz.ntmps136
  go_wp2_with fail
  refine HA.out.mono ?_
  rintro e w1 ⟨rfl, h1, hs1⟩
  have h1 : ToyAt w1 H cv gv sv (.slice none 0 0) (t.ask []) G := h1
  obtain ⟨g, C, rfl, kx, -, -, -, gz⟩ := glob_cell h1 a HL.out.2
  rw [show (t.ask []).globals = t.globals from rfl, ← HX.out] at kx
  have c3 : w1.cell? ⟨H, 3, none⟩ = some (.slice (some ⟨g, 0, none⟩) L C) := by rw [HL.out.1]; exact h1.b.cell 3
  have H1 := Lib.hid (And.intro h1 hs1)
  have d1 : decide ((L : Int) ≤ (a : Int)) = false := decide_eq_false (by omega)
  have d2 : decide ((a : Int) < 0) = false := decide_eq_false (by omega)
  clear h1 hs1 HA
  go_wp2_with fail
  go_ret
  exact ⟨rfl, H1.out⟩

def Toy.setG (t : Toy) (a : Nat) (x : Int) : Toy := { t with globals := t.globals.set a x }
theorem ToyAt.setG {g C : Nat} (h : ToyAt W H cv (.slice (some ⟨g, 0, none⟩) t.globals.length C) sv hv t G) (a : Nat) (ha : a < t.globals.length) (x : Int) :
    ToyAt (W.setCell ⟨g, a, none⟩ (.int .u64 x)) H cv (.slice (some ⟨g, 0, none⟩) t.globals.length C) sv hv (t.setG a x) G := by
  have hs : Same [g] W (W.setCell ⟨g, a, none⟩ (.int .u64 x)) := (Same.refl _ _).setCell (by simp) _
  have hgH : H ≠ g := fun e => h.ne h.gs (by decide) g rfl (by rw [e]; simp)
  have ho := own_set h.gs a (by omega) (.int .u64 x)
  refine ⟨h.b.setOther (p := ⟨g, a, none⟩) hgH _, h.cs.frame hs (fun b hb hm => h.cs.ne h.gs (by decide) hb (by rw [List.mem_singleton.1 hm]; rfl)), ?_, h.ss.frame hs (fun b hb hm => h.ss.ne h.gs (by decide) hb (by rw [List.mem_singleton.1 hm]; rfl)), h.hs.frame hs (fun b hb hm => h.ghd g rfl (by rw [← List.mem_singleton.1 hm]; exact hb)),
    h.inH, h.inC, h.inG, h.inS, h.inA, h.ghd, fun b hb => Nat.lt_of_lt_of_le (h.gl b hb) hs.size⟩
  simp only [Toy.setG, List.length_set]
  rw [← List.map_set] at ho
  exact ho

set_option maxHeartbeats 4000000 in
set_option maxRecDepth 100000 in
theorem tsetGlobal_any (h : ToyAt w H cv gv sv hv t G) (hf : t.Fine) (a : Nat) (ha : a < t.globals.length) (x : Int) (hx : 0 ≤ x ∧ x < 18446744073709551616) (ho : 0 ≤ t.globals.getD a 0 ∧ t.globals.getD a 0 < 18446744073709551616) :
    Calls Tryz.prog 141 #[.pointer (some ⟨H, 0, none⟩), .int .i64 a, .int .u64 x] w fun e w' => ∃ v hc G', e = .returned (.tuple #[.int .u64 (t.globals.getD a 0), v]) ∧ (∃ A C, v = .slice A (shadL (t.globals.getD a 0) x).length C) ∧ Ow w' 3 1 v (shadL (t.globals.getD a 0) x).length ((shadL (t.globals.getD a 0) x).map (Value.int .i64)) ∧ (∀ b, v.ownBlock = some b → w.heap.size ≤ b ∧ b ∉ G') ∧ ToyAt w' H cv gv sv hc ((t.ask [x]).setG a x) G' ∧ Same G w w' ∧ ∀ b ∈ G', b ∈ G ∨ w.heap.size ≤ b := by
  obtain ⟨y, hy⟩ : ∃ y, y = t.globals.getD a 0 := ⟨_, rfl⟩
  rw [← hy] at ho ⊢
  have HSH := Lib.hid (fun W => shaded_any (w := W) y x ho hx)
  obtain ⟨w0, hw0⟩ : ∃ w0, w0 = w.alloc (.cells #[.int .u64 x] 30) := ⟨_, rfl⟩
  have hs0 : Same [] w w0 := by rw [hw0]; exact (Same.refl _ _).alloc _
  have hxo : Ow w0 30 1 (.slice (some ⟨w.heap.size, 0, none⟩) 1 1) 1 [.int .u64 x] := ⟨rfl, .inr ⟨w.heap.size, 1, _, rfl, Nat.zero_le _, by rw [hw0]; exact heap_alloc_new w _, Nat.le_refl _, by decide, by simp, by simp⟩⟩
  have HA := Lib.hid (asked_any (h.frame0 hs0) (.slice (some ⟨w.heap.size, 0, none⟩) 1 1) [x] hxo (fun b hb hm => by
    have h1 := h.gl b (h.inG b hb)
    have h2 : w.heap.size = b := by simpa [Value.ownBlock] using hm
    omega) hf.calls)
  have HW0 := Lib.hid hw0
  have HS0 := Lib.hid hs0
  have HY := Lib.hid hy
  have hal : (a : Int) < (t.globals.length : Int) := by omega
  have ha0 : (0 : Int) ≤ (a : Int) := by omega
  obtain ⟨L, hL⟩ : ∃ L, L = t.globals.length := ⟨_, rfl⟩
  have HL := Lib.hid (And.intro hL ha)
  rw [← hL] at hal
  have d1 : decide ((L : Int) ≤ (a : Int)) = false := decide_eq_false (by omega)
  have d2 : decide ((a : Int) < 0) = false := decide_eq_false (by omega)
  clear h hf hy hL ha hx ho hxo hs0 hw0
  go_enter Tryz.func141, Tryz.ntmps141
  go_wp2_with fail
  rw [← HW0.out]
  refine HA.out.mono ?_
  rintro e w1 ⟨rfl, h1, hs1⟩
  have h1 : ToyAt w1 H cv gv sv (.slice (some ⟨w.heap.size, 0, none⟩) 1 1) (t.ask [x]) (w.heap.size :: G) := h1
  obtain ⟨g, C, rfl, kx, kf, -, hgH, gz⟩ := glob_cell h1 a HL.out.2
  rw [show (t.ask [x]).globals = t.globals from rfl, ← HY.out] at kx
  have c3 : w1.cell? ⟨H, 3, none⟩ = some (.slice (some ⟨g, 0, none⟩) L C) := by rw [HL.out.1]; exact h1.b.cell 3
  have H1 := Lib.hid h1
  have HS1 := Lib.hid ((HS0.out.mono (by simp)).trans hs1 : Same G w w1)
  clear h1 hs1 HA
  go_wp2_with fail
  obtain ⟨w2, hw2⟩ : ∃ w2, w2 = w1.setCell ⟨g, a, none⟩ (.int .u64 x) := ⟨_, rfl⟩
  rw [← hw2]
  have h2 := H1.out.setG a HL.out.2 x
  rw [← hw2] at h2
  have hgG : g ∈ G ∨ w.heap.size ≤ g := by
    rcases List.mem_cons.1 (H1.out.inG g rfl) with h | h
    · exact .inr (Nat.le_of_eq h.symm)
    · exact .inl h
  have HS2 := Lib.hid (show Same G w w2 from by rw [hw2]; exact HS1.out.setCell hgG _)
  have H2 := Lib.hid h2
  clear hw2 h2 hgG kx kf c3
  refine (HSH.out _).mono ?_
  rintro e w3 ⟨v, rfl, ⟨A9, C9, rfl, ho9, hn9, hs3⟩⟩
  have H3 := Lib.hid (H2.out.frame0 hs3)
  have HS3 := Lib.hid (HS2.out.trans' hs3 (by simp))
  have HO := Lib.hid ho9
  have HN := Lib.hid (And.intro hn9 hs3)
  clear ho9 hn9 hs3 HSH
  go_wp2_with fail
  refine bodyPost_ret (v := .tuple #[.int .u64 y, .slice A9 (shadL y x).length C9]) (by simp [results, Tryz.results141, go_sem]) rfl ?_
  refine ⟨_, _, w.heap.size :: G, rfl, ⟨A9, C9, rfl⟩, HO.out, fun b hb => ⟨Nat.le_trans HS2.out.size (HN.out.1 b hb), fun hm => ?_⟩, H3.out, HS3.out, fun b hb => ?_⟩
  · have h5 := H2.out.gl b hm
    have := HN.out.1 b hb
    omega
  · rcases List.mem_cons.1 hb with h | h
    · exact .inr (Nat.le_of_eq h.symm)
    · exact .inl h
/-- The toy alone has turned, and has made a list. -/
theorem Sit.toyL {cc gc sc hc v : Value} {l : List Int} (h : Sit k w th t FT G) (h1 : ToyAt w' k.H cc gc sc hc t' G1) (hs : Same G w w') (hG : ∀ b ∈ G1, b ∈ G ∨ w.heap.size ≤ b) (hv : ∃ A C, v = .slice A l.length C) (ho : Ow w' 3 1 v l.length (l.map (Value.int .i64))) (hn : ∀ b, v.ownBlock = some b → w.heap.size ≤ b ∧ b ∉ G1) : Lf k w FT G th t' l v w' := by
  obtain ⟨fv, sv, rv, h2⟩ := h.vt.th
  have hvt : VT w' k.T k.M k.cv k.pv k.gv k.kvs k.H th t' k.FC FT G1 := ⟨⟨fv, sv, rv, h2.frame hs h.vt.dC (fun b hb hm => h.vt.dT b hm hb)⟩, ⟨cc, gc, sc, hc, h1⟩, fun b hb hm => by
    rcases hG b hb with h6 | h6
    · exact h.vt.dT b h6 hm
    · have := h2.tl b hm; omega, fun b hb hm => by
    rcases hG b hm with h6 | h6
    · exact h.vt.dC b hb h6
    · have := h2.cl b hb; omega⟩
  have hsub : ∀ b, b ∈ FT ∨ b ∈ G1 → b ∈ FT ∨ b ∈ G ∨ w.heap.size ≤ b := fun b hb => by
    rcases hb with h6 | h6
    · exact .inl h6
    · rcases hG b h6 with h7 | h7
      · exact .inr (.inl h7)
      · exact .inr (.inr h7)
  have hs2 : Same (FT ++ G) w w' := hs.mono (fun x hx => .inl (by simp [hx]))
  exact ⟨FT, G1, h.step hvt hs2 hsub, hs2, hsub, hv, ho, fun b hb => ⟨(hn b hb).1, fun hm => by have := (hn b hb).1; have := h2.tl b hm; omega, (hn b hb).2⟩⟩
end Vm
end Go.Proofs.YtkepcdbogeineaaGreatDoor
