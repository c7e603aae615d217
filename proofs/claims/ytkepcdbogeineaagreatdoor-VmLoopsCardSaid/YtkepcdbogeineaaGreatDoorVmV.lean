/- What a law does first: the toy, the first example's code; SameWords. -/
import Derived.Test.YtkepcdbogeineaaGreatDoorVmZ
import Derived.Test.YtkepcdbogeineaaGreatDoorVmS
import Derived.Deep.QuietTactic
import Derived.BigQuiet
namespace Go.Proofs.YtkepcdbogeineaaGreatDoor
open Go.RowKit Hp
namespace Ck
variable {w w' : World}
theorem take_eq_step {α : Type} (d : α) {xs ys : List α} {k : Nat} (h : xs.take k = ys.take k) (h1 : k < xs.length) (h2 : k < ys.length) (he : xs.getD k d = ys.getD k d) : xs.take (k + 1) = ys.take (k + 1) := by
  rw [List.take_succ_eq_append_getElem h1, List.take_succ_eq_append_getElem h2, h]
  simp only [List.getD_eq_getElem?_getD, List.getElem?_eq_getElem h1, List.getElem?_eq_getElem h2, Option.getD_some] at he
  rw [he]

/-- Nothing has been done but orders drawn. -/
def Qt (w w' : World) : Prop := ∃ m, w' = w.drewN m
theorem Qt.refl (w : World) : Qt w w := ⟨0, rfl⟩
theorem Qt.drew {w w' : World} (h : Qt w w') : Qt w w'.drew := by obtain ⟨m, rfl⟩ := h; exact ⟨m + 1, rfl⟩
theorem Qt.drewN {w w' : World} (h : Qt w w') (n : Nat) : Qt w (w'.drewN n) := by obtain ⟨m, rfl⟩ := h; exact ⟨m + n, World.drewN_drewN ..⟩
theorem Qt.trans {w w' w2 : World} (h : Qt w w') (h2 : Qt w' w2) : Qt w w2 := by obtain ⟨m, rfl⟩ := h; obtain ⟨n, rfl⟩ := h2; exact ⟨m + n, World.drewN_drewN ..⟩
theorem Qt.same {w w' : World} (h : Qt w w') : Same [] w w' := by obtain ⟨m, rfl⟩ := h; exact (Same.refl _ _).drewN m

set_option maxHeartbeats 4000000 in
set_option maxRecDepth 100000 in
theorem s0W_any (v1 v2 : Value) (xs ys : List Int) (h1 : Sq w v1 xs.length 1 (fW xs)) (h2 : Sq w v2 ys.length 1 (fW ys)) : Calls Tryz.prog 17 #[v1, v2] w fun e w' => e = .returned (.bool (decide (xs = ys))) ∧ Qt w w' := by
  obtain ⟨A1, c1, rfl, hx1, hx2, hx3⟩ := h1
  obtain ⟨A2, c2, rfl, hy1, hy2, hy3⟩ := h2
  unfold maxLen at hx2 hy2
  have H1 := Lib.hid hx3
  have H2 := Lib.hid hy3
  clear hx3 hy3
  go_enter Tryz.func17, Tryz.ntmps17
  by_cases hn : xs.length = ys.length
  · have hn' : (xs.length : Int) = ys.length := by omega
    go_wp2_with fail
    go_loopg [5] xs.length (fun gk i wr => ∃ k : Nat, k ≤ xs.length ∧ gk = xs.length - k ∧ i = .int .i64 k ∧ xs.take k = ys.take k ∧ Qt w wr)
    case atStart => exact ⟨0, Nat.zero_le _, rfl, rfl, by simp, Qt.refl _⟩
    case round =>
      obtain ⟨k, hk, rfl, rfl, htk, hs⟩ := hrel
      have HQ := Lib.hid hs
      have HS := Lib.hid hs.same
      have HT := Lib.hid htk
      clear hs htk
      by_cases hlt : k < xs.length
      · obtain ⟨b, o, rfl, hb, hbc⟩ := H1.out (by omega)
        obtain ⟨b', o', rfl, hb', hbc'⟩ := H2.out (by omega)
        have hlt' : k < ys.length := by omega
        have p0 : wr.cell? ⟨b, o + k, none⟩ = some (.int .u64 (xs.getD k 0)) := by
          rw [HS.out.cell hb (by simp)]; have := hbc k 0 hlt (by omega); simpa [fW] using this
        have q0 : wr.cell? ⟨b', o' + k, none⟩ = some (.int .u64 (ys.getD k 0)) := by
          rw [HS.out.cell hb' (by simp)]; have := hbc' k 0 hlt' (by omega); simpa [fW] using this
        obtain ⟨x, hx⟩ : ∃ x, xs.getD k 0 = x := ⟨_, rfl⟩
        obtain ⟨y, hy⟩ : ∃ y, ys.getD k 0 = y := ⟨_, rfl⟩
        rw [hx] at p0
        rw [hy] at q0
        have HX := Lib.hid hx
        have HY := Lib.hid hy
        clear hx hy hbc hbc'
        have hk1 : (k : Int) < 9223372036854775807 := by omega
        by_cases hxy : x = y
        · subst hxy
          go_wp2_with fail
          go_region
          all_goals
            go_wp2_with fail
            go_roundg (xs.length - (k + 1))
            case measure => omega
            case rel => exact ⟨k + 1, by omega, rfl, by go_num, take_eq_step 0 HT.out hlt hlt' (HX.out.trans HY.out.symm), HQ.out.drew⟩
        · have HNE : Hid (xs ≠ ys) := Lib.hid (fun e => hxy (by rw [← HX.out, ← HY.out, e]))
          have hb : (x != y) = true := by simp [hxy]
          clear hxy
          go_wp2_with fail
          go_region
          all_goals
            go_wp2_with fail
            go_ret
            exact ⟨by rw [decide_eq_false HNE.out]; rfl, HQ.out.drew⟩
      · have he : xs = ys := by
          have := HT.out
          rwa [List.take_of_length_le (by omega), List.take_of_length_le (by omega)] at this
        go_wp2_with fail
        go_ret
        exact ⟨by rw [decide_eq_true he]; rfl, HQ.out⟩
  · have hne : xs ≠ ys := fun e => hn (by rw [e])
    have hn2 : ((xs.length : Int) == (ys.length : Int)) = false := by rw [beq_eq_false_iff_ne]; omega
    go_wp2_with fail
    go_ret
    exact ⟨by rw [decide_eq_false hne]; rfl, Qt.refl _⟩

end Ck
namespace Vm
open Ck
variable {w w' w1 W W' : World} {H : Nat} {cv gv sv hv : Value} {G G1 : List Nat} {t t' : Toy}

/-- A global more. -/
theorem ToyAt.growG {A : Option Addr} {C g C' : Nat} {x : Int} {w5 : World} (h : ToyAt w H cv (.slice A t.globals.length C) sv hv t G) (hh : hv = .slice none 0 0)
    (hown : Ow w5 30 1 (.slice (some ⟨g, 0, none⟩) (t.globals.length + 1) C') (t.globals.length + 1) (t.globals.map (Value.int .u64) ++ [.int .u64 x])) (hs : Same (Value.slice A t.globals.length C).ownBlock.toList w w5) (hat : (Value.slice A t.globals.length C).ownBlock = some g ∨ w.heap.size ≤ g) (hlt : g < w5.heap.size) :
    ToyAt (w5.setCell ⟨H, 3, none⟩ (.slice (some ⟨g, 0, none⟩) (t.globals.length + 1) C')) H cv (.slice (some ⟨g, 0, none⟩) (t.globals.length + 1) C') sv hv { t with globals := t.globals ++ [x] } (g :: G) ∧ Same G w (w5.setCell ⟨H, 3, none⟩ (.slice (some ⟨g, 0, none⟩) (t.globals.length + 1) C')) ∧ ∀ b ∈ g :: G, b ∈ G ∨ w.heap.size ≤ b := by
  have hnew : ∀ b ∈ g :: G, b ∈ G ∨ w.heap.size ≤ b := fun b hb => by
    rcases List.mem_cons.1 hb with h1 | h1
    · subst h1
      rcases hat with h2 | h2
      · exact .inl (h.inG b h2)
      · exact .inr h2
    · exact .inl h1
  have hsG : Same G w w5 := hs.mono (fun y hy => .inl (h.inG y (by simpa using hy)))
  have hS : Same G w (w5.setCell ⟨H, 3, none⟩ (.slice (some ⟨g, 0, none⟩) (t.globals.length + 1) C')) := hsG.setCell (.inl h.inH) _
  have hS1 : Same [H] w5 (w5.setCell ⟨H, 3, none⟩ (.slice (some ⟨g, 0, none⟩) (t.globals.length + 1) C')) := (Same.refl _ _).setCell (by simp) _
  have hoff : ∀ {e s n : Nat} {v : Value} {xs : List Value}, Ow w e s v n xs → e ≠ 30 → e ≠ 62 → Ow (w5.setCell ⟨H, 3, none⟩ (.slice (some ⟨g, 0, none⟩) (t.globals.length + 1) C')) e s v n xs := fun ho n1 n2 =>
    (ho.frame hs (fun b hb hm => ho.ne h.gs n1 hb (by simpa using hm))).frame hS1 (h.ne ho n2)
  have hb5 : Blk w5 H 62 (toyC cv (.slice A t.globals.length C) sv hv t) := Blk.frame h.b hs (fun hm => h.ne h.gs (by decide) H (by simpa using hm) (by simp))
  have hgH : g ≠ H := fun e => by
    rcases hat with h1 | h1
    · exact h.ne h.gs (by decide) g h1 (by rw [e]; simp)
    · have := h.b.lt; omega
  have hhs : Ow (w5.setCell ⟨H, 3, none⟩ (.slice (some ⟨g, 0, none⟩) (t.globals.length + 1) C')) 30 1 hv t.handed.length (t.handed.map (Value.int .u64)) := by
    have h9 := h.hs
    subst hh
    exact (h9.frame hs (fun b hb => by cases hb)).frame hS1 (fun b hb => by cases hb)
  refine ⟨⟨Blk.set hb5 3 _, hoff h.cs (by decide) (by decide), ?_, hoff h.ss (by decide) (by decide), hhs, List.mem_cons_of_mem _ h.inH, fun b hb => List.mem_cons_of_mem _ (h.inC b hb), fun b hb => by cases hb; simp, fun b hb => List.mem_cons_of_mem _ (h.inS b hb), fun b hb => List.mem_cons_of_mem _ (h.inA b hb), fun b hb => by subst hh; simp [Value.ownBlock], fun b hb => ?_⟩, hS, hnew⟩
  · have h2 := hown.frame hS1 (fun b hb hm => hgH (by cases hb; simpa using hm))
    simpa using h2
  · rcases List.mem_cons.1 hb with h1 | h1
    · subst h1; simpa using hlt
    · exact Nat.lt_of_lt_of_le (h.gl b h1) hS.size

def newToy (n : Nat) (off most : Int) : Toy := ⟨off, most, [], List.replicate n (mkW 4 0), [], 0, 0, 0, [], false⟩
/-- A new toy in memory. -/
def NewT (w : World) (n : Nat) (off most : Int) (H : Nat) (G : List Nat) (w' : World) : Prop := (∃ gv, ToyAt w' H (.slice none 0 0) gv (.slice none 0 0) (.slice none 0 0) (newToy n off most) G) ∧ (∀ b ∈ G, w.heap.size ≤ b) ∧ Same [] w w'

set_option maxHeartbeats 4000000 in
set_option maxRecDepth 100000 in
theorem toy_any (hv : Vars w) (cv pv : Value) (GA : Option Addr) (n GC : Nat) (hc : ∃ A l C, cv = .slice A l C) (hp : ∃ A l C, pv = .slice A l C) (hn : n ≤ 1000000) (off most : Int) :
    Calls Tryz.prog 12 #[.agg #[cv, pv, .slice GA n GC], .int .i64 off, .int .i64 most] w fun e w' => ∃ H G, e = .returned (.pointer (some ⟨H, 0, none⟩)) ∧ NewT w n off most H G w' := by
  obtain ⟨A1, l1, C1, rfl⟩ := hc
  obtain ⟨A2, l2, C2, rfl⟩ := hp
  obtain ⟨i0, hi1, hz0, hz1, hz2⟩ := info_parts infoV_W
  have HI0 := Lib.hid (And.intro hi1 (And.intro hz0 (And.intro hz1 hz2)))
  have HV := Lib.hid hv
  clear hi1 hz0 hz1 hz2 hv
  go_enter Tryz.func12, Tryz.ntmps12
  go_wp2_with fail
  obtain ⟨wa, hwa⟩ : ∃ wa, wa = w.alloc (.cells #[.slice A1 l1 C1, .slice A2 l2 C2, .slice GA n GC] 27) := ⟨_, rfl⟩
  rw [← hwa]
  obtain ⟨wb, hwb⟩ : ∃ wb, wb = wa.alloc (.cells #[.int .i64 off, .int .i64 most, .slice none 0 0, .slice none 0 0, .slice none 0 0, .int .i64 0, .int .i64 0, .int .i64 0, .slice none 0 0, .bool false] 62) := ⟨_, rfl⟩
  rw [← hwb]
  have hsa : Same [] w wa := by rw [hwa]; exact (Same.refl _ _).alloc _
  have hsb : Same [] wa wb := by rw [hwb]; exact (Same.refl _ _).alloc _
  have hza : wa.heap.size = w.heap.size + 1 := by rw [hwa]; simp
  have hcb : Blk wb w.heap.size 27 [.slice A1 l1 C1, .slice A2 l2 C2, .slice GA n GC] := Blk.frame (by rw [hwa]; exact Blk.new w _ _) hsb (by simp)
  have htb : Blk wb (w.heap.size + 1) 62 [.int .i64 off, .int .i64 most, .slice none 0 0, .slice none 0 0, .slice none 0 0, .int .i64 0, .int .i64 0, .int .i64 0, .slice none 0 0, .bool false] := by rw [← hza, hwb]; exact Blk.new wa _ _
  have ht0 : ToyAt wb (w.heap.size + 1) (.slice none 0 0) (.slice none 0 0) (.slice none 0 0) (.slice none 0 0) (newToy 0 off most) [w.heap.size + 1] :=
    ⟨htb, World.ownsRow_nil _ _ _ _, World.ownsRow_nil _ _ _ _, World.ownsRow_nil _ _ _ _, World.ownsRow_nil _ _ _ _, by simp, (fun b hb => by cases hb), (fun b hb => by cases hb), (fun b hb => by cases hb), (fun b hb => by cases hb), (fun b hb => by cases hb), fun b hb => by rw [List.mem_singleton.1 hb]; exact htb.lt⟩
  have HCB := Lib.hid hcb
  have HT0 := Lib.hid ht0
  have HSB := Lib.hid (hsa.trans hsb)
  clear hwa hwb hsa hsb hza hcb htb ht0
  go_loopg [8] n (fun gk i wr => ∃ (j : Nat) (gv : Value) (G : List Nat), j ≤ n ∧ gk = n - j ∧ i = .int .i64 j ∧ ToyAt wr (w.heap.size + 1) (.slice none 0 0) gv (.slice none 0 0) (.slice none 0 0) (newToy j off most) G ∧ (∀ b ∈ G, w.heap.size + 1 ≤ b) ∧ Same [] w wr ∧ Blk wr w.heap.size 27 [.slice A1 l1 C1, .slice A2 l2 C2, .slice GA n GC])
  case atStart => exact ⟨0, _, _, Nat.zero_le _, rfl, rfl, HT0.out, fun b hb => by rw [List.mem_singleton.1 hb]; exact Nat.le_refl _, HSB.out, HCB.out⟩
  case round =>
    obtain ⟨j, gv, G, hj, rfl, rfl, ht, hG, hs, hcb⟩ := hrel
    obtain ⟨A, C, rfl⟩ := own_lit ht.gs
    have c2 := hcb.cell 2
    have cz := hcb.lt
    have t3 := ht.b.cell 3
    have tz := ht.b.lt
    have tf := ht.b.frozen
    simp only [toyC, List.getElem?_cons_zero, List.getElem?_cons_succ] at c2 t3
    have hgl : (newToy j off most).globals.length = j := by simp [newToy]
    rw [hgl] at t3
    have HT := Lib.hid ht
    have HG := Lib.hid hG
    have HS := Lib.hid hs
    have HCB := Lib.hid hcb
    have HVr := Lib.hid (HV.out.frame hs (by simp))
    clear ht hG hs hcb HT0 HSB hgl
    by_cases hlt : j < n
    · go_wp2_with fail
      refine (make_two 4 0 (by decide) (by unfold in64; omega) HVr.out).mono ?_
      rintro e w1 ⟨rfl, rfl⟩
      have HTn : Hid (w.heap.size + 1 ∉ (Value.slice A j C).ownBlock.toList) := Lib.hid (fun hm => by
        have h9 := HT.out.gs
        simp only [newToy, List.length_replicate] at h9
        exact h9.ne_blk HT.out.b (by decide) (by simpa using hm))
      have HGS : Hid (Ow wr 30 1 (.slice A j C) j ((List.replicate j (mkW 4 0)).map (Value.int .u64))) := Lib.hid (by have h9 := HT.out.gs; simp only [newToy, List.length_replicate] at h9; exact h9)
      go_wp2_with (at_builtin; refine wpList_append_lies _ rfl (.tmp 30) (.tmp 32) 23 rfl 0 30 i0 _ 1 8 Tryz.underlying23 HI0.out.1 HI0.out.2.1 HI0.out.2.2.1 HI0.out.2.2.2 rfl (by decide) (.slice A j C) j ((List.replicate j (mkW 4 0)).map (Value.int .u64)) rfl (HGS.out.frame ((Same.refl [] wr).alloc _) (by simp)) _ 1 1 [.int .u64 (mkW 4 0)] rfl rfl (cells1_new _ _ _) (by intro u hu; simp at hu; subst hu; rfl) (by omega) (by unfold maxLen; omega) (by omega) (Nat.zero_le _) _ rfl ?_)
      intro g C5 w5 hown hgrow hat hlt5
      have hsA : Same (Value.slice A j C).ownBlock.toList wr w5 := ((Same.refl _ wr).alloc _).trans (Same.of_grown hgrow)
      have hx1 := (hsA.cell tz HTn.out).trans t3
      have hx2 : ∀ i, w5.frozen? ⟨w.heap.size + 1, i, none⟩ = false := (fun i => (hsA.frozen tz HTn.out).trans (tf i))
      have ht9 : ToyAt wr (w.heap.size + 1) (.slice none 0 0) (.slice A (newToy j off most).globals.length C) (.slice none 0 0) (.slice none 0 0) (newToy j off most) G := HT.out
      have hgl : (newToy j off most).globals.length = j := by simp [newToy]
      have hgl2 : (newToy j off most).globals = List.replicate j (mkW 4 0) := rfl
      have hgr := ht9.growG (x := mkW 4 0) (w5 := w5) (g := g) (C' := C5) rfl (by rw [hgl, hgl2, List.map_replicate]; exact hown) (by rw [hgl]; exact hsA) (by rw [hgl]; rcases hat with h | h; exact .inl h; right; rw [h]; simp) hlt5
      rw [hgl] at hgr
      have hnt : ({ newToy j off most with globals := (newToy j off most).globals ++ [mkW 4 0] } : Toy) = newToy (j + 1) off most := by simp [newToy, List.replicate_succ']
      rw [hnt] at hgr
      have HGR := Lib.hid hgr
      clear hown hgrow hat hlt5 hsA ht9 hgl hgl2 hgr hnt c2 t3 tf
      go_wp2_with fail
      go_roundg (n - (j + 1))
      case measure => omega
      case rel =>
        have hnb : w.heap.size ∉ G := fun hm => by have := HG.out _ hm; omega
        refine ⟨j + 1, _, _, by omega, rfl, by go_num, HGR.out.1, fun b hb => ?_, HS.out.trans' HGR.out.2.1 (fun x hx => .inr (Nat.le_trans (Nat.le_succ _) (HG.out x hx))), HCB.out.frame HGR.out.2.1 hnb⟩
        rcases HGR.out.2.2 b hb with h | h
        · exact HG.out b h
        · have := HCB.out.lt; omega
    · obtain rfl : j = n := by omega
      go_wp2_with fail
      go_ret
      exact ⟨_, G, rfl, ⟨_, HT.out⟩, fun b hb => Nat.le_trans (Nat.le_succ _) (HG.out b hb), HS.out⟩

/-- The first example's code. -/
def firstC : Cd.Co := ⟨[mkW 5 5, mkW 1 0], [], [⟨0, [⟨1, 0⟩, ⟨1, 1⟩, ⟨13, 1⟩, ⟨13, 2⟩, ⟨12, 0⟩]⟩]⟩

set_option maxHeartbeats 4000000 in
set_option maxRecDepth 100000 in
theorem first_any (hv : Vars w) : Calls Tryz.prog 24 #[] w fun e w' => ∃ b1 b2, e = .returned (.agg #[.slice (some ⟨b1, 0, none⟩) 2 2, .slice (some ⟨b2, 0, none⟩) 1 1, .slice none 0 0]) ∧ RCoAt w' (.slice (some ⟨b1, 0, none⟩) 2 2) (.slice (some ⟨b2, 0, none⟩) 1 1) (.slice none 0 0) firstC ∧ Same [] w w' := by
  have HV := Lib.hid (fun W (hs : Same [] w W) => hv.frame hs (by simp))
  clear hv
  go_enter Tryz.func24, Tryz.ntmps24
  go_wp2_with fail
  refine (int_any 5 (by unfold in64; omega) (HV.out _ ((Same.refl _ _).alloc _))).mono ?_
  rintro e w1 ⟨rfl, rfl⟩
  go_wp2_with fail
  refine (make_two 1 0 (by decide) (by unfold in64; omega) (HV.out _ ((Same.refl _ _).alloc _))).mono ?_
  rintro e w1 ⟨rfl, rfl⟩
  go_wp2_with fail
  refine bodyPost_ret (v := .agg #[.slice (some ⟨w.heap.size + 1 + 1, 0, none⟩) 2 2, .slice (some ⟨w.heap.size + 1 + 1 + 1, 0, none⟩) 1 1, .slice none 0 0]) (by simp [results, Tryz.results24, go_sem]) rfl ?_
  obtain ⟨wa, hwa⟩ : ∃ wa, wa = w.alloc (.cells #[.slice (some ⟨w.heap.size + 1 + 1, 0, none⟩) 2 2, .slice (some ⟨w.heap.size + 1 + 1 + 1, 0, none⟩) 1 1, .slice none 0 0] 27) := ⟨_, rfl⟩
  rw [← hwa]
  have hza : wa.heap.size = w.heap.size + 1 := by rw [hwa]; simp
  have hsa : Same [] w wa := by rw [hwa]; exact (Same.refl _ _).alloc _
  have hb1 : Blk (((wa.alloc (.cells #[.int .u8 1, .int .i64 0, .int .u8 1, .int .i64 1, .int .u8 13, .int .i64 1, .int .u8 13, .int .i64 2, .int .u8 12, .int .i64 0] 53)).alloc (.cells #[.int .u64 (mkW 5 5), .int .u64 (mkW 1 0)] 30)).alloc (.cells #[.int .i64 0, .slice (some ⟨w.heap.size + 1, 0, none⟩) 5 5] 56)) (w.heap.size + 1) 53 [.int .u8 1, .int .i64 0, .int .u8 1, .int .i64 1, .int .u8 13, .int .i64 1, .int .u8 13, .int .i64 2, .int .u8 12, .int .i64 0] := ((Ck.blk_at' hza.symm).alloc _).alloc _
  have hb2 : Blk (((wa.alloc (.cells #[.int .u8 1, .int .i64 0, .int .u8 1, .int .i64 1, .int .u8 13, .int .i64 1, .int .u8 13, .int .i64 2, .int .u8 12, .int .i64 0] 53)).alloc (.cells #[.int .u64 (mkW 5 5), .int .u64 (mkW 1 0)] 30)).alloc (.cells #[.int .i64 0, .slice (some ⟨w.heap.size + 1, 0, none⟩) 5 5] 56)) (w.heap.size + 1 + 1) 30 [.int .u64 (mkW 5 5), .int .u64 (mkW 1 0)] := (Ck.blk_at' (by simp [hza])).alloc _
  have hb3 : Blk (((wa.alloc (.cells #[.int .u8 1, .int .i64 0, .int .u8 1, .int .i64 1, .int .u8 13, .int .i64 1, .int .u8 13, .int .i64 2, .int .u8 12, .int .i64 0] 53)).alloc (.cells #[.int .u64 (mkW 5 5), .int .u64 (mkW 1 0)] 30)).alloc (.cells #[.int .i64 0, .slice (some ⟨w.heap.size + 1, 0, none⟩) 5 5] 56)) (w.heap.size + 1 + 1 + 1) 56 [.int .i64 0, .slice (some ⟨w.heap.size + 1, 0, none⟩) 5 5] := Ck.blk_at' (by simp [hza])
  refine ⟨w.heap.size + 1 + 1, w.heap.size + 1 + 1 + 1, rfl, ⟨?_, ⟨fun _ => .slice (some ⟨w.heap.size + 1, 0, none⟩) 5 5, ?_, fun i hi => ?_⟩, ?_⟩, ((hsa.alloc _).alloc _).alloc _⟩
  · refine ⟨_, 2, rfl, by decide, by unfold maxLen; omega, fun _ => ⟨w.heap.size + 1 + 1, 0, rfl, hb2.lt, fun i j hi hj => ?_⟩⟩
    obtain rfl : j = 0 := by omega
    have hi' : i < 2 := hi
    obtain rfl | rfl : i = 0 ∨ i = 1 := by omega
    · exact hb2.cell 0
    · exact hb2.cell 1
  · refine ⟨_, 1, rfl, by decide, by unfold maxLen; omega, fun _ => ⟨w.heap.size + 1 + 1 + 1, 0, rfl, hb3.lt, fun i j hi hj => ?_⟩⟩
    have hi' : i < 1 := hi
    obtain rfl : i = 0 := by omega
    obtain rfl | rfl : j = 0 ∨ j = 1 := by omega
    · exact hb3.cell 0
    · exact hb3.cell 1
  · have hi' : i < 1 := hi
    obtain rfl : i = 0 := by omega
    refine ⟨_, 5, rfl, by decide, by unfold maxLen; omega, fun _ => ⟨w.heap.size + 1, 0, rfl, hb1.lt, fun i j hi hj => ?_⟩⟩
    have hi2 : i < 5 := hi
    obtain rfl | rfl : j = 0 ∨ j = 1 := by omega
    · match i, hi2 with
      | 0, _ => exact hb1.cell 0
      | 1, _ => exact hb1.cell 2
      | 2, _ => exact hb1.cell 4
      | 3, _ => exact hb1.cell 6
      | 4, _ => exact hb1.cell 8
    · match i, hi2 with
      | 0, _ => exact hb1.cell 1
      | 1, _ => exact hb1.cell 3
      | 2, _ => exact hb1.cell 5
      | 3, _ => exact hb1.cell 7
      | 4, _ => exact hb1.cell 9
  · exact ⟨none, 0, rfl, Nat.le_refl _, by unfold maxLen; omega, fun h => absurd h (by decide)⟩
theorem first_w : WCo firstC := by
  refine ⟨fun x hx => ?_, (fun s hs => by cases hs), fun p hp => ?_⟩
  · simp only [firstC, List.mem_cons, List.not_mem_nil, or_false] at hx
    rcases hx with rfl | rfl <;> exact mkW_in _ _
  · simp only [firstC, List.mem_cons, List.not_mem_nil, or_false] at hp
    subst hp
    refine ⟨by unfold in64; simp only; omega, fun i hi => ?_⟩
    simp only [List.mem_cons, List.not_mem_nil, or_false] at hi
    rcases hi with rfl | rfl | rfl | rfl | rfl <;> (constructor <;> simp [in64])
theorem first_e : newE firstC 0 = 0 ∧ newE firstC 1 = 1 := by
  constructor <;> kernel_rfl
end Vm
end Go.Proofs.YtkepcdbogeineaaGreatDoor
