/- A thread asks for a cell: alloc. -/
import Derived.Test.YtkepcdbogeineaaGreatDoorVmI
namespace Go.Proofs.YtkepcdbogeineaaGreatDoor
open Go.RowKit Hp Ck
namespace Vm
variable {w w' w1 W W' : World} {T M H : Nat} {cv pv gv fv sv rv cc gc sc hc : Value} {kvs : List Value} {th th' : Th} {FC FT G FT1 G1 : List Nat} {t t' : Toy}

/-- A request laid, or taken away. -/
theorem ThAt.req (h : ThAt W T M cv pv gv fv sv rv kvs th FC FT) (v : Value) (o : Option (Int × Int)) (hr : ReqR W v o) (hn : ∀ b, v.ownBlock = some b → b ∉ FT) (hl : ∀ b, v.ownBlock = some b → b < W.heap.size) (hcd : ∀ b, v.ownBlock = some b → b ∉ FC) :
    ThAt (W.setCell ⟨T, 8, none⟩ v) T M cv pv gv fv sv v kvs { th with req := o } FC (v.ownBlock.toList ++ FT) ∧ Same FT W (W.setCell ⟨T, 8, none⟩ v) := by
  have hs : Same [T] W (W.setCell ⟨T, 8, none⟩ v) := (Same.refl _ _).setCell (by simp) v
  have hs2 : Same FT W (W.setCell ⟨T, 8, none⟩ v) := (Same.refl _ _).setCell (.inl h.inT) v
  have hvT : ∀ b, v.ownBlock = some b → b ∉ [T] := fun b hb hm => hn b hb (by rw [List.mem_singleton.1 hm]; exact h.inT)
  refine ⟨⟨Blk.set h.b 8 v, h.oc.frame hs2 h.cfd, (hs2.block M (h.cl _ h.inM) (h.cfd _ h.inM)).trans h.tb, h.fr.frame hs h.fne, h.st.frame hs h.sne, hr.frame hs hvT, h.inM, List.mem_append_right _ h.inT, fun b hb => List.mem_append_right _ (h.inF b hb), fun b hb => List.mem_append_right _ (h.inS b hb), fun b hb => List.mem_append_left _ (by simp [hb]), fun b hb hm => hn b hm (h.inS b hb), fun b hb hm => ?_, fun b hb => Nat.lt_of_lt_of_le (h.cl b hb) hs.size, fun b hb => ?_⟩, hs2⟩
  · rcases List.mem_append.1 hm with h1 | h1
    · exact hcd b (by simpa using h1) hb
    · exact h.cfd b hb h1
  · rcases List.mem_append.1 hb with h1 | h1
    · exact Nat.lt_of_lt_of_le (hl b (by simpa using h1)) hs.size
    · exact Nat.lt_of_lt_of_le (h.tl b h1) hs.size
/-- What alloc leaves. -/
def VaP (w : World) (T M : Nat) (cv pv gv : Value) (kvs : List Value) (H : Nat) (th : Th) (t : Toy) (FC FT G : List Nat) (k a b : Int) (e : Ending) (w' : World) : Prop :=
  if (t.cells.length : Int) < t.most then ∃ v, e = .returned (.tuple #[.int .u64 (mkW 8 (t.off + t.cells.length)), .bool true, .agg (evC { what := 5, cell := t.off + t.cells.length, old := a, new := b } v).toArray]) ∧ (∃ A C, v = .slice A (shadL a b).length C) ∧ Ow w' 3 1 v (shadL a b).length ((shadL a b).map (Value.int .i64)) ∧ ∃ FT' G', VT w' T M cv pv gv kvs H { th with req := none } ((t.ask [a, b]).more ⟨k, 0, a, b⟩) FC FT' G' ∧ Same (FT ++ G) w w' ∧ (∀ b, b ∈ FT' ∨ b ∈ G' → b ∈ FT ∨ b ∈ G ∨ w.heap.size ≤ b) ∧ ∀ x, v.ownBlock = some x → w.heap.size ≤ x ∧ x ∉ FT' ∧ x ∉ G'
  else e = .returned (.tuple #[.int .u64 0, .bool false, .agg (evC { what := 6 } (.slice none 0 0)).toArray]) ∧ VG w T M cv pv gv kvs H { th with req := some (a, b) } (t.ask [a, b]) FC FT G w'

set_option maxHeartbeats 4000000 in
set_option maxRecDepth 100000 in
theorem valloc_any (h : VT w T M cv pv gv kvs H th t FC FT G) (hf : t.Fine) (hv : Vars w) (hlow : ∀ b, b ∈ FT ∨ b ∈ G → 2 ≤ b) (k a b : Int) (ha : 0 ≤ a ∧ a < 18446744073709551616) (hb : 0 ≤ b ∧ b < 18446744073709551616) :
    Calls Tryz.prog 77 #[.pointer (some ⟨T, 0, none⟩), toyV H, .int .u8 k, .int .u64 a, .int .u64 b] w (VaP w T M cv pv gv kvs H th t FC FT G k a b) := by
  have hm : ∀ W, (method 313 39 (.pointer (some ⟨H, 0, none⟩)) "Alloc").run Tryz.prog W = .ok (134, .pointer (some ⟨H, 0, none⟩)) W := fun _ => by kernel_rfl
  obtain ⟨fv, sv, rv, h1⟩ := h.th
  obtain ⟨cc, gc, sc, hc, h2⟩ := h.toy
  have hof := hf.off
  have hle := hf.len
  have HA := Lib.hid (fun W (hs : Same [] w W) => alloc_any (w := W) (h2.frame0 hs) hf k a b ha hb)
  have HTl := Lib.hid h1.tl
  have HTb := Lib.hid h1
  have HH := Lib.hid h
  have HV := Lib.hid hv
  have HLW := Lib.hid hlow
  have HGl := Lib.hid h2.gl
  clear h h1 h2 hf hv hlow ha hb
  unfold VaP
  unfold toyV
  by_cases hroom : (t.cells.length : Int) < t.most
  · simp only [if_pos hroom]
    unfold AllocP at HA
    simp only [if_pos hroom] at HA
    obtain ⟨l, hl⟩ : ∃ l, l = t.cells.length := ⟨_, rfl⟩
    rw [← hl] at HA hle ⊢
    have HL := Lib.hid hl
    clear hroom hl
    go_enter Tryz.func77, Tryz.ntmps77
    go_wp2_with fail
    refine (HA.out _ ((Same.refl [] w).alloc _)).mono ?_
    rintro e w1 ⟨cc1, hc1, G1, ⟨v, rfl, ⟨A9, C9, rfl⟩, ho9, hn9, ht1⟩, hs1, hG1⟩
    have hR : w.heap.size ∉ G := fun hm => by have := HGl.out _ hm; omega
    have hb : Blk w1 w.heap.size 44 [.int .i64 0, .int .u8 0, .int .i64 0, .int .i64 0, .int .u64 0, .int .u64 0, .slice none 0 0, .int .i64 0, .bool false, .int .i64 0] := (Blk.new w 44 [.int .i64 0, .int .u8 0, .int .i64 0, .int .i64 0, .int .u64 0, .int .u64 0, .slice none 0 0, .int .i64 0, .bool false, .int .i64 0]).frame hs1 hR
    have r0 := hb.cell 0
    have r1 := hb.cell 1
    have r2 := hb.cell 2
    have r3 := hb.cell 3
    have r4 := hb.cell 4
    have r5 := hb.cell 5
    have r6 := hb.cell 6
    have r7 := hb.cell 7
    have r8 := hb.cell 8
    have r9 := hb.cell 9
    have rz := hb.lt
    have rf := hb.frozen
    have hs01 : Same G w w1 := ((Same.refl G w).alloc _).trans hs1
    have hth1 := HTb.out.frame hs01 HH.out.dC (fun b hb hm => HH.out.dT b hm hb)
    have q8 : w1.cell? ⟨T, 8, none⟩ = some rv := hth1.b.cell 8
    have qf := hth1.b.frozen
    have qz := hth1.b.lt
    have hRT : w.heap.size ≠ T := fun e => by have := HTb.out.b.lt; omega
    have hvars : Vars w1 := HV.out.frame hs01 (fun b hb => HLW.out b (.inr hb))
    have HREF := Lib.hid (fun W (hs : Same [T] w1 W) => ref_any (w := W) (t.off + (l : Int)) (by unfold in64; omega) (hvars.frame hs (fun b hb => by rw [List.mem_singleton.1 hb]; exact HLW.out T (.inl HTb.out.inT))))
    have HTH := Lib.hid hth1
    have HO9 := Lib.hid ho9
    have HN9 := Lib.hid hn9
    have HT1 := Lib.hid ht1
    have HS := Lib.hid hs01
    have HG1 := Lib.hid hG1
    have HB := Lib.hid hb
    clear hb hs1 hs01 hth1 hvars ho9 hn9 ht1 hG1 HA
    go_wp2_with fail
    refine (HREF.out _ ((Same.refl _ _).setCell (by simp) _)).mono ?_
    rintro e w2 ⟨rfl, rfl⟩
    go_wp2_with fail
    refine bodyPost_ret (v := .tuple #[.int .u64 (mkW 8 (t.off + l)), .bool true, .agg (evC { what := 5, cell := t.off + l, old := a, new := b } (.slice A9 (shadL a b).length C9)).toArray]) (by simp [results, Tryz.results77, go_sem, evC, r0, r1, r2, r3, r4, r5, r6, r7, r8, r9]) rfl ?_
    obtain ⟨q1, q2⟩ := HTH.out.req (.slice none 0 0) none rfl (fun b hb => by cases hb) (fun b hb => by cases hb) (fun b hb => by cases hb)
    have hGT : ∀ b ∈ G1, b ∉ FT := fun b hb hm => by
      rcases HG1.out b hb with h | h
      · exact HH.out.dT b h hm
      · have := HTl.out b hm; simp at h; omega
    have hGC : ∀ b ∈ FC, b ∉ G1 := fun b hb hm => by
      rcases HG1.out b hm with h | h
      · exact HH.out.dC b hb h
      · have := HTb.out.cl b hb; simp at h; omega
    have hvt : VT (w1.setCell ⟨T, 8, none⟩ (.slice none 0 0)) T M cv pv gv kvs H { th with req := none } ((t.ask [a, b]).more ⟨k, 0, a, b⟩) FC FT G1 := ⟨⟨_, _, _, q1⟩, ⟨_, _, _, _, HT1.out.frame q2 hGT⟩, hGT, hGC⟩
    have hR1 : w.heap.size ∉ G1 := fun hm => by
      rcases HG1.out _ hm with h | h
      · have := HGl.out _ h; omega
      · simp at h; omega
    have hTT : T ∈ FT := HTb.out.inT
    refine ⟨_, rfl, ⟨A9, C9, rfl⟩, (HO9.out.frame (F := [T]) ((Same.refl _ _).setCell (.inl (by simp)) _) (fun x hx hm => ?_)).frame (F := [w.heap.size]) (same10 (Same.refl _ _) (.inl (by simp)) _ _ _ _ _ _ _ _ _ _) (fun x hx hm => ?_), FT, G1, hvt.frameF (F := [w.heap.size]) (same10 (Same.refl _ _) (.inl (by simp)) _ _ _ _ _ _ _ _ _ _) (fun x hx hm => ?_) (fun x hx hm => ?_) (fun x hx hm => ?_), same10 (((HS.out.mono (fun x hx => .inl (by simp [hx]))).trans (q2.mono (fun x hx => .inl (by simp [hx]))))) (.inr (Nat.le_refl _)) _ _ _ _ _ _ _ _ _ _, fun x hx => ?_, fun x hx => ⟨by have := (HN9.out x hx).1; simp at this; omega, fun hm => by have := HTl.out x hm; have := (HN9.out x hx).1; simp at this; omega, (HN9.out x hx).2⟩⟩
    · have := (HN9.out x hx).1; have := List.mem_singleton.1 hm; have := HTl.out T hTT; simp at *; omega
    · have := (HN9.out x hx).1; have := List.mem_singleton.1 hm; simp at *; omega
    · have := HTb.out.cl x hx; have := List.mem_singleton.1 hm; omega
    · have := HTl.out x hx; have := List.mem_singleton.1 hm; omega
    · exact hR1 (by rw [← List.mem_singleton.1 hm]; exact hx)
    · rcases hx with h | h
      · exact .inl h
      · rcases HG1.out x h with h | h
        · exact .inr (.inl h)
        · right; right; simp at h; omega
  · simp only [if_neg hroom]
    unfold AllocP at HA
    simp only [if_neg hroom] at HA
    clear hroom
    go_enter Tryz.func77, Tryz.ntmps77
    go_wp2_with fail
    refine (HA.out _ ((Same.refl [] w).alloc _)).mono ?_
    rintro e w1 ⟨cc1, hc1, G1, ⟨rfl, ht1⟩, hs1, hG1⟩
    have hR : w.heap.size ∉ G := fun hm => by have := HGl.out _ hm; omega
    have hb : Blk w1 w.heap.size 44 [.int .i64 0, .int .u8 0, .int .i64 0, .int .i64 0, .int .u64 0, .int .u64 0, .slice none 0 0, .int .i64 0, .bool false, .int .i64 0] := (Blk.new w 44 [.int .i64 0, .int .u8 0, .int .i64 0, .int .i64 0, .int .u64 0, .int .u64 0, .slice none 0 0, .int .i64 0, .bool false, .int .i64 0]).frame hs1 hR
    have r0 := hb.cell 0
    have r1 := hb.cell 1
    have r2 := hb.cell 2
    have r3 := hb.cell 3
    have r4 := hb.cell 4
    have r5 := hb.cell 5
    have r6 := hb.cell 6
    have r7 := hb.cell 7
    have r8 := hb.cell 8
    have r9 := hb.cell 9
    have rz := hb.lt
    have rf := hb.frozen
    have hs01 : Same G w w1 := ((Same.refl G w).alloc _).trans hs1
    have hth1 := HTb.out.frame hs01 HH.out.dC (fun b hb hm => HH.out.dT b hm hb)
    have q8 : w1.cell? ⟨T, 8, none⟩ = some rv := hth1.b.cell 8
    have qf := hth1.b.frozen
    have qz := hth1.b.lt
    have hRT : w.heap.size ≠ T := fun e => by have := HTb.out.b.lt; omega
    have HTH := Lib.hid hth1
    have HT1 := Lib.hid ht1
    have HS := Lib.hid hs01
    have HG1 := Lib.hid hG1
    clear hb hs1 hs01 hth1 ht1 hG1 HA
    go_wp2_with fail
    refine bodyPost_ret (v := .tuple #[.int .u64 0, .bool false, .agg (evC { what := 6 } (.slice none 0 0)).toArray]) (by simp [results, Tryz.results77, go_sem, evC, r0, r1, r2, r3, r4, r5, r6, r7, r8, r9, World.cell?_alloc_lt, rz]) rfl ?_
    have hz1 : w.heap.size ≤ w1.heap.size := HS.out.size
    have hth2 := HTH.out.frame0 ((Same.refl [] w1).alloc (.cells #[.int .u64 a, .int .u64 b] 30))
    have hown : Ow (w1.alloc (.cells #[.int .u64 a, .int .u64 b] 30)) 30 1 (.slice (some ⟨w1.heap.size, 0, none⟩) 2 2) 2 [.int .u64 a, .int .u64 b] := ⟨rfl, .inr ⟨w1.heap.size, 2, _, rfl, Nat.zero_le _, heap_alloc_new w1 _, Nat.le_refl _, by decide, by simp, by simp⟩⟩
    have hXT : w1.heap.size ∉ FT := fun hm => by have := HTl.out _ hm; omega
    have hXC : w1.heap.size ∉ FC := fun hm => by have := HTb.out.cl _ hm; omega
    obtain ⟨q1, q2⟩ := hth2.req (.slice (some ⟨w1.heap.size, 0, none⟩) 2 2) (some (a, b)) ⟨w1.heap.size, 2, rfl, hown⟩ (fun b hb => by cases hb; exact hXT) (fun b hb => by cases hb; simp) (fun b hb => by cases hb; exact hXC)
    have hF : (Value.slice (some ⟨w1.heap.size, 0, none⟩) 2 2).ownBlock.toList ++ FT = w1.heap.size :: FT := rfl
    rw [hF] at q1
    have hX1 : w1.heap.size ∉ G1 := fun hm => by have := HT1.out.gl _ hm; omega
    have hGT : ∀ b ∈ G1, b ∉ FT := fun b hb hm => by
      rcases HG1.out b hb with h | h
      · exact HH.out.dT b h hm
      · have := HTl.out b hm; simp at h; omega
    have hGT2 : ∀ b ∈ G1, b ∉ w1.heap.size :: FT := fun b hb hm => by
      rcases List.mem_cons.1 hm with h | h
      · exact hX1 (by rw [← h]; exact hb)
      · exact hGT b hb h
    have hGC : ∀ b ∈ FC, b ∉ G1 := fun b hb hm => by
      rcases HG1.out b hm with h | h
      · exact HH.out.dC b hb h
      · have := HTb.out.cl b hb; simp at h; omega
    have htoy := (HT1.out.frame0 ((Same.refl [] w1).alloc (.cells #[.int .u64 a, .int .u64 b] 30))).frame q2 hGT
    have hvt : VT ((w1.alloc (.cells #[.int .u64 a, .int .u64 b] 30)).setCell ⟨T, 8, none⟩ (.slice (some ⟨w1.heap.size, 0, none⟩) 2 2)) T M cv pv gv kvs H { th with req := some (a, b) } (t.ask [a, b]) FC (w1.heap.size :: FT) G1 := ⟨⟨_, _, _, q1⟩, ⟨_, _, _, _, htoy⟩, hGT2, hGC⟩
    have hR1 : w.heap.size ∉ G1 := fun hm => by
      rcases HG1.out _ hm with h | h
      · have := HGl.out _ h; omega
      · simp at h; omega
    have hTT : T ∈ FT := HTb.out.inT
    have hW : (((((((((((w1.setCell ⟨T, 8, none⟩ (.slice (some ⟨w1.heap.size, 0, none⟩) 2 2)).setCell ⟨w.heap.size, 0, none⟩ (.int .i64 0)).setCell ⟨w.heap.size, 1, none⟩ (.int .u8 6)).setCell ⟨w.heap.size, 2, none⟩ (.int .i64 0)).setCell ⟨w.heap.size, 3, none⟩ (.int .i64 0)).setCell ⟨w.heap.size, 4, none⟩ (.int .u64 0)).setCell ⟨w.heap.size, 5, none⟩ (.int .u64 0)).setCell ⟨w.heap.size, 6, none⟩ (.slice none 0 0)).setCell ⟨w.heap.size, 7, none⟩ (.int .i64 0)).setCell ⟨w.heap.size, 8, none⟩ (.bool false)).setCell ⟨w.heap.size, 9, none⟩ (.int .i64 0)).alloc (.cells #[.int .u64 a, .int .u64 b] 30) = ((((((((((((w1.alloc (.cells #[.int .u64 a, .int .u64 b] 30)).setCell ⟨T, 8, none⟩ (.slice (some ⟨w1.heap.size, 0, none⟩) 2 2)).setCell ⟨w.heap.size, 0, none⟩ (.int .i64 0)).setCell ⟨w.heap.size, 1, none⟩ (.int .u8 6)).setCell ⟨w.heap.size, 2, none⟩ (.int .i64 0)).setCell ⟨w.heap.size, 3, none⟩ (.int .i64 0)).setCell ⟨w.heap.size, 4, none⟩ (.int .u64 0)).setCell ⟨w.heap.size, 5, none⟩ (.int .u64 0)).setCell ⟨w.heap.size, 6, none⟩ (.slice none 0 0)).setCell ⟨w.heap.size, 7, none⟩ (.int .i64 0)).setCell ⟨w.heap.size, 8, none⟩ (.bool false)).setCell ⟨w.heap.size, 9, none⟩ (.int .i64 0)) := by
      simp only [World.setCell_alloc_past _ T 8 _ qz]
      repeat rw [World.setCell_alloc_past _ w.heap.size _ _ (by simpa using rz)]
    rw [hW]
    refine ⟨rfl, w1.heap.size :: FT, G1, hvt.frameF (F := [w.heap.size]) (same10 (Same.refl _ _) (.inl (by simp)) _ _ _ _ _ _ _ _ _ _) (fun x hx hm => ?_) (fun x hx hm => ?_) (fun x hx hm => ?_), same10 (((HS.out.mono (fun x hx => .inl (by simp [hx]))).trans (((Same.refl _ w1).alloc _).trans (q2.mono (fun x hx => .inl (by simp [hx])))))) (.inr (Nat.le_refl _)) _ _ _ _ _ _ _ _ _ _, fun x hx => ?_⟩
    · have := HTb.out.cl x hx; have := List.mem_singleton.1 hm; omega
    · have h5 := List.mem_singleton.1 hm
      rcases List.mem_cons.1 hx with h | h
      · have := rz; omega
      · have := HTl.out x h; omega
    · exact hR1 (by rw [← List.mem_singleton.1 hm]; exact hx)
    · rcases hx with h | h
      · rcases List.mem_cons.1 h with h | h
        · right; right; omega
        · exact .inl h
      · rcases HG1.out x h with h | h
        · exact .inr (.inl h)
        · right; right; simp at h; omega
end Vm
end Go.Proofs.YtkepcdbogeineaaGreatDoor
