/- Layer 19, the document's answer: New. -/
import Derived.Test.YtkfdoocmapjkbaaDoorLrW4
namespace Go.Proofs.YtkfdoocmapjkbaaDoor
open Go.RowKit Hp
namespace Lk
variable {w w' : World} {B : Nat} {m : Bk} {gs : List Int} {F : List Nat} {tv lv gv : Value} {rvs : List Value}

set_option maxHeartbeats 800000 in
set_option maxRecDepth 100000 in
theorem r_new_bad (l g : Int) (h : newOk l g = false) : Calls Tryd.prog 19 #[.int .i64 l, .int .i64 g] w fun e w' => e = .returned (.tuple #[.pointer none, .int .i64 1]) ∧ w = w' := by
  have h' : l < 0 ∨ (0 ≤ l ∧ 8 < l) ∨ (0 ≤ l ∧ l ≤ 8 ∧ g < 0) ∨ (0 ≤ l ∧ l ≤ 8 ∧ 0 ≤ g ∧ 64 < g) := by
    simp only [newOk, decide_eq_false_iff_not] at h; omega
  clear h
  rcases h' with h | ⟨h, h1⟩ | ⟨h, h1, h2⟩ | ⟨h, h1, h2, h3⟩
  all_goals
    go_enter Tryd.func19, Tryd.ntmps19
    go_wp2
    go_ret2
    exact ⟨rfl, rfl⟩

theorem info140 : (Tryd.prog.info? 140).map (fun i => (i.zero, i.size, i.bytes)) = some (some (.agg #[.int .i64 0, .slice none 0 0]), 2, 32) := by kernel_rfl

theorem run_mk {P : Program} (t e : TypeId) (z : Value) (size bytes : Nat) (ht : P.underlying t = some (.slice e)) (hinfo : (P.info? e).map (fun i => (i.zero, i.size, i.bytes)) = some (some z, size, bytes))
    (n : Nat) (cs : List Value) (hcs : (madeCells z.cells (n * size)).toList = cs) (hbytes : bytes * n ≤ 281474976710656) (h63 : n ≤ 9223372036854775807) (w : World) :
    (Instr.makeSlice t (.int .i64 (n : Int)) (.int .i64 (n : Int))).run P w = .ok (.slice (some ⟨w.heap.size, 0, none⟩) n n) (w.alloc (.cells cs.toArray e)) := by
  obtain ⟨i, hi, h3, h4, h5⟩ := info_parts hinfo
  have hb : (i.bytes : Int) * (n : Int) ≤ 281474976710656 := by
    have h : ((i.bytes * n : Nat) : Int) ≤ 281474976710656 := by rw [h5]; omega
    rwa [Int.natCast_mul] at h
  have hr := run_make (P := P) w t e i z ht hi h3 .i64 .i64 n n (by omega) (by omega) hb (by omega)
  simp only [Int.toNat_natCast] at hr
  rw [← hcs, Array.toArray_toList, ← h4]
  exact hr

set_option maxHeartbeats 1600000 in
set_option maxRecDepth 100000 in
theorem r_new (l g : Nat) (hl : l ≤ 8) (hg : g ≤ 64) (hb : Bnd w) : Calls Tryd.prog 19 #[.int .i64 l, .int .i64 g] w fun e w' =>
    ∃ B F, e = .returned (.tuple #[.pointer (some ⟨B, 0, none⟩), .int .i64 0]) ∧ Rr w' B (newM l g) F ∧ Same [] w w' ∧ ∀ k ∈ F, w.heap.size ≤ k := by
  have HB := Lib.hid hb
  clear hb
  obtain ⟨cL, hcL⟩ : ∃ c : List Value, c = (List.replicate l [Value.int .i64 0, .slice none 0 0]).flatMap id := ⟨_, rfl⟩
  obtain ⟨cG, hcG⟩ : ∃ c : List Value, c = List.replicate g (Value.int .u64 0) := ⟨_, rfl⟩
  have hmL : ∀ W : World, (Instr.makeSlice 109 (.int .i64 (l : Int)) (.int .i64 (l : Int))).run Tryd.prog W = .ok (.slice (some ⟨W.heap.size, 0, none⟩) l l) (W.alloc (.cells cL.toArray 140)) := fun W =>
    run_mk 109 140 _ 2 32 Tryd.underlying109 info140 l cL (by
      rw [hcL, show l * 2 = l * [Value.int .i64 0, .slice none 0 0].length from rfl]
      exact madeCells_flat [Value.int .i64 0, .slice none 0 0] l (by simp)) (by omega) (by omega) W
  have hmG : ∀ W : World, (Instr.makeSlice 91 (.int .i64 (g : Int)) (.int .i64 (g : Int))).run Tryd.prog W = .ok (.slice (some ⟨W.heap.size, 0, none⟩) g g) (W.alloc (.cells cG.toArray 33)) := fun W =>
    run_mk 91 33 _ 1 8 Tryd.underlying91 info33 g cG (by rw [hcG, Nat.mul_one]; exact toList_madeCells_one _ _) (by omega) (by omega) W
  have HCL := Lib.hid hcL
  have HCG := Lib.hid hcG
  clear hcL hcG
  go_enter Tryd.func19, Tryd.ntmps19
  go_wp2
  go_region
  · have hs3 : Same [] w ((((w.alloc (.cells cL.toArray 140)).alloc (.cells cG.toArray 33)).alloc (.cells #[.slice none 0 0, .slice (some ⟨w.heap.size, 0, none⟩) l l, .slice (some ⟨w.heap.size + 1, 0, none⟩) g g] 112)).drew) := ((((Same.refl [] w).alloc _).alloc _).alloc _).drew
    have hbA : Blk ((((w.alloc (.cells cL.toArray 140)).alloc (.cells cG.toArray 33)).alloc (.cells #[.slice none 0 0, .slice (some ⟨w.heap.size, 0, none⟩) l l, .slice (some ⟨w.heap.size + 1, 0, none⟩) g g] 112)).drew) w.heap.size 140 cL := ((Blk.new w _ _).alloc _).alloc _
    have hbC : Blk ((((w.alloc (.cells cL.toArray 140)).alloc (.cells cG.toArray 33)).alloc (.cells #[.slice none 0 0, .slice (some ⟨w.heap.size, 0, none⟩) l l, .slice (some ⟨w.heap.size + 1, 0, none⟩) g g] 112)).drew) (w.heap.size + 1) 33 cG := by
      have := (Blk.new (w.alloc (.cells cL.toArray 140)) 33 cG).alloc (.cells #[.slice none 0 0, .slice (some ⟨w.heap.size, 0, none⟩) l l, .slice (some ⟨w.heap.size + 1, 0, none⟩) g g] 112)
      refine Blk.drew ?_
      simpa using this
    have hbB : Blk ((((w.alloc (.cells cL.toArray 140)).alloc (.cells cG.toArray 33)).alloc (.cells #[.slice none 0 0, .slice (some ⟨w.heap.size, 0, none⟩) l l, .slice (some ⟨w.heap.size + 1, 0, none⟩) g g] 112)).drew) (w.heap.size + 1 + 1) 112 [.slice none 0 0, .slice (some ⟨w.heap.size, 0, none⟩) l l, .slice (some ⟨w.heap.size + 1, 0, none⟩) g g] := by
      have := Blk.new ((w.alloc (.cells cL.toArray 140)).alloc (.cells cG.toArray 33)) 112 [.slice none 0 0, .slice (some ⟨w.heap.size, 0, none⟩) l l, .slice (some ⟨w.heap.size + 1, 0, none⟩) g g]
      refine Blk.drew ?_
      simpa using this
    generalize (((w.alloc (.cells cL.toArray 140)).alloc (.cells cG.toArray 33)).alloc (.cells #[.slice none 0 0, .slice (some ⟨w.heap.size, 0, none⟩) l l, .slice (some ⟨w.heap.size + 1, 0, none⟩) g g] 112)).drew = w3 at *
    have hBw : w.heap.size + 1 + 1 < w3.heap.size := hbB.lt
    obtain ⟨Bb, hB⟩ : ∃ B, B = w.heap.size + 1 + 1 := ⟨_, rfl⟩
    obtain ⟨Gb, hC⟩ : ∃ B, B = w.heap.size + 1 := ⟨_, rfl⟩
    obtain ⟨Lb, hA⟩ : ∃ B, B = w.heap.size := ⟨_, rfl⟩
    have HAw := Lib.hid hA
    have HCw := Lib.hid hC
    have HBw := Lib.hid hB
    rw [← hB, ← hC, ← hA] at hbB
    rw [← hB] at hBw
    rw [← hC] at hbC
    rw [← hA] at hbA
    rw [← hB, ← hC, ← hA]
    have HSW := Lib.hid hs3
    have HBL := Lib.hid hbA
    have HBG := Lib.hid hbC
    have HBB := Lib.hid hbB
    clear hs3 hbA hbC hbB hA hB hC hmL hmG HB
    go_wp2
    go_loopw [7] (fun c wr => ∃ k : Nat, k ≤ g ∧ c = .int .i64 k ∧ Blk wr Gb 33 (List.replicate k (.int .u64 4) ++ List.replicate (g - k) (.int .u64 0)) ∧ Same [Gb] w3 wr) (fun c _ => g - (intOf c).toNat)
    case atStart => exact ⟨0, Nat.zero_le _, rfl, by have := HBG.out; rw [HCG.out] at this; simpa using this, Same.refl _ _⟩
    case round =>
      obtain ⟨k, hk, rfl, hbk, hsk⟩ := hrel
      have HBK := Lib.hid hbk
      have HSK := Lib.hid hsk
      have hBG : Gb ≠ Bb := by have := HAw.out; have := HCw.out; have := HBw.out; omega
      have hbb := HBB.out.frame hsk (by simp; exact fun e => hBG e.symm)
      have b2 : wr.cell? ⟨Bb, 2, none⟩ = some (.slice (some ⟨Gb, 0, none⟩) g g) := hbb.cell 2
      by_cases hlt : k < g
      · have hx : wr.cell? ⟨Gb, k, none⟩ = some (.int .u64 0) := by
          rw [hbk.cell]
          rw [List.getElem?_append_right (by simp), List.length_replicate, Nat.sub_self]
          have : 0 < g - k := by omega
          simp [this]
        have hfz : ∀ j, wr.frozen? ⟨Gb, j, none⟩ = false := hbk.frozen
        have HN : Hid (Blk (wr.setCell ⟨Gb, k, none⟩ (.int .u64 4)) Gb 33 (List.replicate (k + 1) (.int .u64 4) ++ List.replicate (g - (k + 1)) (.int .u64 0))) := Lib.hid (by
          have := hbk.set k (.int .u64 4)
          have e : (List.replicate k (Value.int .u64 4) ++ List.replicate (g - k) (Value.int .u64 0)).set k (Value.int .u64 4) = List.replicate (k + 1) (Value.int .u64 4) ++ List.replicate (g - (k + 1)) (Value.int .u64 0) := by
            rw [List.set_append_right _ _ (by simp), List.length_replicate, Nat.sub_self, List.replicate_succ' (n := k), List.append_assoc]
            obtain ⟨d, hd⟩ : ∃ d, g - k = d + 1 := ⟨g - k - 1, by omega⟩
            rw [hd, show g - (k + 1) = d from by omega]
            simp [List.replicate_succ]
          rw [e] at this; exact this)
        clear hbk hsk hbb
        go_wp2
        go_region_with (first | (refine rmake_none.mono ?_; rintro en w1 ⟨rfl, rfl⟩))
        all_goals
          go_wp2
          go_roundw
          case rel => exact ⟨k + 1, by omega, by go_num, (by first | exact HN.out | exact HN.out.drew), (by first | exact HSK.out.setCell (by simp) _ | exact (HSK.out.setCell (by simp) _).drew)⟩
          case measure => simp [intOf]; omega
      · have hkg : k = g := by omega
        have HL := HBL.out.frame hsk (by have := HAw.out; have := HCw.out; simp; omega)
        have HGE : Hid (∃ F, Rr wr Bb (newM l g) F ∧ Same [] w wr ∧ ∀ x ∈ F, w.heap.size ≤ x) := by
          refine Lib.hid ⟨[Bb, Lb, Gb], ⟨[], .slice none 0 0, .slice (some ⟨Lb, 0, none⟩) l l, .slice (some ⟨Gb, 0, none⟩) g g, List.replicate l (.slice none 0 0), ?_⟩, ?_, ?_⟩
          · refine ⟨hbb, Row.nil _ _ _, ?_, ?_, by simp [newM], rfl, ?_, ?_, by simp, by simp [blk], by simp [blk], by simp [blk], ?_, ?_⟩
            · rw [HCL.out, ← lkZero] at HL
              have h4 := Row.full HL l 2 (by rw [flat_length loE 2 loE_len]; simp) (by simp [maxLen]; omega)
              simpa [newM] using h4
            · have h5 := HBK.out
              rw [hkg, Nat.sub_self] at h5
              have h6 := Row.full h5 g 1 (by simp) (by simp [maxLen]; omega)
              simpa [newM, nE_map] using h6
            · intro i hi
              have h1 : (List.replicate l (Value.slice none 0 0)).getD i undef = .slice none 0 0 := by
                have : i < l := by simpa using hi
                simp [List.getD, this]
              have h2 : ((newM l g).lks.getD i l0) = l0 := by
                have : i < l := by simpa using hi
                simp [newM, List.getD, this]
              rw [h1, h2]; exact Row.nil _ _ _
            · intro i j hi hj hij k hk
              have h1 : (List.replicate l (Value.slice none 0 0)).getD i undef = .slice none 0 0 := by
                have : i < l := by simpa using hi
                simp [List.getD, this]
              rw [h1] at hk; simp [blk] at hk
            · intro i hi k hk
              have h1 : (List.replicate l (Value.slice none 0 0)).getD i undef = .slice none 0 0 := by
                have : i < l := by simpa using hi
                simp [List.getD, this]
              rw [h1] at hk; simp [blk] at hk
            · intro x hx
              have := hsk.size; have := HAw.out; have := HCw.out; have := HBw.out
              simp at hx; omega
          · exact HSW.out.trans' hsk (fun x hx => .inr (by have := HAw.out; have := HCw.out; simp at hx; omega))
          · intro x hx
            have := HAw.out; have := HCw.out; have := HBw.out
            simp at hx; omega
        have hlt2 : (g : Int) ≤ (k : Int) := by omega
        clear hbk hsk hbb HL hkg
        go_wp2
        go_ret2
        obtain ⟨F, h1, h2, h3⟩ := HGE.out
        exact ⟨Bb, F, rfl, h1, h2, h3⟩
  · have hs3 : Same [] w ((((w.alloc (.cells cG.toArray 33)).alloc (.cells cL.toArray 140)).alloc (.cells #[.slice none 0 0, .slice (some ⟨w.heap.size + 1, 0, none⟩) l l, .slice (some ⟨w.heap.size, 0, none⟩) g g] 112)).drew) := ((((Same.refl [] w).alloc _).alloc _).alloc _).drew
    have hbA : Blk ((((w.alloc (.cells cG.toArray 33)).alloc (.cells cL.toArray 140)).alloc (.cells #[.slice none 0 0, .slice (some ⟨w.heap.size + 1, 0, none⟩) l l, .slice (some ⟨w.heap.size, 0, none⟩) g g] 112)).drew) w.heap.size 33 cG := ((Blk.new w _ _).alloc _).alloc _
    have hbC : Blk ((((w.alloc (.cells cG.toArray 33)).alloc (.cells cL.toArray 140)).alloc (.cells #[.slice none 0 0, .slice (some ⟨w.heap.size + 1, 0, none⟩) l l, .slice (some ⟨w.heap.size, 0, none⟩) g g] 112)).drew) (w.heap.size + 1) 140 cL := by
      have := (Blk.new (w.alloc (.cells cG.toArray 33)) 140 cL).alloc (.cells #[.slice none 0 0, .slice (some ⟨w.heap.size + 1, 0, none⟩) l l, .slice (some ⟨w.heap.size, 0, none⟩) g g] 112)
      refine Blk.drew ?_
      simpa using this
    have hbB : Blk ((((w.alloc (.cells cG.toArray 33)).alloc (.cells cL.toArray 140)).alloc (.cells #[.slice none 0 0, .slice (some ⟨w.heap.size + 1, 0, none⟩) l l, .slice (some ⟨w.heap.size, 0, none⟩) g g] 112)).drew) (w.heap.size + 1 + 1) 112 [.slice none 0 0, .slice (some ⟨w.heap.size + 1, 0, none⟩) l l, .slice (some ⟨w.heap.size, 0, none⟩) g g] := by
      have := Blk.new ((w.alloc (.cells cG.toArray 33)).alloc (.cells cL.toArray 140)) 112 [.slice none 0 0, .slice (some ⟨w.heap.size + 1, 0, none⟩) l l, .slice (some ⟨w.heap.size, 0, none⟩) g g]
      refine Blk.drew ?_
      simpa using this
    generalize (((w.alloc (.cells cG.toArray 33)).alloc (.cells cL.toArray 140)).alloc (.cells #[.slice none 0 0, .slice (some ⟨w.heap.size + 1, 0, none⟩) l l, .slice (some ⟨w.heap.size, 0, none⟩) g g] 112)).drew = w3 at *
    have hBw : w.heap.size + 1 + 1 < w3.heap.size := hbB.lt
    obtain ⟨Bb, hB⟩ : ∃ B, B = w.heap.size + 1 + 1 := ⟨_, rfl⟩
    obtain ⟨Lb, hC⟩ : ∃ B, B = w.heap.size + 1 := ⟨_, rfl⟩
    obtain ⟨Gb, hA⟩ : ∃ B, B = w.heap.size := ⟨_, rfl⟩
    have HAw := Lib.hid hA
    have HCw := Lib.hid hC
    have HBw := Lib.hid hB
    rw [← hB, ← hC, ← hA] at hbB
    rw [← hB] at hBw
    rw [← hC] at hbC
    rw [← hA] at hbA
    rw [← hB, ← hC, ← hA]
    have HSW := Lib.hid hs3
    have HBL := Lib.hid hbC
    have HBG := Lib.hid hbA
    have HBB := Lib.hid hbB
    clear hs3 hbA hbC hbB hA hB hC hmL hmG HB
    go_wp2
    go_loopw [7] (fun c wr => ∃ k : Nat, k ≤ g ∧ c = .int .i64 k ∧ Blk wr Gb 33 (List.replicate k (.int .u64 4) ++ List.replicate (g - k) (.int .u64 0)) ∧ Same [Gb] w3 wr) (fun c _ => g - (intOf c).toNat)
    case atStart => exact ⟨0, Nat.zero_le _, rfl, by have := HBG.out; rw [HCG.out] at this; simpa using this, Same.refl _ _⟩
    case round =>
      obtain ⟨k, hk, rfl, hbk, hsk⟩ := hrel
      have HBK := Lib.hid hbk
      have HSK := Lib.hid hsk
      have hBG : Gb ≠ Bb := by have := HAw.out; have := HCw.out; have := HBw.out; omega
      have hbb := HBB.out.frame hsk (by simp; exact fun e => hBG e.symm)
      have b2 : wr.cell? ⟨Bb, 2, none⟩ = some (.slice (some ⟨Gb, 0, none⟩) g g) := hbb.cell 2
      by_cases hlt : k < g
      · have hx : wr.cell? ⟨Gb, k, none⟩ = some (.int .u64 0) := by
          rw [hbk.cell]
          rw [List.getElem?_append_right (by simp), List.length_replicate, Nat.sub_self]
          have : 0 < g - k := by omega
          simp [this]
        have hfz : ∀ j, wr.frozen? ⟨Gb, j, none⟩ = false := hbk.frozen
        have HN : Hid (Blk (wr.setCell ⟨Gb, k, none⟩ (.int .u64 4)) Gb 33 (List.replicate (k + 1) (.int .u64 4) ++ List.replicate (g - (k + 1)) (.int .u64 0))) := Lib.hid (by
          have := hbk.set k (.int .u64 4)
          have e : (List.replicate k (Value.int .u64 4) ++ List.replicate (g - k) (Value.int .u64 0)).set k (Value.int .u64 4) = List.replicate (k + 1) (Value.int .u64 4) ++ List.replicate (g - (k + 1)) (Value.int .u64 0) := by
            rw [List.set_append_right _ _ (by simp), List.length_replicate, Nat.sub_self, List.replicate_succ' (n := k), List.append_assoc]
            obtain ⟨d, hd⟩ : ∃ d, g - k = d + 1 := ⟨g - k - 1, by omega⟩
            rw [hd, show g - (k + 1) = d from by omega]
            simp [List.replicate_succ]
          rw [e] at this; exact this)
        clear hbk hsk hbb
        go_wp2
        go_region_with (first | (refine rmake_none.mono ?_; rintro en w1 ⟨rfl, rfl⟩))
        all_goals
          go_wp2
          go_roundw
          case rel => exact ⟨k + 1, by omega, by go_num, (by first | exact HN.out | exact HN.out.drew), (by first | exact HSK.out.setCell (by simp) _ | exact (HSK.out.setCell (by simp) _).drew)⟩
          case measure => simp [intOf]; omega
      · have hkg : k = g := by omega
        have HL := HBL.out.frame hsk (by have := HAw.out; have := HCw.out; simp; omega)
        have HGE : Hid (∃ F, Rr wr Bb (newM l g) F ∧ Same [] w wr ∧ ∀ x ∈ F, w.heap.size ≤ x) := by
          refine Lib.hid ⟨[Bb, Lb, Gb], ⟨[], .slice none 0 0, .slice (some ⟨Lb, 0, none⟩) l l, .slice (some ⟨Gb, 0, none⟩) g g, List.replicate l (.slice none 0 0), ?_⟩, ?_, ?_⟩
          · refine ⟨hbb, Row.nil _ _ _, ?_, ?_, by simp [newM], rfl, ?_, ?_, by simp, by simp [blk], by simp [blk], by simp [blk], ?_, ?_⟩
            · rw [HCL.out, ← lkZero] at HL
              have h4 := Row.full HL l 2 (by rw [flat_length loE 2 loE_len]; simp) (by simp [maxLen]; omega)
              simpa [newM] using h4
            · have h5 := HBK.out
              rw [hkg, Nat.sub_self] at h5
              have h6 := Row.full h5 g 1 (by simp) (by simp [maxLen]; omega)
              simpa [newM, nE_map] using h6
            · intro i hi
              have h1 : (List.replicate l (Value.slice none 0 0)).getD i undef = .slice none 0 0 := by
                have : i < l := by simpa using hi
                simp [List.getD, this]
              have h2 : ((newM l g).lks.getD i l0) = l0 := by
                have : i < l := by simpa using hi
                simp [newM, List.getD, this]
              rw [h1, h2]; exact Row.nil _ _ _
            · intro i j hi hj hij k hk
              have h1 : (List.replicate l (Value.slice none 0 0)).getD i undef = .slice none 0 0 := by
                have : i < l := by simpa using hi
                simp [List.getD, this]
              rw [h1] at hk; simp [blk] at hk
            · intro i hi k hk
              have h1 : (List.replicate l (Value.slice none 0 0)).getD i undef = .slice none 0 0 := by
                have : i < l := by simpa using hi
                simp [List.getD, this]
              rw [h1] at hk; simp [blk] at hk
            · intro x hx
              have := hsk.size; have := HAw.out; have := HCw.out; have := HBw.out
              simp at hx; omega
          · exact HSW.out.trans' hsk (fun x hx => .inr (by have := HAw.out; have := HCw.out; simp at hx; omega))
          · intro x hx
            have := HAw.out; have := HCw.out; have := HBw.out
            simp at hx; omega
        have hlt2 : (g : Int) ≤ (k : Int) := by omega
        clear hbk hsk hbb HL hkg
        go_wp2
        go_ret2
        obtain ⟨F, h1, h2, h3⟩ := HGE.out
        exact ⟨Bb, F, rfl, h1, h2, h3⟩
end Lk
end Go.Proofs.YtkfdoocmapjkbaaDoor
