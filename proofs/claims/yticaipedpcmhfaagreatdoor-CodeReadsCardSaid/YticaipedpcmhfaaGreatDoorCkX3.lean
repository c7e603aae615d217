/- Layer 8, the plain side of the law's example. -/
import Derived.Test.YticaipedpcmhfaaGreatDoorCkT3
import Derived.Test.YticaipedpcmhfaaGreatDoorCkR3
import Derived.Test.YticaipedpcmhfaaGreatDoorCkS3
import Derived.Test.YticaipedpcmhfaaGreatDoorCkP4
namespace Go.Proofs.YticaipedpcmhfaaGreatDoor
open Go.RowKit Hp
namespace Ck

/-- The example, its text; with the second procedure cut short. -/
def exC : Cd.Co := ⟨[85, 1], [⟨#[120]⟩], [⟨0, [⟨1, 0⟩, ⟨5, 0⟩, ⟨12, 0⟩]⟩, ⟨1, [⟨2, 0⟩, ⟨12, 0⟩]⟩]⟩
def exD : Cd.Co := ⟨[85, 1], [⟨#[120]⟩], [⟨0, [⟨1, 0⟩, ⟨5, 0⟩, ⟨12, 0⟩]⟩, ⟨1, [⟨2, 0⟩]⟩]⟩
def exT : List UInt8 := [99, 111, 110, 115, 116, 32, 105, 110, 116, 32, 53, 10, 99, 111, 110, 115, 116, 32, 110, 105, 108, 10, 103, 108, 111, 98, 97, 108, 32, 120, 10, 112, 114, 111, 99, 32, 48, 10, 32, 99, 111, 110, 115, 116, 32] ++ [48, 10, 32, 115, 101, 116, 103, 108, 111, 98, 97, 108, 32, 48, 10, 32, 114, 101, 116, 117, 114, 110, 10, 112, 114, 111, 99, 32, 49, 10, 32, 118, 97, 114, 32, 48, 10, 32, 114, 101, 116, 117, 114, 110, 10]

theorem ex_check : Cd.check Cd.sym exC = (0, 0, 0) := by kernel_rfl
theorem ex_short : Cd.check Cd.sym exD = (80, 1, 0) := by kernel_rfl
theorem ex_textT : Cd.textT exC = exT := by kernel_rfl
theorem ex_parse : Cd.parseT Cd.sym exT = (exC, 0, 0) := by kernel_rfl
theorem ex_cut : Cd.parseT Cd.sym (exT.take 89) = (Cd.none_, 81, 10) := by kernel_rfl
theorem ex_text : textR exC = (exT, 0) := by
  unfold textR
  rw [ex_check, ex_textT]
  rfl
end Ck
end Go.Proofs.YticaipedpcmhfaaGreatDoor
/- Layer 8, the law's example: as it is made. -/
namespace Go.Proofs.YticaipedpcmhfaaGreatDoor
open Go.RowKit Hp
namespace Ck
variable {w w' : World}

theorem blk_sq {W : World} {b t n s cap : Nat} {cs : List Value} {f : Nat → Nat → Value} (h : Blk W b t cs) (hc : n ≤ cap) (hm : cap ≤ maxLen) (hf : ∀ i j, i < n → j < s → cs[i * s + j]? = some (f i j)) : Sq W (.slice (some ⟨b, 0, none⟩) n cap) n s f :=
  ⟨_, cap, rfl, hc, hm, fun _ => ⟨b, 0, rfl, h.lt, fun i j hi hj => by rw [Nat.zero_add, h.cell]; exact hf i j hi hj⟩⟩

/-- The example's lists in memory; m: how much of the second procedure's code is its own. -/
structure ExAt (W : World) (b m : Nat) : Prop where
  cs : Blk W (b + 1) 74 [.int .u64 85, .int .u64 1]
  gs : Blk W (b + 1 + 1) 9 [.string ⟨#[120]⟩]
  k1 : Blk W (b + 1 + 1 + 1) 82 [.int .u8 1, .int .i64 0, .int .u8 5, .int .i64 0, .int .u8 12, .int .i64 0]
  k2 : Blk W (b + 1 + 1 + 1 + 1) 82 [.int .u8 2, .int .i64 0, .int .u8 12, .int .i64 0]
  ps : Blk W (b + 1 + 1 + 1 + 1 + 1) 68 [.int .i64 0, .slice (some ⟨b + 1 + 1 + 1, 0, none⟩) 3 3, .int .i64 1, .slice (some ⟨b + 1 + 1 + 1 + 1, 0, none⟩) m 2]

def exV (b : Nat) : Value := .agg #[.slice (some ⟨b + 1, 0, none⟩) 2 2, .slice (some ⟨b + 1 + 1 + 1 + 1 + 1, 0, none⟩) 2 2, .slice (some ⟨b + 1 + 1, 0, none⟩) 1 1]

theorem ExAt.frame {W W' : World} {b m : Nat} (h : ExAt W b m) (hs : Same [] W W') : ExAt W' b m :=
  ⟨h.cs.frame hs (by simp), h.gs.frame hs (by simp), h.k1.frame hs (by simp), h.k2.frame hs (by simp), h.ps.frame hs (by simp)⟩

theorem two {i : Nat} (h : i < 2) : i = 0 ∨ i = 1 := by omega
theorem three {i : Nat} (h : i < 3) : i = 0 ∨ i = 1 ∨ i = 2 := by omega

theorem ExAt.whole {W : World} {b : Nat} (h : ExAt W b 2) : RCo W (exV b) exC := by
  refine ⟨_, _, _, rfl, blk_sq h.cs (by decide) (by unfold maxLen; decide) (fun i j hi hj => ?_), ⟨fun i => if i = 0 then .slice (some ⟨b + 1 + 1 + 1, 0, none⟩) 3 3 else .slice (some ⟨b + 1 + 1 + 1 + 1, 0, none⟩) 2 2, blk_sq h.ps (by decide) (by unfold maxLen; decide) (fun i j hi hj => ?_), fun i hi => ?_⟩, blk_sq h.gs (by decide) (by unfold maxLen; decide) (fun i j hi hj => ?_)⟩
  · obtain rfl : j = 0 := by omega
    rcases two hi with rfl | rfl <;> rfl
  · rcases two hi with rfl | rfl <;> rcases two hj with rfl | rfl <;> rfl
  · rcases two hi with rfl | rfl
    · exact blk_sq h.k1 (by decide) (by unfold maxLen; decide) (fun i j hi hj => by rcases three hi with rfl | rfl | rfl <;> rcases two hj with rfl | rfl <;> rfl)
    · exact blk_sq h.k2 (by decide) (by unfold maxLen; decide) (fun i j hi hj => by rcases two hi with rfl | rfl <;> rcases two hj with rfl | rfl <;> rfl)
  · obtain rfl : j = 0 := by omega
    have h0 : i < 1 := hi
    obtain rfl : i = 0 := by omega
    rfl

theorem ExAt.short {W : World} {b : Nat} (h : ExAt W b 1) : RCo W (exV b) exD := by
  refine ⟨_, _, _, rfl, blk_sq h.cs (by decide) (by unfold maxLen; decide) (fun i j hi hj => ?_), ⟨fun i => if i = 0 then .slice (some ⟨b + 1 + 1 + 1, 0, none⟩) 3 3 else .slice (some ⟨b + 1 + 1 + 1 + 1, 0, none⟩) 1 2, blk_sq h.ps (by decide) (by unfold maxLen; decide) (fun i j hi hj => ?_), fun i hi => ?_⟩, blk_sq h.gs (by decide) (by unfold maxLen; decide) (fun i j hi hj => ?_)⟩
  · obtain rfl : j = 0 := by omega
    rcases two hi with rfl | rfl <;> rfl
  · rcases two hi with rfl | rfl <;> rcases two hj with rfl | rfl <;> rfl
  · rcases two hi with rfl | rfl
    · exact blk_sq h.k1 (by decide) (by unfold maxLen; decide) (fun i j hi hj => by rcases three hi with rfl | rfl | rfl <;> rcases two hj with rfl | rfl <;> rfl)
    · exact blk_sq h.k2 (by decide) (by unfold maxLen; decide) (fun i j hi hj => by
        have h0 : i < 1 := hi
        obtain rfl : i = 0 := by omega
        rcases two hj with rfl | rfl <;> rfl)
  · obtain rfl : j = 0 := by omega
    have h0 : i < 1 := hi
    obtain rfl : i = 0 := by omega
    rfl

/-- What example answers. -/
def ExP (w : World) (e : Ending) (w' : World) : Prop := e = .returned (exV w.heap.size) ∧ ExAt w' w.heap.size 2 ∧ Same [] w w'

theorem exC_wco : WCo exC := ⟨by decide, by decide, fun p hp => by
  simp only [exC, List.mem_cons, List.not_mem_nil, or_false] at hp
  rcases hp with rfl | rfl
  · exact ⟨by unfold in64; decide, fun i hi => by
      simp only [List.mem_cons, List.not_mem_nil, or_false] at hi
      rcases hi with rfl | rfl | rfl <;> exact ⟨by decide, by unfold in64; decide⟩⟩
  · exact ⟨by unfold in64; decide, fun i hi => by
      simp only [List.mem_cons, List.not_mem_nil, or_false] at hi
      rcases hi with rfl | rfl <;> exact ⟨by decide, by unfold in64; decide⟩⟩⟩
theorem exD_wco : WCo exD := ⟨by decide, by decide, fun p hp => by
  simp only [exD, List.mem_cons, List.not_mem_nil, or_false] at hp
  rcases hp with rfl | rfl
  · exact ⟨by unfold in64; decide, fun i hi => by
      simp only [List.mem_cons, List.not_mem_nil, or_false] at hi
      rcases hi with rfl | rfl | rfl <;> exact ⟨by decide, by unfold in64; decide⟩⟩
  · exact ⟨by unfold in64; decide, fun i hi => by
      simp only [List.mem_cons, List.not_mem_nil, or_false] at hi
      rcases hi with rfl <;> exact ⟨by decide, by unfold in64; decide⟩⟩⟩

set_option maxRecDepth 100000 in
theorem int5_any (hv : Vars w) : Calls Tryz.prog 84 #[.int .i64 5] w fun e w' => e = .returned (.tuple #[.int .u64 85, .int .i64 0]) ∧ w = w' := by
  have HM := Lib.hid (make_any (w := w) 5 5 (by omega) (by unfold in64; omega) hv)
  have e : (if Cd.may (5 : Nat) 5 then #[Value.int .u64 (Cd.wordOf (5 : Nat) 5), .int .i64 0] else #[.int .u64 0, .int .i64 11]) = #[.int .u64 85, .int .i64 0] := by rfl
  rw [e] at HM
  clear hv e
  go_enter Tryz.func84, Tryz.ntmps84
  go_wp2_with fail
  refine HM.out.mono ?_
  rintro e w2 ⟨rfl, rfl⟩
  go_wp2_with fail
  refine bodyPost_ret (v := .tuple #[.int .u64 85, .int .i64 0]) (by simp [results, Tryz.results84, go_sem]) rfl ?_
  exact ⟨rfl, rfl⟩

theorem nil_any (hv : Vars w) : Calls Tryz.prog 85 #[.int .u8 1, .int .i64 0] w fun e w' => e = .returned (.tuple #[.int .u64 1, .int .i64 0]) ∧ w = w' := by
  have HM := make_any (w := w) 1 0 (by omega) (by unfold in64; omega) hv
  have e : (if Cd.may (1 : Nat) 0 then #[Value.int .u64 (Cd.wordOf (1 : Nat) 0), .int .i64 0] else #[.int .u64 0, .int .i64 11]) = #[.int .u64 1, .int .i64 0] := by rfl
  rw [e] at HM
  exact HM

set_option maxHeartbeats 4000000 in
set_option maxRecDepth 100000 in
theorem example_any (hv : Vars w) : Calls Tryz.prog 24 #[] w (ExP w) := by
  have HV := Lib.hid hv
  clear hv
  go_enter Tryz.func24, Tryz.ntmps24
  go_wp2_with fail
  refine (int5_any (HV.out.frame ((Same.refl [] w).alloc _) (by simp))).mono ?_
  rintro e w2 ⟨rfl, hw2⟩
  subst hw2
  go_wp2_with fail
  refine (nil_any (HV.out.frame ((Same.refl [] w).alloc _) (by simp))).mono ?_
  rintro e w3 ⟨rfl, hw3⟩
  subst hw3
  go_wp2_with fail
  refine bodyPost_ret (v := exV w.heap.size) (by simp [results, Tryz.results24, go_sem, exV]) rfl ?_
  refine ⟨rfl, ⟨?_, ?_, ?_, ?_, ?_⟩, (((((((Same.refl [] w).alloc _).alloc _).alloc _).alloc _).alloc _).alloc _)⟩
  · exact ((((blk_new (by simp)).alloc _).alloc _).alloc _).alloc _
  · exact (((blk_new (by simp)).alloc _).alloc _).alloc _
  · exact ((blk_new (by simp)).alloc _).alloc _
  · exact (blk_new (by simp)).alloc _
  · exact blk_new (by simp)
end Ck
end Go.Proofs.YticaipedpcmhfaaGreatDoor
/- Layer 8, the law's works: true. -/
namespace Go.Proofs.YticaipedpcmhfaaGreatDoor
open Go.RowKit Hp
namespace Ck
variable {w w' : World}

theorem ex_chk {W : World} {b : Nat} (hv : Vars W) (h : ExAt W b 2) : Calls Tryz.prog 13 #[.agg #[.slice (some ⟨b + 1, 0, none⟩) 2 2, .slice (some ⟨b + 1 + 1 + 1 + 1 + 1, 0, none⟩) 2 2, .slice (some ⟨b + 1 + 1, 0, none⟩) 1 1]] W fun e w' => e = .returned (.tuple #[.int .i64 0, .int .i64 0, .int .i64 0]) ∧ Same [] W w' := by
  have := check_any (exV b) exC h.whole exC_wco hv
  rw [ex_check] at this
  exact this
theorem ex_chk1 {W : World} {b : Nat} (hv : Vars W) (h : ExAt W b 1) : Calls Tryz.prog 13 #[.agg #[.slice (some ⟨b + 1, 0, none⟩) 2 2, .slice (some ⟨b + 1 + 1 + 1 + 1 + 1, 0, none⟩) 2 2, .slice (some ⟨b + 1 + 1, 0, none⟩) 1 1]] W fun e w' => e = .returned (.tuple #[.int .i64 80, .int .i64 1, .int .i64 0]) ∧ Same [] W w' := by
  have := check_any (exV b) exD h.short exD_wco hv
  rw [ex_short] at this
  exact this
theorem ex_txt {W : World} {b : Nat} (hv : Vars W) (h : ExAt W b 2) : Calls Tryz.prog 14 #[.agg #[.slice (some ⟨b + 1, 0, none⟩) 2 2, .slice (some ⟨b + 1 + 1 + 1 + 1 + 1, 0, none⟩) 2 2, .slice (some ⟨b + 1 + 1, 0, none⟩) 1 1]] W fun e w' => e = .returned (.tuple #[.string ⟨#[99, 111, 110, 115, 116, 32, 105, 110, 116, 32, 53, 10, 99, 111, 110, 115, 116, 32, 110, 105, 108, 10, 103, 108, 111, 98, 97, 108, 32, 120, 10, 112, 114, 111, 99, 32, 48, 10, 32, 99, 111, 110, 115, 116, 32, 48, 10, 32, 115, 101, 116, 103, 108, 111, 98, 97, 108, 32, 48, 10, 32, 114, 101, 116, 117, 114, 110, 10, 112, 114, 111, 99, 32, 49, 10, 32, 118, 97, 114, 32, 48, 10, 32, 114, 101, 116, 117, 114, 110, 10]⟩, .int .i64 0]) ∧ Same [] W w' := by
  have := text_any (exV b) exC h.whole exC_wco hv
  rw [ex_text] at this
  exact this
theorem ex_par {W : World} (hv : Vars W) : Calls Tryz.prog 18 #[.string ⟨#[99, 111, 110, 115, 116, 32, 105, 110, 116, 32, 53, 10, 99, 111, 110, 115, 116, 32, 110, 105, 108, 10, 103, 108, 111, 98, 97, 108, 32, 120, 10, 112, 114, 111, 99, 32, 48, 10, 32, 99, 111, 110, 115, 116, 32, 48, 10, 32, 115, 101, 116, 103, 108, 111, 98, 97, 108, 32, 48, 10, 32, 114, 101, 116, 117, 114, 110, 10, 112, 114, 111, 99, 32, 49, 10, 32, 118, 97, 114, 32, 48, 10, 32, 114, 101, 116, 117, 114, 110, 10]⟩] W fun e w' => ∃ cv pv gv kvs F, e = .returned (.tuple #[.agg #[cv, pv, gv], .int .i64 0, .int .i64 0]) ∧ OCo w' cv pv gv kvs exC F ∧ Same [] W w' := by
  refine (parse_any ⟨#[99, 111, 110, 115, 116, 32, 105, 110, 116, 32, 53, 10, 99, 111, 110, 115, 116, 32, 110, 105, 108, 10, 103, 108, 111, 98, 97, 108, 32, 120, 10, 112, 114, 111, 99, 32, 48, 10, 32, 99, 111, 110, 115, 116, 32, 48, 10, 32, 115, 101, 116, 103, 108, 111, 98, 97, 108, 32, 48, 10, 32, 114, 101, 116, 117, 114, 110, 10, 112, 114, 111, 99, 32, 49, 10, 32, 118, 97, 114, 32, 48, 10, 32, 114, 101, 116, 117, 114, 110, 10]⟩ (by decide) hv).mono ?_
  rintro e w' ⟨cv, pv, gv, kvs, F, rfl, h1, _, h3⟩
  have e1 : Cd.parseT Cd.sym (ByteArray.mk #[99, 111, 110, 115, 116, 32, 105, 110, 116, 32, 53, 10, 99, 111, 110, 115, 116, 32, 110, 105, 108, 10, 103, 108, 111, 98, 97, 108, 32, 120, 10, 112, 114, 111, 99, 32, 48, 10, 32, 99, 111, 110, 115, 116, 32, 48, 10, 32, 115, 101, 116, 103, 108, 111, 98, 97, 108, 32, 48, 10, 32, 114, 101, 116, 117, 114, 110, 10, 112, 114, 111, 99, 32, 49, 10, 32, 118, 97, 114, 32, 48, 10, 32, 114, 101, 116, 117, 114, 110, 10]).data.toList = (exC, 0, 0) := ex_parse
  rw [e1] at h1 ⊢
  exact ⟨cv, pv, gv, kvs, F, rfl, h1, h3⟩
theorem ex_par1 {W : World} (hv : Vars W) : Calls Tryz.prog 18 #[.string ⟨#[99, 111, 110, 115, 116, 32, 105, 110, 116, 32, 53, 10, 99, 111, 110, 115, 116, 32, 110, 105, 108, 10, 103, 108, 111, 98, 97, 108, 32, 120, 10, 112, 114, 111, 99, 32, 48, 10, 32, 99, 111, 110, 115, 116, 32, 48, 10, 32, 115, 101, 116, 103, 108, 111, 98, 97, 108, 32, 48, 10, 32, 114, 101, 116, 117, 114, 110, 10, 112, 114, 111, 99, 32, 49, 10, 32, 118, 97, 114, 32, 48, 10, 32, 114, 101, 116, 117, 114, 110]⟩] W fun e w' => ∃ cv pv gv, e = .returned (.tuple #[.agg #[cv, pv, gv], .int .i64 81, .int .i64 10]) ∧ (∃ A C, cv = .slice A 0 C) ∧ (∃ A C, pv = .slice A 0 C) ∧ (∃ A C, gv = .slice A 0 C) ∧ Same [] W w' := by
  refine (parse_any ⟨#[99, 111, 110, 115, 116, 32, 105, 110, 116, 32, 53, 10, 99, 111, 110, 115, 116, 32, 110, 105, 108, 10, 103, 108, 111, 98, 97, 108, 32, 120, 10, 112, 114, 111, 99, 32, 48, 10, 32, 99, 111, 110, 115, 116, 32, 48, 10, 32, 115, 101, 116, 103, 108, 111, 98, 97, 108, 32, 48, 10, 32, 114, 101, 116, 117, 114, 110, 10, 112, 114, 111, 99, 32, 49, 10, 32, 118, 97, 114, 32, 48, 10, 32, 114, 101, 116, 117, 114, 110]⟩ (by decide) hv).mono ?_
  rintro e w' ⟨cv, pv, gv, kvs, F, rfl, h1, _, h3⟩
  have e1 : Cd.parseT Cd.sym (ByteArray.mk #[99, 111, 110, 115, 116, 32, 105, 110, 116, 32, 53, 10, 99, 111, 110, 115, 116, 32, 110, 105, 108, 10, 103, 108, 111, 98, 97, 108, 32, 120, 10, 112, 114, 111, 99, 32, 48, 10, 32, 99, 111, 110, 115, 116, 32, 48, 10, 32, 115, 101, 116, 103, 108, 111, 98, 97, 108, 32, 48, 10, 32, 114, 101, 116, 117, 114, 110, 10, 112, 114, 111, 99, 32, 49, 10, 32, 118, 97, 114, 32, 48, 10, 32, 114, 101, 116, 117, 114, 110]).data.toList = (Cd.none_, 81, 10) := ex_cut
  rw [e1] at h1 ⊢
  exact ⟨cv, pv, gv, rfl, h1.cr.lit, h1.pr.lit, h1.gr.lit, h3⟩

theorem ExAt.cut {W : World} {b : Nat} (h : ExAt W b 2) : ExAt (W.setCell ⟨b + 1 + 1 + 1 + 1 + 1, 3, none⟩ (.slice (some ⟨b + 1 + 1 + 1 + 1, 0, none⟩) 1 2)) b 1 := by
  have hs : Same [b + 1 + 1 + 1 + 1 + 1] W (W.setCell ⟨b + 1 + 1 + 1 + 1 + 1, 3, none⟩ (.slice (some ⟨b + 1 + 1 + 1 + 1, 0, none⟩) 1 2)) := (Same.refl _ _).setCell (by simp) _
  exact ⟨h.cs.frame hs (by simp), h.gs.frame hs (by simp), h.k1.frame hs (by simp), h.k2.frame hs (by simp), h.ps.set 3 _⟩

set_option maxHeartbeats 8000000 in
set_option maxRecDepth 100000 in
theorem works_any (hv : Vars w) : Calls Tryz.prog 8 #[] w fun e w' => e = .returned (.bool true) ∧ Same [] w w' := by
  have HV := Lib.hid hv
  have hsz := hv.size
  clear hv
  go_enter Tryz.func8, Tryz.ntmps8
  go_wp2_with fail
  refine (example_any HV.out).mono ?_
  rintro e w1 ⟨rfl, hx1, hs1⟩
  have HX1 := Lib.hid hx1
  have HS1 := Lib.hid hs1
  have hz1 := hs1.size
  clear hx1 hs1
  unfold exV
  go_wp2_with fail
  refine (ex_chk (HV.out.frame (HS1.out.alloc _) (by simp)) (HX1.out.frame ((Same.refl [] w1).alloc _))).mono ?_
  rintro e w2 ⟨rfl, hs2⟩
  have HBX : Hid (∀ W, Same [] (w1.alloc (.cells #[.slice (some ⟨w.heap.size + 1, 0, none⟩) 2 2, .slice (some ⟨w.heap.size + 1 + 1 + 1 + 1 + 1, 0, none⟩) 2 2, .slice (some ⟨w.heap.size + 1 + 1, 0, none⟩) 1 1] 26)) W → Blk W w1.heap.size 26 [.slice (some ⟨w.heap.size + 1, 0, none⟩) 2 2, .slice (some ⟨w.heap.size + 1 + 1 + 1 + 1 + 1, 0, none⟩) 2 2, .slice (some ⟨w.heap.size + 1 + 1, 0, none⟩) 1 1] ∧ ExAt W w.heap.size 2 ∧ Same [] w W ∧ Vars W ∧ w1.heap.size < W.heap.size) := Lib.hid (fun W hs => by
    have h1 : Same [] w1 W := ((Same.refl [] w1).alloc _).trans hs
    have h2 := HS1.out.trans h1
    have h3 := (Blk.new w1 26 [.slice (some ⟨w.heap.size + 1, 0, none⟩) 2 2, .slice (some ⟨w.heap.size + 1 + 1 + 1 + 1 + 1, 0, none⟩) 2 2, .slice (some ⟨w.heap.size + 1 + 1, 0, none⟩) 1 1]).frame hs (by simp)
    exact ⟨h3, HX1.out.frame h1, h2, HV.out.frame h2 (by simp), h3.lt⟩)
  have HS2 := Lib.hid hs2
  obtain ⟨hb, hx, hsw, hv, hz⟩ := HBX.out w2 hs2
  have p0 := hb.cell 0
  have p1 := hb.cell 1
  have p2 := hb.cell 2
  have HT := Lib.hid (ex_txt hv hx)
  clear hb hx hsw hv hs2
  go_wp2_with fail
  refine HT.out.mono ?_
  rintro e w3 ⟨rfl, hs3⟩
  have HS3 := Lib.hid (HS2.out.trans hs3)
  obtain ⟨hb, hx, hsw, hv, hz3⟩ := HBX.out w3 HS3.out
  have HP := Lib.hid (ex_par hv)
  clear hb hx hsw hv hs3 HT p0 p1 p2
  go_wp2_with fail
  refine HP.out.mono ?_
  rintro e w4 ⟨cv, pv, gv, kvs, F, rfl, ho4, hs4⟩
  obtain ⟨A1, C1, hcv⟩ := ho4.cr.lit
  obtain ⟨A2, C2, hpv⟩ := ho4.pr.lit
  obtain ⟨A3, C3, hgv⟩ := ho4.gr.lit
  subst hcv hpv hgv
  have HS4 := Lib.hid (HS3.out.trans hs4)
  obtain ⟨hb, hx, hsw, hv, hz4⟩ := HBX.out w4 HS4.out
  have HO4 := Lib.hid ho4
  have p0 := hb.cell 0
  have p1 := hb.cell 1
  have p2 := hb.cell 2
  have HX4 := Lib.hid hx
  clear hb hx hsw hv hs4 HP ho4
  go_wp2_with fail
  refine (same_any (exV w.heap.size) _ exC exC (HX4.out.frame ((Same.refl [] w4).alloc _)).whole ⟨_, _, _, rfl, (HO4.out.frame ((Same.refl [] w4).alloc _) (by simp)).read⟩).mono ?_
  rintro e w5 ⟨rfl, hs5⟩
  rw [decide_eq_true (rfl : exC = exC)]
  have HS5 := Lib.hid (HS4.out.trans (((Same.refl [] w4).alloc _).trans hs5))
  obtain ⟨hb, hx, hsw, hv, hz5⟩ := HBX.out w5 HS5.out
  have HP := Lib.hid (ex_par1 hv)
  clear hb hx hsw hv hs5 p0 p1 p2
  go_wp2_with fail
  refine HP.out.mono ?_
  rintro e w6 ⟨cv6, pv6, gv6, rfl, ⟨B1, D1, hcv⟩, ⟨B2, D2, hpv⟩, ⟨B3, D3, hgv⟩, hs6⟩
  subst hcv hpv hgv
  have HS6 := Lib.hid (HS5.out.trans hs6)
  obtain ⟨hb, hx, hsw, hv, hz6⟩ := HBX.out w6 HS6.out
  have p0 := hb.cell 0
  have p1 := hb.cell 1
  have p2 := hb.cell 2
  have r3 := hx.ps.cell 3
  have rz := hx.ps.lt
  have rf := hx.ps.frozen
  have HX6 := Lib.hid hx
  have HW6 := Lib.hid hsw
  clear hb hx hsw hv hs6 HP
  have hbn : w.heap.size + 1 + 1 + 1 + 1 + 1 < w1.heap.size := HX1.out.ps.lt
  have hbne : ¬ w1.heap.size = w.heap.size + 1 + 1 + 1 + 1 + 1 := by omega
  have HX7 : Hid (ExAt (w6.setCell ⟨w.heap.size + 1 + 1 + 1 + 1 + 1, 3, none⟩ (.slice (some ⟨w.heap.size + 1 + 1 + 1 + 1, 0, none⟩) 1 2)) w.heap.size 1) := Lib.hid HX6.out.cut
  have HW7 : Hid (Same [] w (w6.setCell ⟨w.heap.size + 1 + 1 + 1 + 1 + 1, 3, none⟩ (.slice (some ⟨w.heap.size + 1 + 1 + 1 + 1, 0, none⟩) 1 2))) := Lib.hid (HW6.out.setCell (.inr (by dsimp only; omega)) _)
  go_upto_region 7 with fail
  go_region
  all_goals
    go_wp2_with fail
  all_goals
    refine (ex_chk1 (HV.out.frame ((HW7.out.alloc _).drew) (by simp)) (HX7.out.frame ((Same.refl [] _).alloc _).drew)).mono ?_
    rintro e w8 ⟨rfl, hs8⟩
    have HW8 := Lib.hid (((HW7.out.alloc _).drew).trans hs8)
    clear hs8
    go_wp2_with fail
    go_ret
    exact ⟨rfl, HW8.out⟩
end Ck
end Go.Proofs.YticaipedpcmhfaaGreatDoor
