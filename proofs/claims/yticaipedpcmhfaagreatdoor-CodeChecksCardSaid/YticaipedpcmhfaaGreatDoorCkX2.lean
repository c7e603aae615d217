/- Layer 8, the plain side of the law's example. -/
import Derived.Test.YticaipedpcmhfaaGreatDoorCkT3
import Derived.Test.YticaipedpcmhfaaGreatDoorCkR3
import Derived.Test.YticaipedpcmhfaaGreatDoorCkS3
import Derived.Test.YticaipedpcmhfaaGreatDoorCkP2
namespace Go.Proofs.YticaipedpcmhfaaGreatDoor
open Go.RowKit Hp
namespace Ck

/-- The example, its text; with the second procedure cut short. -/
def exC : Cd.Co := ⟨[85, 1], [⟨#[120]⟩], [⟨0, [⟨1, 0⟩, ⟨5, 0⟩, ⟨12, 0⟩]⟩, ⟨1, [⟨2, 0⟩, ⟨12, 0⟩]⟩]⟩
def exD : Cd.Co := ⟨[85, 1], [⟨#[120]⟩], [⟨0, [⟨1, 0⟩, ⟨5, 0⟩, ⟨12, 0⟩]⟩, ⟨1, [⟨2, 0⟩]⟩]⟩
def exT : List UInt8 := [99, 111, 110, 115, 116, 32, 105, 110, 116, 32, 53, 10, 99, 111, 110, 115, 116, 32, 110, 105, 108, 10, 103, 108, 111, 98, 97, 108, 32, 120, 10, 112, 114, 111, 99, 32, 48, 10, 32, 99, 111, 110, 115, 116, 32] ++ [48, 10, 32, 115, 101, 116, 103, 108, 111, 98, 97, 108, 32, 48, 10, 32, 114, 101, 116, 117, 114, 110, 10, 112, 114, 111, 99, 32, 49, 10, 32, 118, 97, 114, 32, 48, 10, 32, 114, 101, 116, 117, 114, 110, 10]

theorem ex_check : Cd.check Cd.sym exC = (0, 0, 0) := by kernel_rfl
theorem ex_short : Cd.check Cd.sym exD = (80, 1, 0) := by kernel_rfl
theorem ex_textT : Cd.textT exC = exT := by kernel_rfl
theorem ex_parse : Cd.parseT Cd.sym exT = (exC, 0, 0) := by kernel_rfl
theorem ex_cut : Cd.parseT Cd.sym (exT.take 89) = (Cd.none_, 81, 10) := by kernel_rfl
theorem ex_text : textR exC = (exT, 0) := by
  unfold textR
  rw [ex_check, ex_textT]
  rfl
end Ck
end Go.Proofs.YticaipedpcmhfaaGreatDoor
/- Layer 8, the law's example: as it is made. -/
namespace Go.Proofs.YticaipedpcmhfaaGreatDoor
open Go.RowKit Hp
namespace Ck
variable {w w' : World}

theorem blk_sq {W : World} {b t n s cap : Nat} {cs : List Value} {f : Nat → Nat → Value} (h : Blk W b t cs) (hc : n ≤ cap) (hm : cap ≤ maxLen) (hf : ∀ i j, i < n → j < s → cs[i * s + j]? = some (f i j)) : Sq W (.slice (some ⟨b, 0, none⟩) n cap) n s f :=
  ⟨_, cap, rfl, hc, hm, fun _ => ⟨b, 0, rfl, h.lt, fun i j hi hj => by rw [Nat.zero_add, h.cell]; exact hf i j hi hj⟩⟩

/-- The example's lists in memory; m: how much of the second procedure's code is its own. -/
structure ExAt (W : World) (b m : Nat) : Prop where
  cs : Blk W (b + 1) 74 [.int .u64 85, .int .u64 1]
  gs : Blk W (b + 1 + 1) 9 [.string ⟨#[120]⟩]
  k1 : Blk W (b + 1 + 1 + 1) 82 [.int .u8 1, .int .i64 0, .int .u8 5, .int .i64 0, .int .u8 12, .int .i64 0]
  k2 : Blk W (b + 1 + 1 + 1 + 1) 82 [.int .u8 2, .int .i64 0, .int .u8 12, .int .i64 0]
  ps : Blk W (b + 1 + 1 + 1 + 1 + 1) 68 [.int .i64 0, .slice (some ⟨b + 1 + 1 + 1, 0, none⟩) 3 3, .int .i64 1, .slice (some ⟨b + 1 + 1 + 1 + 1, 0, none⟩) m 2]

def exV (b : Nat) : Value := .agg #[.slice (some ⟨b + 1, 0, none⟩) 2 2, .slice (some ⟨b + 1 + 1 + 1 + 1 + 1, 0, none⟩) 2 2, .slice (some ⟨b + 1 + 1, 0, none⟩) 1 1]

theorem ExAt.frame {W W' : World} {b m : Nat} (h : ExAt W b m) (hs : Same [] W W') : ExAt W' b m :=
  ⟨h.cs.frame hs (by simp), h.gs.frame hs (by simp), h.k1.frame hs (by simp), h.k2.frame hs (by simp), h.ps.frame hs (by simp)⟩

theorem two {i : Nat} (h : i < 2) : i = 0 ∨ i = 1 := by omega
theorem three {i : Nat} (h : i < 3) : i = 0 ∨ i = 1 ∨ i = 2 := by omega

theorem ExAt.whole {W : World} {b : Nat} (h : ExAt W b 2) : RCo W (exV b) exC := by
  refine ⟨_, _, _, rfl, blk_sq h.cs (by decide) (by unfold maxLen; decide) (fun i j hi hj => ?_), ⟨fun i => if i = 0 then .slice (some ⟨b + 1 + 1 + 1, 0, none⟩) 3 3 else .slice (some ⟨b + 1 + 1 + 1 + 1, 0, none⟩) 2 2, blk_sq h.ps (by decide) (by unfold maxLen; decide) (fun i j hi hj => ?_), fun i hi => ?_⟩, blk_sq h.gs (by decide) (by unfold maxLen; decide) (fun i j hi hj => ?_)⟩
  · obtain rfl : j = 0 := by omega
    rcases two hi with rfl | rfl <;> rfl
  · rcases two hi with rfl | rfl <;> rcases two hj with rfl | rfl <;> rfl
  · rcases two hi with rfl | rfl
    · exact blk_sq h.k1 (by decide) (by unfold maxLen; decide) (fun i j hi hj => by rcases three hi with rfl | rfl | rfl <;> rcases two hj with rfl | rfl <;> rfl)
    · exact blk_sq h.k2 (by decide) (by unfold maxLen; decide) (fun i j hi hj => by rcases two hi with rfl | rfl <;> rcases two hj with rfl | rfl <;> rfl)
  · obtain rfl : j = 0 := by omega
    have h0 : i < 1 := hi
    obtain rfl : i = 0 := by omega
    rfl

theorem ExAt.short {W : World} {b : Nat} (h : ExAt W b 1) : RCo W (exV b) exD := by
  refine ⟨_, _, _, rfl, blk_sq h.cs (by decide) (by unfold maxLen; decide) (fun i j hi hj => ?_), ⟨fun i => if i = 0 then .slice (some ⟨b + 1 + 1 + 1, 0, none⟩) 3 3 else .slice (some ⟨b + 1 + 1 + 1 + 1, 0, none⟩) 1 2, blk_sq h.ps (by decide) (by unfold maxLen; decide) (fun i j hi hj => ?_), fun i hi => ?_⟩, blk_sq h.gs (by decide) (by unfold maxLen; decide) (fun i j hi hj => ?_)⟩
  · obtain rfl : j = 0 := by omega
    rcases two hi with rfl | rfl <;> rfl
  · rcases two hi with rfl | rfl <;> rcases two hj with rfl | rfl <;> rfl
  · rcases two hi with rfl | rfl
    · exact blk_sq h.k1 (by decide) (by unfold maxLen; decide) (fun i j hi hj => by rcases three hi with rfl | rfl | rfl <;> rcases two hj with rfl | rfl <;> rfl)
    · exact blk_sq h.k2 (by decide) (by unfold maxLen; decide) (fun i j hi hj => by
        have h0 : i < 1 := hi
        obtain rfl : i = 0 := by omega
        rcases two hj with rfl | rfl <;> rfl)
  · obtain rfl : j = 0 := by omega
    have h0 : i < 1 := hi
    obtain rfl : i = 0 := by omega
    rfl

/-- What example answers. -/
def ExP (w : World) (e : Ending) (w' : World) : Prop := e = .returned (exV w.heap.size) ∧ ExAt w' w.heap.size 2 ∧ Same [] w w'

theorem exC_wco : WCo exC := ⟨by decide, by decide, fun p hp => by
  simp only [exC, List.mem_cons, List.not_mem_nil, or_false] at hp
  rcases hp with rfl | rfl
  · exact ⟨by unfold in64; decide, fun i hi => by
      simp only [List.mem_cons, List.not_mem_nil, or_false] at hi
      rcases hi with rfl | rfl | rfl <;> exact ⟨by decide, by unfold in64; decide⟩⟩
  · exact ⟨by unfold in64; decide, fun i hi => by
      simp only [List.mem_cons, List.not_mem_nil, or_false] at hi
      rcases hi with rfl | rfl <;> exact ⟨by decide, by unfold in64; decide⟩⟩⟩
theorem exD_wco : WCo exD := ⟨by decide, by decide, fun p hp => by
  simp only [exD, List.mem_cons, List.not_mem_nil, or_false] at hp
  rcases hp with rfl | rfl
  · exact ⟨by unfold in64; decide, fun i hi => by
      simp only [List.mem_cons, List.not_mem_nil, or_false] at hi
      rcases hi with rfl | rfl | rfl <;> exact ⟨by decide, by unfold in64; decide⟩⟩
  · exact ⟨by unfold in64; decide, fun i hi => by
      simp only [List.mem_cons, List.not_mem_nil, or_false] at hi
      rcases hi with rfl <;> exact ⟨by decide, by unfold in64; decide⟩⟩⟩

set_option maxRecDepth 100000 in
theorem int5_any (hv : Vars w) : Calls Tryz.prog 84 #[.int .i64 5] w fun e w' => e = .returned (.tuple #[.int .u64 85, .int .i64 0]) ∧ w = w' := by
  have HM := Lib.hid (make_any (w := w) 5 5 (by omega) (by unfold in64; omega) hv)
  have e : (if Cd.may (5 : Nat) 5 then #[Value.int .u64 (Cd.wordOf (5 : Nat) 5), .int .i64 0] else #[.int .u64 0, .int .i64 11]) = #[.int .u64 85, .int .i64 0] := by rfl
  rw [e] at HM
  clear hv e
  go_enter Tryz.func84, Tryz.ntmps84
  go_wp2_with fail
  refine HM.out.mono ?_
  rintro e w2 ⟨rfl, rfl⟩
  go_wp2_with fail
  refine bodyPost_ret (v := .tuple #[.int .u64 85, .int .i64 0]) (by simp [results, Tryz.results84, go_sem]) rfl ?_
  exact ⟨rfl, rfl⟩

theorem nil_any (hv : Vars w) : Calls Tryz.prog 85 #[.int .u8 1, .int .i64 0] w fun e w' => e = .returned (.tuple #[.int .u64 1, .int .i64 0]) ∧ w = w' := by
  have HM := make_any (w := w) 1 0 (by omega) (by unfold in64; omega) hv
  have e : (if Cd.may (1 : Nat) 0 then #[Value.int .u64 (Cd.wordOf (1 : Nat) 0), .int .i64 0] else #[.int .u64 0, .int .i64 11]) = #[.int .u64 1, .int .i64 0] := by rfl
  rw [e] at HM
  exact HM

set_option maxHeartbeats 4000000 in
set_option maxRecDepth 100000 in
theorem example_any (hv : Vars w) : Calls Tryz.prog 24 #[] w (ExP w) := by
  have HV := Lib.hid hv
  clear hv
  go_enter Tryz.func24, Tryz.ntmps24
  go_wp2_with fail
  refine (int5_any (HV.out.frame ((Same.refl [] w).alloc _) (by simp))).mono ?_
  rintro e w2 ⟨rfl, hw2⟩
  subst hw2
  go_wp2_with fail
  refine (nil_any (HV.out.frame ((Same.refl [] w).alloc _) (by simp))).mono ?_
  rintro e w3 ⟨rfl, hw3⟩
  subst hw3
  go_wp2_with fail
  refine bodyPost_ret (v := exV w.heap.size) (by simp [results, Tryz.results24, go_sem, exV]) rfl ?_
  refine ⟨rfl, ⟨?_, ?_, ?_, ?_, ?_⟩, (((((((Same.refl [] w).alloc _).alloc _).alloc _).alloc _).alloc _).alloc _)⟩
  · exact ((((blk_new (by simp)).alloc _).alloc _).alloc _).alloc _
  · exact (((blk_new (by simp)).alloc _).alloc _).alloc _
  · exact ((blk_new (by simp)).alloc _).alloc _
  · exact (blk_new (by simp)).alloc _
  · exact blk_new (by simp)
end Ck
end Go.Proofs.YticaipedpcmhfaaGreatDoor
