/- Own: the lists of other kinds are none. -/
import Derived.Test.YtkfdoocmapjkbaaDoorLdO
namespace Go.Proofs.YtkfdoocmapjkbaaDoor
open Go.RowKit Hp
namespace Lk
variable {w w' W : World}

set_option maxHeartbeats 800000 in
set_option maxRecDepth 100000 in
theorem own_nil51 : Calls Tryd.prog 51 #[.slice none 0 0] w fun e w' => e = .returned (.bool true) ∧ Same [] w w' := by
  go_enter Tryd.func51, Tryd.ntmps51
  go_wp2
  repeat (refine wp_loop_rounds 1 ?_; rw [rounds_succ]; go_wp2)
  go_ret
  exact ⟨rfl, by repeat (first | exact Same.refl _ _ | refine Same.alloc ?_ _ | refine Same.drew ?_)⟩

set_option maxHeartbeats 800000 in
set_option maxRecDepth 100000 in
theorem own_nil52 : Calls Tryd.prog 52 #[.slice none 0 0] w fun e w' => e = .returned (.bool true) ∧ Same [] w w' := by
  go_enter Tryd.func52, Tryd.ntmps52
  go_wp2
  repeat (refine wp_loop_rounds 1 ?_; rw [rounds_succ]; go_wp2)
  go_ret
  exact ⟨rfl, by repeat (first | exact Same.refl _ _ | refine Same.alloc ?_ _ | refine Same.drew ?_)⟩

set_option maxHeartbeats 800000 in
set_option maxRecDepth 100000 in
theorem own_nil54 : Calls Tryd.prog 54 #[.slice none 0 0] w fun e w' => e = .returned (.bool true) ∧ Same [] w w' := by
  go_enter Tryd.func54, Tryd.ntmps54
  go_wp2
  repeat (refine wp_loop_rounds 1 ?_; rw [rounds_succ]; go_wp2)
  go_ret
  exact ⟨rfl, by repeat (first | exact Same.refl _ _ | refine Same.alloc ?_ _ | refine Same.drew ?_)⟩

set_option maxHeartbeats 800000 in
set_option maxRecDepth 100000 in
theorem own_nil55 : Calls Tryd.prog 55 #[.slice none 0 0] w fun e w' => e = .returned (.bool true) ∧ Same [] w w' := by
  go_enter Tryd.func55, Tryd.ntmps55
  go_wp2
  repeat (refine wp_loop_rounds 1 ?_; rw [rounds_succ]; go_wp2)
  go_ret
  exact ⟨rfl, by repeat (first | exact Same.refl _ _ | refine Same.alloc ?_ _ | refine Same.drew ?_)⟩

set_option maxHeartbeats 800000 in
set_option maxRecDepth 100000 in
theorem own_nil56 : Calls Tryd.prog 56 #[.slice none 0 0] w fun e w' => e = .returned (.bool true) ∧ Same [] w w' := by
  go_enter Tryd.func56, Tryd.ntmps56
  go_wp2
  repeat (refine wp_loop_rounds 1 ?_; rw [rounds_succ]; go_wp2)
  go_ret
  exact ⟨rfl, by repeat (first | exact Same.refl _ _ | refine Same.alloc ?_ _ | refine Same.drew ?_)⟩

set_option maxHeartbeats 800000 in
set_option maxRecDepth 100000 in
theorem own_nil57 : Calls Tryd.prog 57 #[.slice none 0 0] w fun e w' => e = .returned (.bool true) ∧ Same [] w w' := by
  go_enter Tryd.func57, Tryd.ntmps57
  go_wp2
  repeat (refine wp_loop_rounds 1 ?_; rw [rounds_succ]; go_wp2)
  go_ret
  exact ⟨rfl, by repeat (first | exact Same.refl _ _ | refine Same.alloc ?_ _ | refine Same.drew ?_)⟩

set_option maxHeartbeats 800000 in
set_option maxRecDepth 100000 in
theorem own_nil58 : Calls Tryd.prog 58 #[.slice none 0 0] w fun e w' => e = .returned (.bool true) ∧ Same [] w w' := by
  go_enter Tryd.func58, Tryd.ntmps58
  go_wp2
  repeat (refine wp_loop_rounds 1 ?_; rw [rounds_succ]; go_wp2)
  go_ret
  exact ⟨rfl, by repeat (first | exact Same.refl _ _ | refine Same.alloc ?_ _ | refine Same.drew ?_)⟩

set_option maxHeartbeats 800000 in
set_option maxRecDepth 100000 in
theorem own_nil59 : Calls Tryd.prog 59 #[.slice none 0 0] w fun e w' => e = .returned (.bool true) ∧ Same [] w w' := by
  go_enter Tryd.func59, Tryd.ntmps59
  go_wp2
  repeat (refine wp_loop_rounds 1 ?_; rw [rounds_succ]; go_wp2)
  go_ret
  exact ⟨rfl, by repeat (first | exact Same.refl _ _ | refine Same.alloc ?_ _ | refine Same.drew ?_)⟩

set_option maxHeartbeats 800000 in
set_option maxRecDepth 100000 in
theorem own_nil60 : Calls Tryd.prog 60 #[.slice none 0 0] w fun e w' => e = .returned (.bool true) ∧ Same [] w w' := by
  go_enter Tryd.func60, Tryd.ntmps60
  go_wp2
  repeat (refine wp_loop_rounds 1 ?_; rw [rounds_succ]; go_wp2)
  go_ret
  exact ⟨rfl, by repeat (first | exact Same.refl _ _ | refine Same.alloc ?_ _ | refine Same.drew ?_)⟩

set_option maxHeartbeats 800000 in
set_option maxRecDepth 100000 in
theorem own_nil61 : Calls Tryd.prog 61 #[.slice none 0 0] w fun e w' => e = .returned (.bool true) ∧ Same [] w w' := by
  go_enter Tryd.func61, Tryd.ntmps61
  go_wp2
  repeat (refine wp_loop_rounds 1 ?_; rw [rounds_succ]; go_wp2)
  go_ret
  exact ⟨rfl, by repeat (first | exact Same.refl _ _ | refine Same.alloc ?_ _ | refine Same.drew ?_)⟩

set_option maxHeartbeats 800000 in
set_option maxRecDepth 100000 in
theorem own_nil62 : Calls Tryd.prog 62 #[.slice none 0 0] w fun e w' => e = .returned (.bool true) ∧ Same [] w w' := by
  go_enter Tryd.func62, Tryd.ntmps62
  go_wp2
  repeat (refine wp_loop_rounds 1 ?_; rw [rounds_succ]; go_wp2)
  go_ret
  exact ⟨rfl, by repeat (first | exact Same.refl _ _ | refine Same.alloc ?_ _ | refine Same.drew ?_)⟩

theorem info108 : (Tryd.prog.info? 108).map (fun i => (i.zero, i.size, i.bytes)) = some (some (.slice none 0 0), 1, 24) := by kernel_rfl

set_option maxHeartbeats 800000 in
set_option maxRecDepth 100000 in
theorem own_nil63 : Calls Tryd.prog 63 #[.slice none 0 0] w fun e w' => e = .returned (.bool true) ∧ Same [] w w' := by
  go_enter Tryd.func63, Tryd.ntmps63
  go_wp2_with (at_make; refine wpList_make_blk _ rfl (.tmp 13) (.tmp 13) 72 rfl 108 (.slice none 0 0) 1 24 Tryd.underlying72 info108 0 rfl rfl ?m1 ?m2 ?K)
  case m1 => omega
  case m2 => unfold maxLen; omega
  case K =>
    intro w1 _ hs1
    have HS := Lib.hid hs1
    clear hs1
    go_wp2
    refine wp_loop_rounds 1 ?_
    rw [rounds_succ]
    go_wp2
    go_ret
    exact ⟨rfl, HS.out⟩

set_option maxHeartbeats 800000 in
set_option maxRecDepth 100000 in
theorem own_nil64 : Calls Tryd.prog 64 #[.slice none 0 0] w fun e w' => e = .returned (.bool true) ∧ Same [] w w' := by
  go_enter Tryd.func64, Tryd.ntmps64
  go_wp2
  repeat (refine wp_loop_rounds 1 ?_; rw [rounds_succ]; go_wp2)
  go_ret
  exact ⟨rfl, by repeat (first | exact Same.refl _ _ | refine Same.alloc ?_ _ | refine Same.drew ?_)⟩

set_option maxHeartbeats 800000 in
set_option maxRecDepth 100000 in
theorem own_nil65 : Calls Tryd.prog 65 #[.slice none 0 0] w fun e w' => e = .returned (.bool true) ∧ Same [] w w' := by
  go_enter Tryd.func65, Tryd.ntmps65
  go_wp2
  repeat (refine wp_loop_rounds 1 ?_; rw [rounds_succ]; go_wp2)
  go_ret
  exact ⟨rfl, by repeat (first | exact Same.refl _ _ | refine Same.alloc ?_ _ | refine Same.drew ?_)⟩

set_option maxHeartbeats 800000 in
set_option maxRecDepth 100000 in
theorem own_nil66 : Calls Tryd.prog 66 #[.slice none 0 0] w fun e w' => e = .returned (.bool true) ∧ Same [] w w' := by
  go_enter Tryd.func66, Tryd.ntmps66
  go_wp2
  repeat (refine wp_loop_rounds 1 ?_; rw [rounds_succ]; go_wp2)
  go_ret
  exact ⟨rfl, by repeat (first | exact Same.refl _ _ | refine Same.alloc ?_ _ | refine Same.drew ?_)⟩

set_option maxHeartbeats 800000 in
set_option maxRecDepth 100000 in
theorem own_nil67 : Calls Tryd.prog 67 #[.slice none 0 0] w fun e w' => e = .returned (.bool true) ∧ Same [] w w' := by
  go_enter Tryd.func67, Tryd.ntmps67
  go_wp2
  repeat (refine wp_loop_rounds 1 ?_; rw [rounds_succ]; go_wp2)
  go_ret
  exact ⟨rfl, by repeat (first | exact Same.refl _ _ | refine Same.alloc ?_ _ | refine Same.drew ?_)⟩
end Lk
end Go.Proofs.YtkfdoocmapjkbaaDoor
