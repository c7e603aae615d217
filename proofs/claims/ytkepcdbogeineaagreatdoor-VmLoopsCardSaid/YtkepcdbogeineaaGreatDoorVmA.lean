/- Layer 18: the table of what each instruction does: a map that the call makes, and its look-up. -/
import Derived.Test.YtkepcdbogeineaaGreatDoorHp
import Derived.Test.YtkepcdbogeineaaGreatDoorProg
import Derived.MapKept
import Derived.IntWalk
import Derived.Deep.DeepCutAuto
namespace Go.Proofs.YtkepcdbogeineaaGreatDoor
open Go.RowKit Hp
namespace Vm
variable {w w' : World}

/-- The functions, by the instructions' numbers; the table's entries. -/
def opF : List Nat := [43, 44, 45, 46, 47, 48, 49, 50, 51, 52, 53, 54, 55, 56, 57, 58, 59, 60]
def tab : Nat → Array MapEntry
  | 0 => #[]
  | n + 1 => (tab n).push { key := .int .u8 ((n + 1 : Nat) : Int), val := .func (.func (opF.getD n 0)) #[] #[], born := n }

theorem tab_new (n : Nat) (h : n < 18) : Instr.findNow (.int .u8) (.int .u8 ((n + 1 : Nat) : Int)) (tab n).toList 0 = some none := by
  match n, h with
  | 0, _ => rfl | 1, _ => rfl | 2, _ => rfl | 3, _ => rfl | 4, _ => rfl | 5, _ => rfl | 6, _ => rfl | 7, _ => rfl | 8, _ => rfl | 9, _ => rfl | 10, _ => rfl | 11, _ => rfl | 12, _ => rfl | 13, _ => rfl | 14, _ => rfl | 15, _ => rfl | 16, _ => rfl | 17, _ => rfl | _ + 18, h => exact absurd h (by omega)
theorem tab_find (n : Nat) (h : n < 18) : Instr.findNow (.int .u8) (.int .u8 ((n + 1 : Nat) : Int)) (tab 18).toList 0 = some (some (n, .func (.func (opF.getD n 0)) #[] #[])) := by
  match n, h with
  | 0, _ => rfl | 1, _ => rfl | 2, _ => rfl | 3, _ => rfl | 4, _ => rfl | 5, _ => rfl | 6, _ => rfl | 7, _ => rfl | 8, _ => rfl | 9, _ => rfl | 10, _ => rfl | 11, _ => rfl | 12, _ => rfl | 13, _ => rfl | 14, _ => rfl | 15, _ => rfl | 16, _ => rfl | 17, _ => rfl | _ + 18, h => exact absurd h (by omega)

theorem alloc_map (w : World) (o o' : Obj) : { w.alloc o with heap := (w.alloc o).heap.setIfInBounds w.heap.size o' } = w.alloc o' := by
  have e : (w.heap.push o).setIfInBounds w.heap.size o' = w.heap.push o' := by
    apply Array.ext
    · simp
    · intro i h1 h2
      rw [Array.getElem_setIfInBounds, Array.getElem_push, Array.getElem_push]
      by_cases hi : i < w.heap.size
      · rw [if_neg (by omega), dif_pos hi, dif_pos hi]
      · have : w.heap.size = i := by simp at h2; omega
        rw [if_pos this, dif_neg hi]
      case h₂ => simpa using h2
  show ({ w.alloc o with heap := (w.heap.push o).setIfInBounds w.heap.size o' } : World) = w.alloc o'
  rw [e]
  rfl

theorem upd (w : World) (n : Nat) (h : n < 18) : (Instr.mapUpdate 78 (.map (some w.heap.size)) (.int .u8 ((n + 1 : Nat) : Int)) (.func (.func (opF.getD n 0)) #[] #[])).run Tryz.prog (w.alloc (.map (tab n) n)) = .ok () (w.alloc (.map (tab (n + 1)) (n + 1))) := by
  have hb : (w.alloc (.map (tab n) n)).heap[w.heap.size]? = some (.map (tab n) n) := heap_alloc_new w _
  have hc : (Instr.checkKey false 10000 51 (.int .u8 ((n + 1 : Nat) : Int))).run Tryz.prog (w.alloc (.map (tab n) n)) = .ok () (w.alloc (.map (tab n) n)) := MapKept.run_checkKey (k := .int .u8 ((n + 1 : Nat) : Int)) Tryz.underlying51 (by simp [MapKept.IsKey]) false 9999
  have hs := MapKept.run_setObj_map (P := Tryz.prog) (.map ((tab n).push { key := .int .u8 ((n + 1 : Nat) : Int), val := .func (.func (opF.getD n 0)) #[] #[], born := n }) (n + 1)) hb
  rw [alloc_map] at hs
  simp only [Instr.mapUpdate, Sem.run_bind, run_underlying Tryz.underlying78, MapKept.run_getObj_map hb, hc, MapKept.run_findKey Tryz.underlying51 (tab_new n h), hs, Result.andThen]
  rfl

theorem look (M : Nat) (hM : w.heap[M]? = some (.map (tab 18) 18)) (n : Nat) (h : n < 18) : (Instr.lookup 78 (.map (some M)) (.int .u8 ((n + 1 : Nat) : Int)) false).run Tryz.prog w = .ok (.func (.func (opF.getD n 0)) #[] #[]) w := by
  have hc : ∀ e, (Instr.checkKey e 10000 51 (.int .u8 ((n + 1 : Nat) : Int))).run Tryz.prog w = .ok () w := fun e => MapKept.run_checkKey (k := .int .u8 ((n + 1 : Nat) : Int)) Tryz.underlying51 (by simp [MapKept.IsKey]) e 9999
  simp only [Instr.lookup, Sem.run_bind, Sem.run_pure, run_underlying Tryz.underlying78, MapKept.run_getObj_map hM, hc, MapKept.run_findKey Tryz.underlying51 (tab_find n h), Result.andThen]
  rfl

set_option maxHeartbeats 3200000 in
set_option maxRecDepth 100000 in
theorem table_any : Calls Tryz.prog 30 #[] w fun e w' => e = .returned (.map (some w.heap.size)) ∧ w' = w.alloc (.map (tab 18) 18) := by
  have hmm : ∀ t, (Instr.makeMap t none).run Tryz.prog w = .ok (.map (some w.heap.size)) (w.alloc (.map (tab 0) 0)) := fun t => run_makeMap t w
  have h0 : (Instr.mapUpdate 78 (.map (some w.heap.size)) (.int .u8 1) (.func (.func 43) #[] #[])).run Tryz.prog (w.alloc (.map (tab 0) 0)) = .ok () (w.alloc (.map (tab 1) 1)) := upd w 0 (by decide)
  have h1 : (Instr.mapUpdate 78 (.map (some w.heap.size)) (.int .u8 2) (.func (.func 44) #[] #[])).run Tryz.prog (w.alloc (.map (tab 1) 1)) = .ok () (w.alloc (.map (tab 2) 2)) := upd w 1 (by decide)
  have h2 : (Instr.mapUpdate 78 (.map (some w.heap.size)) (.int .u8 3) (.func (.func 45) #[] #[])).run Tryz.prog (w.alloc (.map (tab 2) 2)) = .ok () (w.alloc (.map (tab 3) 3)) := upd w 2 (by decide)
  have h3 : (Instr.mapUpdate 78 (.map (some w.heap.size)) (.int .u8 4) (.func (.func 46) #[] #[])).run Tryz.prog (w.alloc (.map (tab 3) 3)) = .ok () (w.alloc (.map (tab 4) 4)) := upd w 3 (by decide)
  have h4 : (Instr.mapUpdate 78 (.map (some w.heap.size)) (.int .u8 5) (.func (.func 47) #[] #[])).run Tryz.prog (w.alloc (.map (tab 4) 4)) = .ok () (w.alloc (.map (tab 5) 5)) := upd w 4 (by decide)
  have h5 : (Instr.mapUpdate 78 (.map (some w.heap.size)) (.int .u8 6) (.func (.func 48) #[] #[])).run Tryz.prog (w.alloc (.map (tab 5) 5)) = .ok () (w.alloc (.map (tab 6) 6)) := upd w 5 (by decide)
  have h6 : (Instr.mapUpdate 78 (.map (some w.heap.size)) (.int .u8 7) (.func (.func 49) #[] #[])).run Tryz.prog (w.alloc (.map (tab 6) 6)) = .ok () (w.alloc (.map (tab 7) 7)) := upd w 6 (by decide)
  have h7 : (Instr.mapUpdate 78 (.map (some w.heap.size)) (.int .u8 8) (.func (.func 50) #[] #[])).run Tryz.prog (w.alloc (.map (tab 7) 7)) = .ok () (w.alloc (.map (tab 8) 8)) := upd w 7 (by decide)
  have h8 : (Instr.mapUpdate 78 (.map (some w.heap.size)) (.int .u8 9) (.func (.func 51) #[] #[])).run Tryz.prog (w.alloc (.map (tab 8) 8)) = .ok () (w.alloc (.map (tab 9) 9)) := upd w 8 (by decide)
  have h9 : (Instr.mapUpdate 78 (.map (some w.heap.size)) (.int .u8 10) (.func (.func 52) #[] #[])).run Tryz.prog (w.alloc (.map (tab 9) 9)) = .ok () (w.alloc (.map (tab 10) 10)) := upd w 9 (by decide)
  have h10 : (Instr.mapUpdate 78 (.map (some w.heap.size)) (.int .u8 11) (.func (.func 53) #[] #[])).run Tryz.prog (w.alloc (.map (tab 10) 10)) = .ok () (w.alloc (.map (tab 11) 11)) := upd w 10 (by decide)
  have h11 : (Instr.mapUpdate 78 (.map (some w.heap.size)) (.int .u8 12) (.func (.func 54) #[] #[])).run Tryz.prog (w.alloc (.map (tab 11) 11)) = .ok () (w.alloc (.map (tab 12) 12)) := upd w 11 (by decide)
  have h12 : (Instr.mapUpdate 78 (.map (some w.heap.size)) (.int .u8 13) (.func (.func 55) #[] #[])).run Tryz.prog (w.alloc (.map (tab 12) 12)) = .ok () (w.alloc (.map (tab 13) 13)) := upd w 12 (by decide)
  have h13 : (Instr.mapUpdate 78 (.map (some w.heap.size)) (.int .u8 14) (.func (.func 56) #[] #[])).run Tryz.prog (w.alloc (.map (tab 13) 13)) = .ok () (w.alloc (.map (tab 14) 14)) := upd w 13 (by decide)
  have h14 : (Instr.mapUpdate 78 (.map (some w.heap.size)) (.int .u8 15) (.func (.func 57) #[] #[])).run Tryz.prog (w.alloc (.map (tab 14) 14)) = .ok () (w.alloc (.map (tab 15) 15)) := upd w 14 (by decide)
  have h15 : (Instr.mapUpdate 78 (.map (some w.heap.size)) (.int .u8 16) (.func (.func 58) #[] #[])).run Tryz.prog (w.alloc (.map (tab 15) 15)) = .ok () (w.alloc (.map (tab 16) 16)) := upd w 15 (by decide)
  have h16 : (Instr.mapUpdate 78 (.map (some w.heap.size)) (.int .u8 17) (.func (.func 59) #[] #[])).run Tryz.prog (w.alloc (.map (tab 16) 16)) = .ok () (w.alloc (.map (tab 17) 17)) := upd w 16 (by decide)
  have h17 : (Instr.mapUpdate 78 (.map (some w.heap.size)) (.int .u8 18) (.func (.func 60) #[] #[])).run Tryz.prog (w.alloc (.map (tab 17) 17)) = .ok () (w.alloc (.map (tab 18) 18)) := upd w 17 (by decide)
  go_enter Tryz.func30, Tryz.ntmps30
  go_wp2
  go_ret
  exact ⟨rfl, rfl⟩
end Vm
end Go.Proofs.YtkepcdbogeineaaGreatDoor
