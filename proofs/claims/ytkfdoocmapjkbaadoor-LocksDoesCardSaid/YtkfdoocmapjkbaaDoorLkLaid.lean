/- Layer 19: what the row's condition on the table of bounds gives the walks. -/
import Derived.Test.YtkfdoocmapjkbaaDoorRows
import Derived.Test.YtkfdoocmapjkbaaDoorLkK
import Derived.ProofKit
import Derived.LaidMore
import Derived.OpenShut
import Derived.Stop.Joined
namespace Go.Proofs.YtkfdoocmapjkbaaDoor
open Go.ChangeShapes Go.WideShapes Go.ChangeAt Go.RowKit

abbrev laidL : List (String × DataW Unit) := [("dapple/words.bounds", Rows.laid_dapple_words_bounds)]

theorem own : ownKnob Tryd.prog.godebug = none := by kernel_rfl
theorem gBounds : Tryd.prog.globalNamed "dapple/words.bounds" = some 0 := by kernel_rfl
theorem tBounds : (Tryd.prog.globals[0]?).map (·.type) = some 184 := by kernel_rfl

theorem door_met (os : Os) (args : Array Value) : laidMetH Tryd.prog laidL ((World.doorLaid Tryd.prog 18 os).forCall (fun _ _ => 0) ⟨#[], args, []⟩).memory :=
  laidMetH_of_parts3 (fuel := 8) (laidMet_of_run' 8 (by kernel_rfl) (by kernel_rfl)) (by kernel_rfl) (by kernel_rfl)

/-- The table's numbers, two a tag. -/
def tabB : List Int := [0, 0, 0, 0, 0, 0, 0, 0, 0, 0, -576460752303423488, 576460752303423487, 0, 2147483647, 1, 22, 0, 2147483647]

theorem cells_of_laid {W : World} (h : laidMetH Tryd.prog laidL W) : ∀ i j, i < 9 → j < 2 → W.cell? ⟨0, i * 2 + j, none⟩ = some (.int .i64 (tabB.getD (i * 2 + j) 0)) := by
  rw [MakeChecks.laidMetH_plain _ _ _ (by kernel_rfl)] at h
  obtain ⟨ps, ⟨g0, t0, cs0, f0, p0, q0, hg0, ht0, hv0, hd0, _, _⟩, _⟩ := h
  obtain rfl := Option.some.inj (gBounds.symm.trans hg0)
  obtain rfl := Option.some.inj (tBounds.symm.trans ht0)
  obtain ⟨xs, m1, rfl, hx1, hlen, hn3, hel⟩ := DataW.trod_array Tryd.underlying184 hd0
  have c183 : Tryd.prog.cellsOf 183 = 2 := by kernel_rfl
  have c2 : Tryd.prog.cellsOf 2 = 1 := by kernel_rfl
  rw [c183] at hel
  intro i j hi hj
  have hI := hel i hi
  have hxi : xs[i]? = some xs[i] := List.getElem?_eq_getElem (by omega)
  rw [hxi] at hI
  obtain ⟨ys, m2, rfl, hy1, hlen2, hn2, hel2⟩ := DataW.trod_array Tryd.underlying183 hI
  rw [c2] at hel2
  have hJ := hel2 j hj
  have hyj : ys[j]? = some ys[j] := List.getElem?_eq_getElem (by omega)
  rw [hyj] at hJ
  simp only [Prod.mk.injEq, Rows.laid_dapple_words_bounds, DataW.agg.injEq] at hx1
  have hval : ys[j].1 = .lit (.int .i64 (tabB.getD (i * 2 + j) 0)) := by
    have e1 : (xs.map (·.1))[i]? = some (DataW.agg (ys.map (·.1))) := by
      rw [List.getElem?_map, hxi, Option.map_some]; rw [hy1]
    rw [← hx1.1] at e1
    have e2 : (ys.map (·.1))[j]? = some ys[j].1 := by rw [List.getElem?_map, hyj]; rfl
    have hi' : i = 0 ∨ i = 1 ∨ i = 2 ∨ i = 3 ∨ i = 4 ∨ i = 5 ∨ i = 6 ∨ i = 7 ∨ i = 8 := by omega
    have hj' : j = 0 ∨ j = 1 := by omega
    rcases hi' with rfl | rfl | rfl | rfl | rfl | rfl | rfl | rfl | rfl <;> rcases hj' with rfl | rfl <;>
      (simp only [List.getElem?_cons_zero, List.getElem?_cons_succ, Option.some.injEq, DataW.agg.injEq] at e1
       rw [← e1] at e2
       simp only [List.getElem?_cons_zero, List.getElem?_cons_succ, Option.some.injEq] at e2
       rw [← e2]; rfl)
  obtain ⟨k, e1, e2, _⟩ := DataW.trod_int Tryd.underlying2 hJ
  rw [e2] at hval
  have hk : k = tabB.getD (i * 2 + j) 0 := by simpa using hval
  subst hk
  have := World.var?_cell hg0 hv0 (i * 2 + j)
  rw [this]
  have e3 := congrArg (fun l => l[0]?) e1
  simp only [List.getElem?_take, List.getElem?_drop] at e3
  simp at e3
  simpa [show i * 2 + j < i * 2 + 2 by omega, hj] using e3

theorem of_laid {W : World} (h : laidMetH Tryd.prog laidL W) : Lk.Bnd W := by
  have h8 := cells_of_laid h 4 0 (by omega) (by omega)
  have h9 := cells_of_laid h 4 1 (by omega) (by omega)
  exact ⟨World.block_lt_of_cell? W ⟨0, 8, none⟩ h8, h8, h9⟩
end Go.Proofs.YtkfdoocmapjkbaaDoor
