/- Layer 18: what a row's laid data gives the walks. -/
import Derived.Test.YtkepcdbogeineaaGreatDoorRows
import Derived.Test.YtkepcdbogeineaaGreatDoorCkV
import Derived.Lib.LaidU8
import Derived.Stop.LaidErr
import Derived.ProofKit
import Derived.LaidMore
import Derived.OpenShut
import Derived.Stop.Joined
import Derived.LaidLaws
namespace Go.Proofs.YtkepcdbogeineaaGreatDoor
open Go Go.ChangeShapes Go.WideShapes Go.ChangeAt Go.RowKit
namespace Ck

theorem tabIs_of_reads {P : Program} {W : World} {name : String} {k : IntKind} {zs : List Int} {g : Nat} {t e : TypeId} {n : Nat}
    (hg : P.globalNamed name = some g) (hty : (P.globals[g]?).map (·.type) = some t) (ht : P.underlying t = some (.array n e)) (he : P.underlying e = some (.int k)) (hce : P.cellsOf e = 1) (hct : P.cellsOf t = n)
    (h : Lib.VarReads P W name (Lib.tabData k zs)) : Lib.TabIs P W name k zs := by
  obtain ⟨g', t', cs, fuel, p, hg', ht', hvar, hd⟩ := h
  obtain rfl := Option.some.inj (hg.symm.trans hg')
  obtain rfl := Option.some.inj (hty.symm.trans ht')
  unfold Lib.TabIs
  rw [hvar, ← Lib.cells_of_tab ht he hce hct hd]

abbrev laidL : List (String × DataW Unit) := [("dapple/words.bounds", Rows.laid_dapple_words_bounds), ("dapple/code.takes", Rows.laid_dapple_code_takes)]

def takesL : List Int := [0, 2, 1, 1, 2, 2, 1, 1, 2, 3, 2, 2, 1, 1, 1, 2, 2, 2, 2, 2, 2, 1, 1]
def tabB : List Int := [0, 0, 0, 0, 0, 0, 0, 0, 0, 0, -576460752303423488, 576460752303423487, 0, 2147483647, 1, 22, 0, 2147483647]

set_option maxRecDepth 20000 in
theorem bounds_of_reads {W : World} (h : Lib.VarReads Tryz.prog W "dapple/words.bounds" Rows.laid_dapple_words_bounds) : ∀ i j, i < 9 → j < 2 → W.cell? ⟨0, i * 2 + j, none⟩ = some (.int .i64 (tabB.getD (i * 2 + j) 0)) := by
  obtain ⟨g', t', cs, fuel, p, hg', ht', hvar, hd⟩ := h
  have gB : Tryz.prog.globalNamed "dapple/words.bounds" = some 0 := by kernel_rfl
  have tB : (Tryz.prog.globals[0]?).map (·.type) = some 101 := by kernel_rfl
  obtain rfl := Option.some.inj (gB.symm.trans hg')
  obtain rfl := Option.some.inj (tB.symm.trans ht')
  have u1 : Tryz.prog.underlying 101 = some (.array 9 100) := by kernel_rfl
  have u2 : Tryz.prog.underlying 100 = some (.array 2 2) := by kernel_rfl
  have u3 : Tryz.prog.underlying 2 = some (.int .i64) := by kernel_rfl
  obtain ⟨xs, m1, rfl, hx1, hlen, hn3, hel⟩ := DataW.trod_array u1 hd
  have c183 : Tryz.prog.cellsOf 100 = 2 := by kernel_rfl
  have c2 : Tryz.prog.cellsOf 2 = 1 := by kernel_rfl
  rw [c183] at hel
  intro i j hi hj
  have hI := hel i hi
  have hxi : xs[i]? = some xs[i] := List.getElem?_eq_getElem (by omega)
  rw [hxi] at hI
  obtain ⟨ys, m2, rfl, hy1, hlen2, hn2, hel2⟩ := DataW.trod_array u2 hI
  rw [c2] at hel2
  have hJ := hel2 j hj
  have hyj : ys[j]? = some ys[j] := List.getElem?_eq_getElem (by omega)
  rw [hyj] at hJ
  simp only [Prod.mk.injEq, Rows.laid_dapple_words_bounds, DataW.agg.injEq] at hx1
  have hval : ys[j].1 = .lit (.int .i64 (tabB.getD (i * 2 + j) 0)) := by
    have e1 : (xs.map (·.1))[i]? = some (DataW.agg (ys.map (·.1))) := by
      rw [List.getElem?_map, hxi, Option.map_some]; rw [hy1]
    rw [← hx1.1] at e1
    have e2 : (ys.map (·.1))[j]? = some ys[j].1 := by rw [List.getElem?_map, hyj]; rfl
    have hi' : i = 0 ∨ i = 1 ∨ i = 2 ∨ i = 3 ∨ i = 4 ∨ i = 5 ∨ i = 6 ∨ i = 7 ∨ i = 8 := by omega
    have hj' : j = 0 ∨ j = 1 := by omega
    rcases hi' with rfl | rfl | rfl | rfl | rfl | rfl | rfl | rfl | rfl <;> rcases hj' with rfl | rfl <;>
      (simp only [List.getElem?_cons_zero, List.getElem?_cons_succ, Option.some.injEq, DataW.agg.injEq] at e1
       rw [← e1] at e2
       simp only [List.getElem?_cons_zero, List.getElem?_cons_succ, Option.some.injEq] at e2
       rw [← e2]; rfl)
  obtain ⟨k, e1, e2, _⟩ := DataW.trod_int u3 hJ
  rw [e2] at hval
  have hk : k = tabB.getD (i * 2 + j) 0 := by simpa using hval
  subst hk
  have := World.var?_cell gB hvar (i * 2 + j)
  rw [this]
  have e3 := congrArg (fun l => l[0]?) e1
  simp only [List.getElem?_take, List.getElem?_drop] at e3
  simp at e3
  simpa [show i * 2 + j < i * 2 + 2 by omega, hj] using e3

theorem takes_tab {W : World} (h : Lib.VarReads Tryz.prog W "dapple/code.takes" Rows.laid_dapple_code_takes) : Lib.TabIs Tryz.prog W "dapple/code.takes" .i64 takesL :=
  tabIs_of_reads (g := 1) (t := 163) (e := 3) (n := 23) (by kernel_rfl) (by kernel_rfl) (by kernel_rfl) (by kernel_rfl) (by kernel_rfl) (by kernel_rfl) h
theorem takes_is : ∀ a : Fin 23, takesL.getD a.val 0 = Cd.takes (a.val : Nat) := by decide
theorem least_is : ∀ a : Fin 9, tabB.getD (a.val * 2) 0 = Cd.least (a.val : Nat) := by decide
theorem most_is : ∀ a : Fin 9, tabB.getD (a.val * 2 + 1) 0 = Cd.most (a.val : Nat) := by decide

theorem of_laid {W : World} (h : laidMetH Tryz.prog laidL W) : Vars W := by
  rw [MakeChecks.laidMetH_plain _ _ _ (by kernel_rfl)] at h
  have hb := bounds_of_reads (Lib.laidMet.reads h (.head _))
  have ht := takes_tab (Lib.laidMet.reads h (.tail _ (.head _)))
  refine ⟨?_, fun t ht => ?_, fun t ht => ?_, fun a ha => ?_⟩
  · have h1 := Lib.TabIs.cell ht (g := 1) (by kernel_rfl) 0 (by decide)
    have h2 := hb 0 0 (by omega) (by omega)
    have h3 := World.block_lt_of_cell? W _ h1
    have h4 := World.block_lt_of_cell? W _ h2
    simp only at h3 h4
    omega
  · have := hb t 0 (by omega) (by omega)
    rw [Nat.add_zero, least_is ⟨t, by omega⟩] at this
    exact this
  · have := hb t 1 (by omega) (by omega)
    rw [most_is ⟨t, by omega⟩] at this
    exact this
  · have := Lib.TabIs.cell ht (g := 1) (by kernel_rfl) a ha
    rw [takes_is ⟨a, ha⟩] at this
    exact this
end Ck
end Go.Proofs.YtkepcdbogeineaaGreatDoor
