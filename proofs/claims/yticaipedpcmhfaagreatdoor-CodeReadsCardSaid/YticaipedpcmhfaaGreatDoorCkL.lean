/- Layer 8: what a row's laid data gives the walks: numbers, strings. -/
import Derived.Test.YticaipedpcmhfaaGreatDoorRows
import Derived.Test.YticaipedpcmhfaaGreatDoorCkV
import Derived.Lib.LaidU8
import Derived.Stop.LaidErr
import Derived.ProofKit
import Derived.LaidMore
import Derived.OpenShut
import Derived.Stop.Joined
import Derived.Test.YticaipedpcmhfaaGreatDoorCkW2
import Derived.LaidLaws
namespace Go.Proofs.YticaipedpcmhfaaGreatDoor
open Go Go.ChangeShapes Go.WideShapes Go.ChangeAt Go.RowKit
namespace Ck

theorem tabIs_of_reads {P : Program} {W : World} {name : String} {k : IntKind} {zs : List Int} {g : Nat} {t e : TypeId} {n : Nat}
    (hg : P.globalNamed name = some g) (hty : (P.globals[g]?).map (·.type) = some t) (ht : P.underlying t = some (.array n e)) (he : P.underlying e = some (.int k)) (hce : P.cellsOf e = 1) (hct : P.cellsOf t = n)
    (h : Lib.VarReads P W name (Lib.tabData k zs)) : Lib.TabIs P W name k zs := by
  obtain ⟨g', t', cs, fuel, p, hg', ht', hvar, hd⟩ := h
  obtain rfl := Option.some.inj (hg.symm.trans hg')
  obtain rfl := Option.some.inj (hty.symm.trans ht')
  unfold Lib.TabIs
  rw [hvar, ← Lib.cells_of_tab ht he hce hct hd]

/-- Strings, one a cell. -/
theorem strs_of_reads {P : Program} {W : World} {name : String} {ss : List (List UInt8)} {g : Nat} {t e : TypeId} {n : Nat}
    (hg : P.globalNamed name = some g) (hty : (P.globals[g]?).map (·.type) = some t) (ht : P.underlying t = some (.array n e)) (he : P.underlying e = some .string) (hce : P.cellsOf e = 1)
    (h : Lib.VarReads P W name (.agg (ss.map fun s => .lit (.string s)))) (i : Nat) (hi : i < n) : W.cell? ⟨g, i, none⟩ = some (.string ⟨(ss.getD i []).toArray⟩) := by
  obtain ⟨g', t', cs, fuel, p, hg', ht', hvar, hd⟩ := h
  obtain rfl := Option.some.inj (hg.symm.trans hg')
  obtain rfl := Option.some.inj (hty.symm.trans ht')
  obtain ⟨xs, m1, rfl, hx1, hlen, hn3, hel⟩ := DataW.trod_array ht hd
  rw [hce] at hel
  have hI := hel i hi
  have hxi : xs[i]? = some xs[i] := List.getElem?_eq_getElem (by omega)
  rw [hxi] at hI
  obtain ⟨s, e1, e2, _⟩ := DataW.trod_string he hI
  simp only [Prod.mk.injEq, DataW.agg.injEq] at hx1
  have h1 : (xs.map (·.1))[i]? = some (DataW.lit (.string s.data.toList)) := by rw [List.getElem?_map, hxi, Option.map_some, e2]
  rw [← hx1.1, List.getElem?_map] at h1
  have h2 : ss.getD i [] = s.data.toList := by
    cases hs : ss[i]? with
    | none => rw [hs] at h1; cases h1
    | some u =>
      rw [hs] at h1
      simp only [Option.map_some, Option.some.injEq, DataW.lit.injEq, Lit.string.injEq] at h1
      rw [List.getD, hs]
      exact h1
  rw [World.var?_cell hg hvar i, h2]
  have e3 := congrArg (fun l => l[0]?) e1
  simp only [List.getElem?_take, List.getElem?_drop] at e3
  simp at e3
  simpa using e3
end Ck
end Go.Proofs.YticaipedpcmhfaaGreatDoor
/- Layer 8: what the row's laid data gives the walks. -/
namespace Go.Proofs.YticaipedpcmhfaaGreatDoor
open Go Go.ChangeShapes Go.WideShapes Go.ChangeAt Go.RowKit
namespace Ck

abbrev laidL : List (String × DataW Unit) := [("math/bits.deBruijn32tab", Rows.laid_math_bits_deBruijn32tab), ("math/bits.deBruijn64tab", Rows.laid_math_bits_deBruijn64tab), ("dapple/words.bounds", Rows.laid_dapple_words_bounds), ("internal/strconv.uint64pow10", Rows.laid_internal_strconv_uint64pow10), ("strconv.ErrRange", Rows.laid_strconv_ErrRange), ("strconv.ErrSyntax", Rows.laid_strconv_ErrSyntax), ("dapple/code.takes", Rows.laid_dapple_code_takes), ("dapple/code.called", Rows.laid_dapple_code_called), ("dapple/code.tags", Rows.laid_dapple_code_tags)]

def takesL : List Int := [0, 2, 1, 1, 2, 2, 1, 1, 2, 3, 2, 2, 1, 1, 1, 2, 2, 2, 2, 2, 2, 1, 1]
def tabB : List Int := [0, 0, 0, 0, 0, 0, 0, 0, 0, 0, -576460752303423488, 576460752303423487, 0, 2147483647, 1, 22, 0, 2147483647]

set_option maxRecDepth 20000 in
theorem bounds_of_reads {W : World} (h : Lib.VarReads Tryz.prog W "dapple/words.bounds" Rows.laid_dapple_words_bounds) : ∀ i j, i < 9 → j < 2 → W.cell? ⟨3, i * 2 + j, none⟩ = some (.int .i64 (tabB.getD (i * 2 + j) 0)) := by
  obtain ⟨g', t', cs, fuel, p, hg', ht', hvar, hd⟩ := h
  have gB : Tryz.prog.globalNamed "dapple/words.bounds" = some 3 := by kernel_rfl
  have tB : (Tryz.prog.globals[3]?).map (·.type) = some 212 := by kernel_rfl
  obtain rfl := Option.some.inj (gB.symm.trans hg')
  obtain rfl := Option.some.inj (tB.symm.trans ht')
  have u1 : Tryz.prog.underlying 212 = some (.array 9 211) := by kernel_rfl
  have u2 : Tryz.prog.underlying 211 = some (.array 2 2) := by kernel_rfl
  have u3 : Tryz.prog.underlying 2 = some (.int .i64) := by kernel_rfl
  obtain ⟨xs, m1, rfl, hx1, hlen, hn3, hel⟩ := DataW.trod_array u1 hd
  have c183 : Tryz.prog.cellsOf 211 = 2 := by kernel_rfl
  have c2 : Tryz.prog.cellsOf 2 = 1 := by kernel_rfl
  rw [c183] at hel
  intro i j hi hj
  have hI := hel i hi
  have hxi : xs[i]? = some xs[i] := List.getElem?_eq_getElem (by omega)
  rw [hxi] at hI
  obtain ⟨ys, m2, rfl, hy1, hlen2, hn2, hel2⟩ := DataW.trod_array u2 hI
  rw [c2] at hel2
  have hJ := hel2 j hj
  have hyj : ys[j]? = some ys[j] := List.getElem?_eq_getElem (by omega)
  rw [hyj] at hJ
  simp only [Prod.mk.injEq, Rows.laid_dapple_words_bounds, DataW.agg.injEq] at hx1
  have hval : ys[j].1 = .lit (.int .i64 (tabB.getD (i * 2 + j) 0)) := by
    have e1 : (xs.map (·.1))[i]? = some (DataW.agg (ys.map (·.1))) := by
      rw [List.getElem?_map, hxi, Option.map_some]; rw [hy1]
    rw [← hx1.1] at e1
    have e2 : (ys.map (·.1))[j]? = some ys[j].1 := by rw [List.getElem?_map, hyj]; rfl
    have hi' : i = 0 ∨ i = 1 ∨ i = 2 ∨ i = 3 ∨ i = 4 ∨ i = 5 ∨ i = 6 ∨ i = 7 ∨ i = 8 := by omega
    have hj' : j = 0 ∨ j = 1 := by omega
    rcases hi' with rfl | rfl | rfl | rfl | rfl | rfl | rfl | rfl | rfl <;> rcases hj' with rfl | rfl <;>
      (simp only [List.getElem?_cons_zero, List.getElem?_cons_succ, Option.some.injEq, DataW.agg.injEq] at e1
       rw [← e1] at e2
       simp only [List.getElem?_cons_zero, List.getElem?_cons_succ, Option.some.injEq] at e2
       rw [← e2]; rfl)
  obtain ⟨k, e1, e2, _⟩ := DataW.trod_int u3 hJ
  rw [e2] at hval
  have hk : k = tabB.getD (i * 2 + j) 0 := by simpa using hval
  subst hk
  have := World.var?_cell gB hvar (i * 2 + j)
  rw [this]
  have e3 := congrArg (fun l => l[0]?) e1
  simp only [List.getElem?_take, List.getElem?_drop] at e3
  simp at e3
  simpa [show i * 2 + j < i * 2 + 2 by omega, hj] using e3

theorem takes_tab {W : World} (h : Lib.VarReads Tryz.prog W "dapple/code.takes" Rows.laid_dapple_code_takes) : Lib.TabIs Tryz.prog W "dapple/code.takes" .i64 takesL :=
  tabIs_of_reads (g := 2) (t := 205) (e := 3) (n := 23) (by kernel_rfl) (by kernel_rfl) (by kernel_rfl) (by kernel_rfl) (by kernel_rfl) (by kernel_rfl) h
theorem pow_tab {W : World} (h : Lib.VarReads Tryz.prog W "internal/strconv.uint64pow10" Rows.laid_internal_strconv_uint64pow10) : Lib.TabIs Tryz.prog W "internal/strconv.uint64pow10" .u64 Lib.pow10Tab :=
  tabIs_of_reads (g := 5) (t := 226) (e := 73) (n := 20) (by kernel_rfl) (by kernel_rfl) (by kernel_rfl) (by kernel_rfl) (by kernel_rfl) (by kernel_rfl) h
theorem tags_cells {W : World} (h : Lib.VarReads Tryz.prog W "dapple/code.tags" Rows.laid_dapple_code_tags) (i : Nat) (hi : i < 8) : W.cell? ⟨0, i, none⟩ = some (.string (tagS i)) :=
  strs_of_reads (ss := Cd.tagL) (t := 154) (e := 9) (n := 8) (by kernel_rfl) (by kernel_rfl) (by kernel_rfl) (by kernel_rfl) (by kernel_rfl) h i hi
theorem called_cells {W : World} (h : Lib.VarReads Tryz.prog W "dapple/code.called" Rows.laid_dapple_code_called) (i : Nat) (hi : i < 19) : W.cell? ⟨1, i, none⟩ = some (.string (callS i)) :=
  strs_of_reads (ss := Cd.calledL) (t := 157) (e := 9) (n := 19) (by kernel_rfl) (by kernel_rfl) (by kernel_rfl) (by kernel_rfl) (by kernel_rfl) h i hi
theorem takes_is : ∀ a : Fin 23, takesL.getD a.val 0 = Cd.takes (a.val : Nat) := by decide
theorem least_is : ∀ a : Fin 9, tabB.getD (a.val * 2) 0 = Cd.least (a.val : Nat) := by decide
theorem most_is : ∀ a : Fin 9, tabB.getD (a.val * 2 + 1) 0 = Cd.most (a.val : Nat) := by decide
end Ck
end Go.Proofs.YticaipedpcmhfaaGreatDoor
/- Layer 8: the tables' state out of the row's laid data. -/
namespace Go.Proofs.YticaipedpcmhfaaGreatDoor
open Go Go.ChangeShapes Go.WideShapes Go.ChangeAt Go.RowKit
namespace Ck

theorem iface_cell {P : Program} {W : World} {name nm : String} {g : Nat} {ti : TypeId} {ms : Array (String × TypeId)} {d : DataW Unit}
    (hg : P.globalNamed name = some g) (hty : (P.globals[g]?).map (·.type) = some ti) (hi : P.underlying ti = some (.interface ms)) (h : Lib.VarReads P W name (.iface nm d)) : ∃ u v, W.cell? ⟨g, 0, none⟩ = some (.iface u v) := by
  obtain ⟨g', t', cs, fuel, p, hg', ht', hvar, hd⟩ := h
  obtain rfl := Option.some.inj (hg.symm.trans hg')
  obtain rfl := Option.some.inj (hty.symm.trans ht')
  obtain ⟨cs⟩ := cs
  obtain ⟨f1, u, v, e, _⟩ := iface_of_trod hi hd
  dsimp only at e
  subst e
  exact ⟨u, v, by rw [World.var?_cell hg hvar 0]; rfl⟩

theorem uErr : Tryz.prog.underlying 91 = some (.interface #[("Error", 98)]) := by kernel_rfl

theorem of_laid {W : World} (h : laidMetH Tryz.prog laidL W) (hm : ∃ m, W.cell? ⟨4, 0, none⟩ = some (.int .i64 m)) : Vars W := by
  rw [MakeChecks.laidMetH_plain _ _ _ (by kernel_rfl)] at h
  have hb := bounds_of_reads (Lib.laidMet.reads h (.tail _ (.tail _ (.head _))))
  have hp := pow_tab (Lib.laidMet.reads h (.tail _ (.tail _ (.tail _ (.head _)))))
  have hr := iface_cell (g := 9) (ti := 91) (by kernel_rfl) (by kernel_rfl) uErr (Lib.laidMet.reads h (.tail _ (.tail _ (.tail _ (.tail _ (.head _))))))
  have hs := iface_cell (g := 8) (ti := 91) (by kernel_rfl) (by kernel_rfl) uErr (Lib.laidMet.reads h (.tail _ (.tail _ (.tail _ (.tail _ (.tail _ (.head _)))))))
  have ht := takes_tab (Lib.laidMet.reads h (.tail _ (.tail _ (.tail _ (.tail _ (.tail _ (.tail _ (.head _))))))))
  have hc := called_cells (Lib.laidMet.reads h (.tail _ (.tail _ (.tail _ (.tail _ (.tail _ (.tail _ (.tail _ (.head _)))))))))
  have hg := tags_cells (Lib.laidMet.reads h (.tail _ (.tail _ (.tail _ (.tail _ (.tail _ (.tail _ (.tail _ (.tail _ (.head _))))))))))
  refine ⟨?_, fun t ht => ?_, fun t ht => ?_, hg, hc, fun a ha => ?_, hm, hs, hr, hp⟩
  · obtain ⟨u, v, e⟩ := hr
    have := World.block_lt_of_cell? W _ e
    exact this
  · have := hb t 0 (by omega) (by omega)
    rw [Nat.add_zero, least_is ⟨t, by omega⟩] at this
    exact this
  · have := hb t 1 (by omega) (by omega)
    rw [most_is ⟨t, by omega⟩] at this
    exact this
  · have := Lib.TabIs.cell ht (g := 2) (by kernel_rfl) a ha
    rw [takes_is ⟨a, ha⟩] at this
    exact this
end Ck
end Go.Proofs.YticaipedpcmhfaaGreatDoor
