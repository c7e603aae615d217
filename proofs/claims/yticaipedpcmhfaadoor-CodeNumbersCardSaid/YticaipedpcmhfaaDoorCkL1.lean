/- Layer 8: what a row's laid data gives the walks: numbers, strings. -/
import Derived.Test.YticaipedpcmhfaaDoorRows
import Derived.Test.YticaipedpcmhfaaDoorCkV
import Derived.Lib.LaidU8
import Derived.Stop.LaidErr
import Derived.ProofKit
import Derived.LaidMore
import Derived.OpenShut
import Derived.Stop.Joined
namespace Go.Proofs.YticaipedpcmhfaaDoor
open Go Go.ChangeShapes Go.WideShapes Go.ChangeAt Go.RowKit
namespace Ck

theorem tabIs_of_reads {P : Program} {W : World} {name : String} {k : IntKind} {zs : List Int} {g : Nat} {t e : TypeId} {n : Nat}
    (hg : P.globalNamed name = some g) (hty : (P.globals[g]?).map (·.type) = some t) (ht : P.underlying t = some (.array n e)) (he : P.underlying e = some (.int k)) (hce : P.cellsOf e = 1) (hct : P.cellsOf t = n)
    (h : Lib.VarReads P W name (Lib.tabData k zs)) : Lib.TabIs P W name k zs := by
  obtain ⟨g', t', cs, fuel, p, hg', ht', hvar, hd⟩ := h
  obtain rfl := Option.some.inj (hg.symm.trans hg')
  obtain rfl := Option.some.inj (hty.symm.trans ht')
  unfold Lib.TabIs
  rw [hvar, ← Lib.cells_of_tab ht he hce hct hd]

/-- Strings, one a cell. -/
theorem strs_of_reads {P : Program} {W : World} {name : String} {ss : List (List UInt8)} {g : Nat} {t e : TypeId} {n : Nat}
    (hg : P.globalNamed name = some g) (hty : (P.globals[g]?).map (·.type) = some t) (ht : P.underlying t = some (.array n e)) (he : P.underlying e = some .string) (hce : P.cellsOf e = 1)
    (h : Lib.VarReads P W name (.agg (ss.map fun s => .lit (.string s)))) (i : Nat) (hi : i < n) : W.cell? ⟨g, i, none⟩ = some (.string ⟨(ss.getD i []).toArray⟩) := by
  obtain ⟨g', t', cs, fuel, p, hg', ht', hvar, hd⟩ := h
  obtain rfl := Option.some.inj (hg.symm.trans hg')
  obtain rfl := Option.some.inj (hty.symm.trans ht')
  obtain ⟨xs, m1, rfl, hx1, hlen, hn3, hel⟩ := DataW.trod_array ht hd
  rw [hce] at hel
  have hI := hel i hi
  have hxi : xs[i]? = some xs[i] := List.getElem?_eq_getElem (by omega)
  rw [hxi] at hI
  obtain ⟨s, e1, e2, _⟩ := DataW.trod_string he hI
  simp only [Prod.mk.injEq, DataW.agg.injEq] at hx1
  have h1 : (xs.map (·.1))[i]? = some (DataW.lit (.string s.data.toList)) := by rw [List.getElem?_map, hxi, Option.map_some, e2]
  rw [← hx1.1, List.getElem?_map] at h1
  have h2 : ss.getD i [] = s.data.toList := by
    cases hs : ss[i]? with
    | none => rw [hs] at h1; cases h1
    | some u =>
      rw [hs] at h1
      simp only [Option.map_some, Option.some.injEq, DataW.lit.injEq, Lit.string.injEq] at h1
      rw [List.getD, hs]
      exact h1
  rw [World.var?_cell hg hvar i, h2]
  have e3 := congrArg (fun l => l[0]?) e1
  simp only [List.getElem?_take, List.getElem?_drop] at e3
  simp at e3
  simpa using e3
end Ck
end Go.Proofs.YticaipedpcmhfaaDoor
