/- Layer 8: the tables' state out of the row's laid data. -/
import Derived.Test.YticaipedpcmhfaaDoorCkL2
import Derived.LaidLaws
namespace Go.Proofs.YticaipedpcmhfaaDoor
open Go Go.ChangeShapes Go.WideShapes Go.ChangeAt Go.RowKit
namespace Ck

theorem iface_cell {P : Program} {W : World} {name nm : String} {g : Nat} {ti : TypeId} {ms : Array (String × TypeId)} {d : DataW Unit}
    (hg : P.globalNamed name = some g) (hty : (P.globals[g]?).map (·.type) = some ti) (hi : P.underlying ti = some (.interface ms)) (h : Lib.VarReads P W name (.iface nm d)) : ∃ u v, W.cell? ⟨g, 0, none⟩ = some (.iface u v) := by
  obtain ⟨g', t', cs, fuel, p, hg', ht', hvar, hd⟩ := h
  obtain rfl := Option.some.inj (hg.symm.trans hg')
  obtain rfl := Option.some.inj (hty.symm.trans ht')
  obtain ⟨cs⟩ := cs
  obtain ⟨f1, u, v, e, _⟩ := iface_of_trod hi hd
  dsimp only at e
  subst e
  exact ⟨u, v, by rw [World.var?_cell hg hvar 0]; rfl⟩

theorem uErr : Tryd.prog.underlying 71 = some (.interface #[("Error", 79)]) := by kernel_rfl

theorem of_laid {W : World} (h : laidMetH Tryd.prog laidL W) (hm : ∃ m, W.cell? ⟨4, 0, none⟩ = some (.int .i64 m)) : Vars W := by
  rw [MakeChecks.laidMetH_plain _ _ _ (by kernel_rfl)] at h
  have hb := bounds_of_reads (Lib.laidMet.reads h (.tail _ (.tail _ (.head _))))
  have hp := pow_tab (Lib.laidMet.reads h (.tail _ (.tail _ (.tail _ (.head _)))))
  have hr := iface_cell (g := 9) (ti := 71) (by kernel_rfl) (by kernel_rfl) uErr (Lib.laidMet.reads h (.tail _ (.tail _ (.tail _ (.tail _ (.head _))))))
  have hs := iface_cell (g := 8) (ti := 71) (by kernel_rfl) (by kernel_rfl) uErr (Lib.laidMet.reads h (.tail _ (.tail _ (.tail _ (.tail _ (.tail _ (.head _)))))))
  have ht := takes_tab (Lib.laidMet.reads h (.tail _ (.tail _ (.tail _ (.tail _ (.tail _ (.tail _ (.head _))))))))
  have hc := called_cells (Lib.laidMet.reads h (.tail _ (.tail _ (.tail _ (.tail _ (.tail _ (.tail _ (.tail _ (.head _)))))))))
  have hg := tags_cells (Lib.laidMet.reads h (.tail _ (.tail _ (.tail _ (.tail _ (.tail _ (.tail _ (.tail _ (.tail _ (.head _))))))))))
  refine ⟨?_, fun t ht => ?_, fun t ht => ?_, hg, hc, fun a ha => ?_, hm, hs, hr, hp⟩
  · obtain ⟨u, v, e⟩ := hr
    have := World.block_lt_of_cell? W _ e
    exact this
  · have := hb t 0 (by omega) (by omega)
    rw [Nat.add_zero, least_is ⟨t, by omega⟩] at this
    exact this
  · have := hb t 1 (by omega) (by omega)
    rw [most_is ⟨t, by omega⟩] at this
    exact this
  · have := Lib.TabIs.cell ht (g := 3) (by kernel_rfl) a ha
    rw [takes_is ⟨a, ha⟩] at this
    exact this
end Ck
end Go.Proofs.YticaipedpcmhfaaDoor
