/- Rows in memory behind the library's sort: own lemmas. -/
import Derived.Test.YtkfdoocmapjkbaaDoorHp
import Derived.Sort.Grow
namespace Go.Proofs.YtkfdoocmapjkbaaDoor
open Go.RowKit Go.Sort
namespace Hp

theorem Row.holds {w : World} {e : TypeId} {g off n cap : Nat} {α : Type} [Inhabited α] (enc : α → Value) {xs : List α} (h : Row w e 1 (.slice (some ⟨g, off, none⟩) n cap) n (xs.map enc)) (hn : xs.length = n) :
    Holds enc w g off xs.toArray := by
  intro j hj
  simp only [List.size_toArray] at hj
  obtain ⟨g', off', cap', he, _, _, hc, hf⟩ := h.at_ (by omega)
  injection he with h1 _ _
  injection h1 with h1
  injection h1 with h1 h2 _
  subst h1 h2
  refine ⟨?_, hf _⟩
  rw [hc j (by omega)]
  simp [hj]

theorem Row.putRow {w : World} {e : TypeId} {g off n cap : Nat} {α : Type} [Inhabited α] (enc : α → Value) {xs d : List α} (h : Row w e 1 (.slice (some ⟨g, off, none⟩) n cap) n (xs.map enc)) (hd : d.length = n) (k : Nat) (os : Array Obj) :
    Row (grow (Sort.putRow enc (Sort.ahead w k) g off d.toArray) os) e 1 (.slice (some ⟨g, off, none⟩) n cap) n (d.map enc) := by
  refine ⟨by simp [hd], ?_⟩
  rcases h.2 with ⟨h0, _⟩ | ⟨g', off', cap', cur, hv, hg, h1, h2, h3, h4⟩
  · cases h0
  · injection hv with hv1 _ hv2
    injection hv1 with hv1
    injection hv1 with hv1 hv3 _
    subst hv1 hv2 hv3
    refine .inr ⟨g, off, cap, putCells enc off d.toArray cur, rfl, ?_, h1, h2, by simpa [putCells] using h3, ?_⟩
    · rw [heap_grow_old _ _ (by simpa using (Array.getElem?_eq_some_iff.1 hg).1)]
      simp [Sort.putRow, mapBlock, Array.getElem?_modify, hg, onCells]
    · apply List.ext_getElem?
      intro i
      by_cases hi : i < n
      · rw [List.getElem?_take_of_lt (by omega), List.getElem?_drop]
        have hc : off + i < cur.size := by omega
        simp only [putCells, Array.getElem?_toList, Array.getElem?_mapIdx, List.getElem?_map]
        rw [Array.getElem?_eq_getElem hc]
        simp only [Option.map_some, List.size_toArray]
        rw [if_pos (by omega), show off + i - off = i from by omega]
        have hdi : i < d.length := by omega
        simp [hdi]
      · rw [List.getElem?_eq_none (by simp [putCells]; omega), List.getElem?_eq_none (by simp; omega)]

theorem same_putRow {w : World} {g off : Nat} {α : Type} [Inhabited α] (enc : α → Value) (d : Array α) (k : Nat) (os : Array Obj) : Same [g] w (grow (Sort.putRow enc (Sort.ahead w k) g off d) os) := by
  refine ⟨rfl, rfl, rfl, by simp, fun i hi hn => ?_⟩
  rw [heap_grow_old _ _ (by simpa using hi)]
  have : g ≠ i := fun e => hn (by simp [e])
  simp [Sort.putRow, mapBlock, Array.getElem?_modify, this]

end Hp
end Go.Proofs.YtkfdoocmapjkbaaDoor
