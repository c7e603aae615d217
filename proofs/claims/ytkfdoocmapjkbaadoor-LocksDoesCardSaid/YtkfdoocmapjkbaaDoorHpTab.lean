/- A table: a block whose cells are told by a function. -/
import Derived.Test.YtkfdoocmapjkbaaDoorHp
namespace Go.Proofs.YtkfdoocmapjkbaaDoor
open Go.RowKit
namespace Hp
/-- Block b (elements of type t) has n cells, told by f. -/
def Tab (w : World) (b : Nat) (t : TypeId) (n : Nat) (f : Nat → Value) : Prop := Blk w b t ((List.range n).map f)

variable {w w' : World} {b n : Nat} {t : TypeId} {f f' : Nat → Value}
theorem Tab.lt (h : Tab w b t n f) : b < w.heap.size := Blk.lt h
theorem Tab.cell (h : Tab w b t n f) (i : Nat) (hi : i < n) : w.cell? ⟨b, i, none⟩ = some (f i) := by
  rw [Blk.cell h i, List.getElem?_map, List.getElem?_range hi]; rfl
theorem Tab.froz (h : Tab w b t n f) (i : Nat) : w.frozen? ⟨b, i, none⟩ = false := Blk.frozen h i
theorem Tab.frame {F : List Nat} (h : Tab w b t n f) (hs : Same F w w') (hn : b ∉ F) : Tab w' b t n f := Blk.frame h hs hn
theorem Tab.congr (h : Tab w b t n f) (he : ∀ i, i < n → f' i = f i) : Tab w b t n f' := by
  unfold Tab at *
  rw [List.map_congr_left (g := f) (fun i hi => he i (List.mem_range.1 hi))]; exact h
theorem Tab.set (h : Tab w b t n f) (i : Nat) (v : Value) : Tab (w.setCell ⟨b, i, none⟩ v) b t n (fun j => if j = i then v else f j) := by
  have := Blk.set h i v
  unfold Tab
  have e : ((List.range n).map f).set i v = (List.range n).map (fun j => if j = i then v else f j) := by
    apply List.ext_getElem?
    intro j
    by_cases hj : j < n
    · rw [List.getElem?_map, List.getElem?_range hj]
      by_cases c : j = i
      · subst c; simp [hj]
      · rw [List.getElem?_set_ne (fun h => c h.symm), List.getElem?_map, List.getElem?_range hj]; simp [c]
    · rw [List.getElem?_eq_none (by simp; omega), List.getElem?_eq_none (by simp; omega)]
  rw [← e]; exact this
theorem Tab.setOther (h : Tab w b t n f) {p : Addr} (hp : b ≠ p.block) (v : Value) : Tab (w.setCell p v) b t n f := Blk.setOther h hp v
theorem Tab.alloc (h : Tab w b t n f) (o : Obj) : Tab (w.alloc o) b t n f := Blk.alloc h o
theorem Tab.of_blk {cs : List Value} (h : Blk w b t cs) (hn : cs.length = n) (he : ∀ i, i < n → cs[i]? = some (f i)) : Tab w b t n f := by
  unfold Tab
  have : (List.range n).map f = cs := by
    apply List.ext_getElem?
    intro i
    by_cases hi : i < n
    · rw [List.getElem?_map, List.getElem?_range hi, he i hi]; rfl
    · rw [List.getElem?_eq_none (by simp; omega), List.getElem?_eq_none (by omega)]
  rw [this]; exact h
theorem Tab.of_fill {v : Value} (h : Blk w b t (List.replicate n v)) : Tab w b t n (fun _ => v) :=
  Tab.of_blk h (by simp) (fun i hi => by simp [hi])
end Hp
end Go.Proofs.YtkfdoocmapjkbaaDoor
