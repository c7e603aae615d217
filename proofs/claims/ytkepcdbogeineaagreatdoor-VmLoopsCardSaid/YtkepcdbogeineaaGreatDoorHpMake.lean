/- What 'make' of things of several cells lays: own lemmas. -/
import Derived.Test.YtkepcdbogeineaaGreatDoorHp
namespace Go.Proofs.YtkepcdbogeineaaGreatDoor
open Go.RowKit
namespace Hp

theorem madeCells_flat (z : List Value) (n : Nat) (hz : 0 < z.length) : (madeCells z.toArray (n * z.length)).toList = (List.replicate n z).flatMap id := by
  apply List.ext_getElem?
  intro i
  have hlen : ((List.replicate n z).flatMap id).length = n * z.length := by
    induction n with
    | zero => simp
    | succ n ih => simp only [List.replicate_succ, List.flatMap_cons, List.length_append, ih, id, Nat.add_mul]; omega
  by_cases hi : i < n * z.length
  · have hq : i / z.length < n := by rw [Nat.div_lt_iff_lt_mul hz]; exact hi
    have hr : i % z.length < z.length := Nat.mod_lt _ hz
    have e : i = (i / z.length) * z.length + i % z.length := by rw [Nat.mul_comm]; exact (Nat.div_add_mod i z.length).symm
    have key : ∀ (n k j : Nat), k < n → j < z.length → ((List.replicate n z).flatMap id)[k * z.length + j]? = z[j]? := by
      intro n
      induction n with
      | zero => intro k j h; omega
      | succ n ih =>
        intro k j hk hj
        simp only [List.replicate_succ, List.flatMap_cons, id]
        cases k with
        | zero => rw [List.getElem?_append_left (by omega)]; congr 1; omega
        | succ k =>
          rw [List.getElem?_append_right (by rw [Nat.add_mul]; omega)]
          have := ih k j (by omega) hj
          rw [← this]; congr 1; rw [Nat.add_mul]; omega
    rw [e, key n _ _ hq hr, ← e]
    simp only [madeCells, Array.toList_map, Array.toList_range, List.getElem?_map]
    rw [List.getElem?_range hi]
    simp [hr]
  · rw [List.getElem?_eq_none (by simp [madeCells]; omega), List.getElem?_eq_none (by omega)]

end Hp
end Go.Proofs.YtkepcdbogeineaaGreatDoor
