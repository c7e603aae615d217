/- append, in its own place or in a new one. -/
import Derived.Test.YtkepcdbogeineaaGreatDoorHp
namespace Go.Proofs.YtkepcdbogeineaaGreatDoor
open Go.RowKit
namespace Hp
variable {w w' : World} {e : TypeId} {size n : Nat} {v : Value} {xs : List Value}

/-- A row's beginning, at the same place with the same room. -/
theorem Row.pre {A : Option Addr} {n k C : Nat} (h : Row w e size (.slice A n C) n xs) (hk : k ≤ n) : Row w e size (.slice A k C) k (xs.take (k * size)) := by
  obtain ⟨h1, h2⟩ := h
  have hm : k * size ≤ n * size := Nat.mul_le_mul_right _ hk
  refine ⟨by rw [List.length_take]; omega, ?_⟩
  rcases h2 with ⟨h2, h3⟩ | ⟨g, off, cap, cur, h2, h3, h4, h5, h6, h7⟩
  · injection h2 with a b c
    subst a c
    exact .inl ⟨by rw [show k = 0 from by omega], by omega⟩
  · injection h2 with a b c
    subst a c
    refine .inr ⟨g, off, C, cur, rfl, h3, by omega, h5, h6, ?_⟩
    rw [← h7, List.take_take, Nat.min_eq_left hm]

/-- 'append', whatever the slice: in its own place, or in a new one. -/
theorem wpList_append_two {P : Program} (w : World) {ops : Array Oper} {rest : List Oper} {o : Oper} {a : Act} {Q : Exit → Act → World → Prop}
    (hg : o.guard = none) (s x : Operand) (t : TypeId) (hop : o.op = Op.call { callee := Callee.builtin Builtin.append, args := #[s, x], argTypes := #[t, t] })
    (e : TypeId) (z : Value) (size bytes : Nat) (ht : P.underlying t = some (.slice e)) (hinfo : (P.info? e).map (fun i => (i.zero, i.size, i.bytes)) = some (some z, size, bytes)) (h6 : z.cells.size = size) (h7 : 0 < size)
    (v : Value) (n : Nat) (xs : List Value) (hs : a.eval s = v) (hrow : Row w e size v n xs)
    (ad : Addr) (m c : Nat) (news : List Value) (hx : a.eval x = .slice (some ad) m c) (hn : news.length = m * size) (hc : ∀ j u, news[j]? = some u → w.cell? (ad.add j) = some u) (h1c : ∀ u ∈ news, u.oneCell' = true)
    (b1 : n + m ≤ maxLen) (b2 : (n + m) * bytes ≤ 140737488355328)
    (h : ∀ v' w', Row w' e size v' (n + m) (xs ++ news) → ((∃ A C, v = .slice A n C ∧ v' = .slice A (n + m) C) ∧ Same (blk v) w w' ∨ Same [] w w' ∧ ∀ k ∈ blk v', w.heap.size ≤ k) → wpList P ops Q rest (a.put o.dst v') w') :
    wpList P ops Q (o :: rest) a w := by
  obtain ⟨i, hi, h3, h4, h5⟩ := info_parts hinfo
  have own_blk : ∀ (v' : Value) (w' : World), w'.ownsRow w.heap.size e size v' (n + m) (xs ++ news) → ∀ k ∈ blk v', w.heap.size ≤ k := by
    intro v' w' ho k hk
    rcases ho.2 with ⟨rfl, _⟩ | ⟨g, cap, cur, rfl, hb, _⟩
    · simp [blk] at hk
    · simp [blk] at hk; omega
  rcases hrow.2 with ⟨rfl, rfl⟩ | ⟨g, off, cap, cur, rfl, hgb, r1, r2, r3, r4⟩
  · have hxs : xs = [] := List.eq_nil_of_length_eq_zero (by simpa using hrow.1)
    subst hxs
    by_cases hm : m = 0
    · subst hm
      have hnews : news = [] := List.eq_nil_of_length_eq_zero (by simpa using hn)
      subst hnews
      refine wpList_plain hg fun K hK' => ?_
      obtain ⟨v', w', hrun, q1, q2, q3⟩ := run_append_own (P := P) w w.heap.size t o.type e i z size bytes ht hi h3 h4 h5 h6 h7 (.slice none 0 0) 0 [] (World.ownsRow_nil w _ e size) ad 0 c [] (by simp) hc h1c (by simp) (by simp) (Nat.le_refl _)
      unfold Oper.wp
      simp [execOp, hop, resolve, invoke, builtin, hs, hx, hrun, Result.andThen]
      exact hK' _ _ (h v' w' (Row.of_own q1) (.inr ⟨(Same.of_grown q2).mono (by simp [Value.ownBlock]), fun k hk => own_blk v' w' q1 k hk⟩))
    · exact wpList_append_grows w hg s x t hop e i z size bytes ht hi h3 h4 h5 h6 h7 none 0 0 [] hs (fun _ => ⟨rfl, rfl⟩) (by simp) (fun b hb => by cases hb) ad m c news hx hn hc h1c (by omega) b1 b2
        (fun v' w' q1 q2 => h v' w' (Row.of_own q1) (.inr ⟨(Same.of_grown q2).mono (by simp), fun k hk => own_blk v' w' q1 k hk⟩))
  · have hns : n * size ≤ cap * size := Nat.mul_le_mul_right _ r1
    refine wpList_append_arg w hg s x t hop e i z size bytes ht hi h3 h4 h5 h6 h7 g off n cap xs hs hrow.1 ?_ ad m c news hx hn hc h1c ?_ b1 b2 ?_ ?_
    · intro j u hj
      have hjl : j < n * size := by have := (List.getElem?_eq_some_iff.1 hj).1; rw [hrow.1] at this; exact this
      rw [cell_of_row w g (off + j) cur e (0, 0) hgb, ← hj, ← r4, List.getElem?_take_of_lt hjl, List.getElem?_drop]
      simp
    · intro hroom j hj
      have hrs : (n + m) * size ≤ cap * size := Nat.mul_le_mul_right _ hroom
      rw [Nat.add_mul] at hrs
      refine ⟨?_, by simp [World.frozen?, hgb]⟩
      rw [cell_of_row w g _ cur e (0, 0) hgb]
      simp
      omega
    · intro hroom
      have hrs : (n + m) * size ≤ cap * size := Nat.mul_le_mul_right _ hroom
      rw [Nat.add_mul] at hrs
      obtain ⟨cur', q1, q2, q3⟩ := setCells_row news (off + n * size) w cur hgb (by omega)
      refine h _ _ ⟨by rw [List.length_append, hrow.1, hn, Nat.add_mul], .inr ⟨g, off, cap, cur', rfl, q1, hroom, r2, by omega, ?_⟩⟩ (.inl ⟨⟨_, _, rfl, rfl⟩, by simpa [blk] using setCells_same g news (off + n * size) w⟩)
      rw [q3, Nat.add_mul, ← hn, ← r4, List.drop_append_of_le_length (by simp; omega), List.drop_append_of_le_length (by simp; omega), List.drop_take]
      rw [show off + n * size - off = n * size from by omega]
      rw [List.take_append_of_le_length (by simp; omega)]
      rw [List.take_of_length_le (by simp; omega)]
    · intro hgrow v' w' q1 q2
      exact h v' w' (Row.of_own q1) (.inr ⟨(Same.of_grown q2).mono (by simp), fun k hk => own_blk v' w' q1 k hk⟩)

end Hp
end Go.Proofs.YtkepcdbogeineaaGreatDoor
