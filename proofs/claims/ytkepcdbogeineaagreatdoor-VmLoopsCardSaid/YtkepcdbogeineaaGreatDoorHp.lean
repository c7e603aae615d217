/- Rows of cells in memory (whole slices, at any offset), what a call may have changed ('Same'), and the laws of reading, storing, cutting and appending. No program is named: own lemmas, laid beside the walks. -/
import Derived.WalkKit
import Derived.ArgAppend
import Derived.Below
import Derived.Deep.LoopGhost
import Derived.Deep.OwnRows
import Derived.Deep.Draws
import Derived.Lib.Hide
namespace Go.Proofs.YtkepcdbogeineaaGreatDoor
open Go.RowKit

namespace Hp

/-- The blocks that a value names itself. -/
def blk : Value → List Nat
  | .slice (some a) _ _ => [a.block]
  | .pointer (some a) => [a.block]
  | _ => []

/-- Of what was there, only blocks in F may have changed. -/
structure Same (F : List Nat) (w w' : World) : Prop where
  os : w'.os = w.os
  tape : w'.tape = w.tape
  output : w'.output = w.output
  size : w.heap.size ≤ w'.heap.size
  block : ∀ k, k < w.heap.size → k ∉ F → w'.heap[k]? = w.heap[k]?

theorem Same.refl (F : List Nat) (w : World) : Same F w w := ⟨rfl, rfl, rfl, Nat.le_refl _, fun _ _ _ => rfl⟩

theorem Same.trans' {F F' : List Nat} {a b c : World} (h : Same F a b) (k : Same F' b c) (hF : ∀ x ∈ F', x ∈ F ∨ a.heap.size ≤ x) : Same F a c :=
  ⟨k.os.trans h.os, k.tape.trans h.tape, k.output.trans h.output, Nat.le_trans h.size k.size, fun i hi hn =>
    (k.block i (Nat.lt_of_lt_of_le hi h.size) (fun hm => by rcases hF i hm with h1 | h1; exact hn h1; omega)).trans (h.block i hi hn)⟩

theorem Same.trans {F : List Nat} {a b c : World} (h : Same F a b) (k : Same F b c) : Same F a c := h.trans' k (fun _ h => .inl h)

theorem Same.mono {F F' : List Nat} {a b : World} (h : Same F a b) (hF : ∀ x ∈ F, x ∈ F' ∨ a.heap.size ≤ x) : Same F' a b :=
  ⟨h.os, h.tape, h.output, h.size, fun i hi hn => h.block i hi (fun hm => by rcases hF i hm with h1 | h1; exact hn h1; omega)⟩

theorem Same.drew {F : List Nat} {a b : World} (h : Same F a b) : Same F a b.drew := ⟨h.os, h.tape, h.output, h.size, h.block⟩
theorem Same.drewN {F : List Nat} {a b : World} (h : Same F a b) (n : Nat) : Same F a (b.drewN n) := ⟨h.os, h.tape, h.output, h.size, h.block⟩

theorem Same.alloc {F : List Nat} {a b : World} (h : Same F a b) (o : Obj) : Same F a (b.alloc o) :=
  h.trans ⟨rfl, rfl, rfl, by simp, fun i hi _ => Below.heap_alloc _ _ _ hi⟩

theorem Same.setCell {F : List Nat} {a b : World} (h : Same F a b) {p : Addr} (hp : p.block ∈ F ∨ a.heap.size ≤ p.block) (v : Value) : Same F a (b.setCell p v) :=
  h.trans' (F' := [p.block]) ⟨rfl, rfl, rfl, by simp, fun i _ hn => Below.heap_setCell _ _ _ _ (by simpa using hn)⟩ (by simpa using hp)

theorem Same.of_grown {w w' : World} {row : Option Nat} (h : w.grownBy w' row) : Same row.toList w w' :=
  ⟨h.os, h.tape, h.output, h.size, fun i hi hn => h.block i hi (fun e => hn (by rw [← e]; simp))⟩

theorem Same.of_below {w w' : World} (h : Below w.heap.size w w') : Same [] w w' := ⟨h.os, h.tape, h.output, h.size, fun i hi _ => h.block i hi⟩

theorem Same.below {w w' : World} (h : Same [] w w') : Below w.heap.size w w' := ⟨h.os, h.tape, h.output, h.size, fun i hi => h.block i hi (by simp)⟩

theorem Same.belowF {F : List Nat} {w w' : World} {B : Nat} (h : Same F w w') (hB : B ≤ w.heap.size) (hF : ∀ x ∈ F, B ≤ x) : Below B w w' :=
  ⟨h.os, h.tape, h.output, h.size, fun i hi => h.block i (by omega) (fun hm => by have := hF i hm; omega)⟩

theorem Same.cell {F : List Nat} {w w' : World} (h : Same F w w') {b o : Nat} (hb : b < w.heap.size) (hn : b ∉ F) : w'.cell? ⟨b, o, none⟩ = w.cell? ⟨b, o, none⟩ :=
  World.cell?_of_block (w := w) (a := ⟨b, o, none⟩) (h.block b hb hn)

theorem Same.frozen {F : List Nat} {w w' : World} (h : Same F w w') {b o : Nat} (hb : b < w.heap.size) (hn : b ∉ F) : w'.frozen? ⟨b, o, none⟩ = w.frozen? ⟨b, o, none⟩ :=
  World.frozen?_of_block (w := w) (a := ⟨b, o, none⟩) (h.block b hb hn)

/-- The block is there, whole, with these cells; none of them is frozen. -/
def Blk (w : World) (b : Nat) (t : TypeId) (cs : List Value) : Prop := w.heap[b]? = some (.cells cs.toArray t (0, 0))

theorem Blk.lt {w : World} {b : Nat} {t : TypeId} {cs : List Value} (h : Blk w b t cs) : b < w.heap.size := (Array.getElem?_eq_some_iff.1 h).1
theorem Blk.cell {w : World} {b : Nat} {t : TypeId} {cs : List Value} (h : Blk w b t cs) (i : Nat) : w.cell? ⟨b, i, none⟩ = cs[i]? := by
  rw [cell_of_row w b i cs.toArray t (0, 0) h]; simp
theorem Blk.frozen {w : World} {b : Nat} {t : TypeId} {cs : List Value} (h : Blk w b t cs) (i : Nat) : w.frozen? ⟨b, i, none⟩ = false := by
  unfold Blk at h; simp [World.frozen?, h]
theorem Blk.frame {w w' : World} {b : Nat} {t : TypeId} {cs : List Value} {F : List Nat} (h : Blk w b t cs) (hs : Same F w w') (hn : b ∉ F) : Blk w' b t cs := (hs.block b h.lt hn).trans h
theorem Blk.set {w : World} {b : Nat} {t : TypeId} {cs : List Value} (h : Blk w b t cs) (i : Nat) (v : Value) : Blk (w.setCell ⟨b, i, none⟩ v) b t (cs.set i v) := by
  unfold Blk at *
  simp [World.setCell, Array.getElem?_modify, h]
theorem Blk.setOther {w : World} {b : Nat} {t : TypeId} {cs : List Value} (h : Blk w b t cs) {p : Addr} (hp : b ≠ p.block) (v : Value) : Blk (w.setCell p v) b t cs :=
  (Below.heap_setCell w p v b hp).trans h
theorem Blk.alloc {w : World} {b : Nat} {t : TypeId} {cs : List Value} (h : Blk w b t cs) (o : Obj) : Blk (w.alloc o) b t cs := (Below.heap_alloc w o b h.lt).trans h
theorem Blk.drew {w : World} {b : Nat} {t : TypeId} {cs : List Value} (h : Blk w b t cs) : Blk w.drew b t cs := h
theorem Blk.new (w : World) (t : TypeId) (cs : List Value) : Blk (w.alloc (.cells cs.toArray t)) w.heap.size t cs := by
  unfold Blk; exact heap_alloc_new w _
theorem Blk.ne {w : World} {b b' : Nat} {t t' : TypeId} {cs cs' : List Value} (h : Blk w b t cs) (h' : Blk w b' t' cs') (hne : t ≠ t') : b ≠ b' := by
  rintro rfl
  unfold Blk at *
  rw [h] at h'
  injection h' with h'
  injection h' with _ h' _
  exact hne h'

/-- The value is a slice of n elements of 'size' cells each; the elements' cells are xs; the array is whole and not frozen. -/
def Row (w : World) (e : TypeId) (size : Nat) (v : Value) (n : Nat) (xs : List Value) : Prop :=
  xs.length = n * size ∧ ((v = .slice none 0 0 ∧ n = 0) ∨
    ∃ g off cap cur, v = .slice (some ⟨g, off, none⟩) n cap ∧ w.heap[g]? = some (.cells cur e (0, 0)) ∧ n ≤ cap ∧ cap ≤ maxLen ∧ off + cap * size ≤ cur.size ∧ (cur.toList.drop off).take (n * size) = xs)

theorem Row.nil (w : World) (e : TypeId) (size : Nat) : Row w e size (.slice none 0 0) 0 [] := ⟨by simp, .inl ⟨rfl, rfl⟩⟩

theorem Row.of_own {w : World} {base : Nat} {e : TypeId} {size : Nat} {v : Value} {n : Nat} {xs : List Value} (h : w.ownsRow base e size v n xs) : Row w e size v n xs := by
  obtain ⟨h1, h2⟩ := h
  refine ⟨h1, ?_⟩
  rcases h2 with h2 | ⟨g, cap, cur, r1, _, r2, r3, r4, r5, r6⟩
  · exact .inl h2
  · exact .inr ⟨g, 0, cap, cur, r1, r2, r3, r4, by omega, by simpa using r6⟩

section
variable {w w' : World} {e : TypeId} {size : Nat} {v : Value} {n : Nat} {xs : List Value}

theorem Row.lt (h : Row w e size v n xs) : ∀ k ∈ blk v, k < w.heap.size := by
  intro k hk
  rcases h.2 with ⟨rfl, _⟩ | ⟨g, off, cap, cur, rfl, hg, _⟩
  · simp [blk] at hk
  · simp [blk] at hk; subst hk; exact (Array.getElem?_eq_some_iff.1 hg).1

theorem Row.frame {F : List Nat} (h : Row w e size v n xs) (hs : Same F w w') (hn : ∀ k ∈ blk v, k ∉ F) : Row w' e size v n xs := by
  refine ⟨h.1, ?_⟩
  rcases h.2 with h2 | ⟨g, off, cap, cur, rfl, hg, r⟩
  · exact .inl h2
  · exact .inr ⟨g, off, cap, cur, rfl, (hs.block g (Array.getElem?_eq_some_iff.1 hg).1 (hn g (by simp [blk]))).trans hg, r⟩

theorem Row.form (h : Row w e size v n xs) : ∃ A c, v = .slice A n c ∧ n ≤ c ∧ c ≤ maxLen ∧ (A = none → n = 0 ∧ c = 0) := by
  rcases h.2 with ⟨rfl, rfl⟩ | ⟨g, off, cap, cur, rfl, _, h1, h2, _⟩
  · exact ⟨none, 0, rfl, Nat.le_refl _, Nat.zero_le _, fun _ => ⟨rfl, rfl⟩⟩
  · exact ⟨_, cap, rfl, h1, h2, fun h => by cases h⟩

theorem Row.at_ (h : Row w e size v n xs) (hn : 0 < n) : ∃ g off cap, v = .slice (some ⟨g, off, none⟩) n cap ∧ n ≤ cap ∧ g < w.heap.size ∧
    (∀ j, j < n * size → w.cell? ⟨g, off + j, none⟩ = xs[j]?) ∧ (∀ j, w.frozen? ⟨g, j, none⟩ = false) := by
  rcases h.2 with ⟨_, rfl⟩ | ⟨g, off, cap, cur, rfl, hg, h1, h2, h3, h4⟩
  · omega
  · refine ⟨g, off, cap, rfl, h1, (Array.getElem?_eq_some_iff.1 hg).1, fun j hj => ?_, fun j => by simp [World.frozen?, hg]⟩
    rw [cell_of_row w g (off + j) cur e (0, 0) hg, ← h4, List.getElem?_take_of_lt hj, List.getElem?_drop]
    simp

theorem Row.set {g off cap : Nat} (h : Row w e size (.slice (some ⟨g, off, none⟩) n cap) n xs) (j : Nat) (hj : j < n * size) (u : Value) :
    Row (w.setCell ⟨g, off + j, none⟩ u) e size (.slice (some ⟨g, off, none⟩) n cap) n (xs.set j u) := by
  refine ⟨by simpa using h.1, .inr ?_⟩
  rcases h.2 with ⟨h0, _⟩ | ⟨g', off', cap', cur, hv, hg, h1, h2, h3, h4⟩
  · cases h0
  · injection hv with hv1 _ hv2
    injection hv1 with hv1
    injection hv1 with hv1 hv3 _
    subst hv1 hv2 hv3
    refine ⟨g, off, cap, cur.setIfInBounds (off + j) u, rfl, by simp [World.setCell, Array.getElem?_modify, hg], h1, h2, by simpa using h3, ?_⟩
    rw [← h4]
    apply List.ext_getElem?
    intro i
    by_cases hi : i < n * size
    · rw [List.getElem?_take_of_lt hi, List.getElem?_drop, List.getElem?_set]
      simp only [Array.toList_setIfInBounds, List.getElem?_set, Array.length_toList, List.length_take, List.length_drop]
      by_cases hij : j = i
      · subst hij
        have hc : off + j < cur.size := by have : n * size ≤ cap * size := Nat.mul_le_mul_right _ h1; omega
        simp [hc]; omega
      · rw [if_neg (by omega), if_neg hij, List.getElem?_take_of_lt hi, List.getElem?_drop]
    · rw [List.getElem?_eq_none (by simp; omega), List.getElem?_eq_none (by simp; omega)]

theorem Row.setOther (h : Row w e size v n xs) {p : Addr} (hp : p.block ∉ blk v) (u : Value) : Row (w.setCell p u) e size v n xs :=
  h.frame (F := [p.block]) ((Same.refl _ _).setCell (by simp) u) (fun k hk hm => by simp at hm; subst hm; exact hp hk)

theorem Row.alloc (h : Row w e size v n xs) (o : Obj) : Row (w.alloc o) e size v n xs := h.frame (F := []) ((Same.refl _ _).alloc o) (by simp)
theorem Row.drew (h : Row w e size v n xs) : Row w.drew e size v n xs := h
theorem Row.drewN (h : Row w e size v n xs) (k : Nat) : Row (w.drewN k) e size v n xs := h

theorem Row.full {g : Nat} {cs : List Value} {t : TypeId} (h : Blk w g t cs) (n size : Nat) (hn : cs.length = n * size) (hm : n ≤ maxLen) : Row w t size (.slice (some ⟨g, 0, none⟩) n n) n cs :=
  ⟨hn, .inr ⟨g, 0, n, cs.toArray, rfl, h, Nat.le_refl _, hm, by simp [hn], by simp [← hn]⟩⟩

/-- 'x[k:]', or 'x[k:len:c]': from element k on. -/
theorem Row.drop {g off cap : Nat} (h : Row w e size (.slice (some ⟨g, off, none⟩) n cap) n xs) (k c : Nat) (hk : k ≤ n) (hc : c ≤ cap - k) (hn : n - k ≤ c) :
    Row w e size (.slice (some ⟨g, off + k * size, none⟩) (n - k) c) (n - k) (xs.drop (k * size)) := by
  rcases h.2 with ⟨h0, _⟩ | ⟨g', off', cap', cur, hv, hg, h1, h2, h3, h4⟩
  · cases h0
  · injection hv with hv1 _ hv2
    injection hv1 with hv1
    injection hv1 with hv1 hv3 _
    subst hv1 hv2 hv3
    refine ⟨by rw [List.length_drop, h.1, Nat.sub_mul], .inr ⟨g, off + k * size, c, cur, rfl, hg, hn, by omega, ?_, ?_⟩⟩
    · have : (c + k) * size ≤ cap * size := Nat.mul_le_mul_right _ (by omega)
      rw [Nat.add_mul] at this
      omega
    · rw [← h4, List.drop_take, List.drop_drop, Nat.sub_mul]

/-- 'x[:k]', 'x[:k:c]'. -/
theorem Row.take {g off cap : Nat} (h : Row w e size (.slice (some ⟨g, off, none⟩) n cap) n xs) (k c : Nat) (hk : k ≤ n) (hc : c ≤ cap) (hn : k ≤ c) :
    Row w e size (.slice (some ⟨g, off, none⟩) k c) k (xs.take (k * size)) := by
  have hks : k * size ≤ n * size := Nat.mul_le_mul_right _ hk
  rcases h.2 with ⟨h0, _⟩ | ⟨g', off', cap', cur, hv, hg, h1, h2, h3, h4⟩
  · cases h0
  · injection hv with hv1 _ hv2
    injection hv1 with hv1
    injection hv1 with hv1 hv3 _
    subst hv1 hv2 hv3
    refine ⟨by rw [List.length_take, h.1]; omega, .inr ⟨g, off, c, cur, rfl, hg, hn, by omega, ?_, ?_⟩⟩
    · have : c * size ≤ cap * size := Nat.mul_le_mul_right _ hc
      omega
    · rw [← h4, List.take_take, Nat.min_eq_left hks]

/-- No element: whatever the address. -/
theorem Row.empty {g off cap : Nat} (h : Row w e size (.slice (some ⟨g, off, none⟩) n cap) n xs) (c : Nat) (hc : c ≤ cap) : Row w e size (.slice (some ⟨g, off, none⟩) 0 c) 0 [] := by
  have := h.take 0 c (Nat.zero_le _) hc (Nat.zero_le _)
  simpa using this
end

/-- Rows and blocks of different element types lie apart. -/
theorem Row.ne {w : World} {e e' s s' n n' : Nat} {v v' : Value} {xs xs' : List Value} (h : Row w e s v n xs) (h' : Row w e' s' v' n' xs') (hne : e ≠ e') : ∀ k ∈ blk v, k ∉ blk v' := by
  intro k hk hk'
  rcases h.2 with ⟨rfl, _⟩ | ⟨g, off, cap, cur, rfl, hg, _⟩
  · simp [blk] at hk
  · rcases h'.2 with ⟨rfl, _⟩ | ⟨g', off', cap', cur', rfl, hg', _⟩
    · simp [blk] at hk'
    · simp [blk] at hk hk'
      subst hk
      subst hk'
      rw [hg] at hg'
      injection hg' with hg'
      injection hg' with _ hg' _
      exact hne hg'

theorem Row.ne_blk {w : World} {e t s n b : Nat} {v : Value} {xs cs : List Value} (h : Row w e s v n xs) (h' : Blk w b t cs) (hne : e ≠ t) : ∀ k ∈ blk v, k ≠ b := by
  rintro k hk rfl
  rcases h.2 with ⟨rfl, _⟩ | ⟨g, off, cap, cur, rfl, hg, _⟩
  · simp [blk] at hk
  · simp [blk] at hk
    subst hk
    unfold Blk at h'
    rw [hg] at h'
    injection h' with h'
    injection h' with _ h' _
    exact hne h'

theorem setCells_row {g : Nat} {e : TypeId} : ∀ (vs : List Value) (o : Nat) (w : World) (cur : Array Value), w.heap[g]? = some (.cells cur e (0, 0)) → o + vs.length ≤ cur.size →
    ∃ cur', (w.setCells g o vs).heap[g]? = some (.cells cur' e (0, 0)) ∧ cur'.size = cur.size ∧ cur'.toList = cur.toList.take o ++ vs ++ cur.toList.drop (o + vs.length)
  | [], o, w, cur, h, _ => ⟨cur, h, rfl, by simp⟩
  | v :: vs, o, w, cur, h, hl => by
    simp only [List.length_cons] at hl
    obtain ⟨cur', h1, h2, h3⟩ := setCells_row (g := g) (e := e) vs (o + 1) (w.setCell ⟨g, o, none⟩ v) (cur.setIfInBounds o v) (by simp [World.setCell, Array.getElem?_modify, h]) (by simp; omega)
    refine ⟨cur', h1, by simpa using h2, ?_⟩
    rw [h3]
    have ho : o < cur.toList.length := by simp; omega
    have ht : (cur.toList.set o v).take (o + 1) = cur.toList.take o ++ [v] := by
      rw [List.take_succ_eq_append_getElem (by simpa using ho)]
      simp [List.take_set_of_le]
    have hd : (cur.toList.set o v).drop (o + 1 + vs.length) = cur.toList.drop (o + (vs.length + 1)) := by
      rw [List.drop_set_of_lt (by omega)]
      congr 1; omega
    simp only [Array.toList_setIfInBounds, List.length_cons]
    rw [ht, hd]
    simp

theorem setCells_same (g : Nat) : ∀ (vs : List Value) (o : Nat) (w : World), Same [g] w (w.setCells g o vs)
  | [], _, w => Same.refl _ w
  | v :: vs, o, w => ((Same.refl [g] w).setCell (by simp) v).trans (setCells_same g vs (o + 1) _)

/-- 'append', whatever the slice: what comes is a row with the new cells behind; what was there before, but for the slice's own block, is as it was. -/
theorem wpList_append_row {P : Program} (w : World) {ops : Array Oper} {rest : List Oper} {o : Oper} {a : Act} {Q : Exit → Act → World → Prop}
    (hg : o.guard = none) (s x : Operand) (t : TypeId) (hop : o.op = Op.call { callee := Callee.builtin Builtin.append, args := #[s, x], argTypes := #[t, t] })
    (e : TypeId) (z : Value) (size bytes : Nat) (ht : P.underlying t = some (.slice e)) (hinfo : (P.info? e).map (fun i => (i.zero, i.size, i.bytes)) = some (some z, size, bytes)) (h6 : z.cells.size = size) (h7 : 0 < size)
    (v : Value) (n : Nat) (xs : List Value) (hs : a.eval s = v) (hrow : Row w e size v n xs)
    (ad : Addr) (m c : Nat) (news : List Value) (hx : a.eval x = .slice (some ad) m c) (hn : news.length = m * size) (hc : ∀ j u, news[j]? = some u → w.cell? (ad.add j) = some u) (h1c : ∀ u ∈ news, u.oneCell' = true)
    (b1 : n + m ≤ maxLen) (b2 : (n + m) * bytes ≤ 140737488355328)
    (h : ∀ v' w', Row w' e size v' (n + m) (xs ++ news) → Same (blk v) w w' → (∀ k ∈ blk v', k ∈ blk v ∨ w.heap.size ≤ k) → wpList P ops Q rest (a.put o.dst v') w') :
    wpList P ops Q (o :: rest) a w := by
  obtain ⟨i, hi, h3, h4, h5⟩ := info_parts hinfo
  have own_blk : ∀ (v' : Value) (w' : World), w'.ownsRow w.heap.size e size v' (n + m) (xs ++ news) → ∀ k ∈ blk v', w.heap.size ≤ k := by
    intro v' w' ho k hk
    rcases ho.2 with ⟨rfl, _⟩ | ⟨g, cap, cur, rfl, hb, _⟩
    · simp [blk] at hk
    · simp [blk] at hk; omega
  rcases hrow.2 with ⟨rfl, rfl⟩ | ⟨g, off, cap, cur, rfl, hgb, r1, r2, r3, r4⟩
  · have hxs : xs = [] := List.eq_nil_of_length_eq_zero (by simpa using hrow.1)
    subst hxs
    by_cases hm : m = 0
    · subst hm
      have hnews : news = [] := List.eq_nil_of_length_eq_zero (by simpa using hn)
      subst hnews
      refine wpList_plain hg fun K hK' => ?_
      obtain ⟨v', w', hrun, q1, q2, q3⟩ := run_append_own (P := P) w w.heap.size t o.type e i z size bytes ht hi h3 h4 h5 h6 h7 (.slice none 0 0) 0 [] (World.ownsRow_nil w _ e size) ad 0 c [] (by simp) hc h1c (by simp) (by simp) (Nat.le_refl _)
      unfold Oper.wp
      simp [execOp, hop, resolve, invoke, builtin, hs, hx, hrun, Result.andThen]
      exact hK' _ _ (h v' w' (Row.of_own q1) ((Same.of_grown q2).mono (by simp [Value.ownBlock])) (fun k hk => .inr (own_blk v' w' q1 k hk)))
    · exact wpList_append_grows w hg s x t hop e i z size bytes ht hi h3 h4 h5 h6 h7 none 0 0 [] hs (fun _ => ⟨rfl, rfl⟩) (by simp) (fun b hb => by cases hb) ad m c news hx hn hc h1c (by omega) b1 b2
        (fun v' w' q1 q2 => h v' w' (Row.of_own q1) (Same.of_grown q2) (fun k hk => .inr (own_blk v' w' q1 k hk)))
  · have hns : n * size ≤ cap * size := Nat.mul_le_mul_right _ r1
    refine wpList_append_arg w hg s x t hop e i z size bytes ht hi h3 h4 h5 h6 h7 g off n cap xs hs hrow.1 ?_ ad m c news hx hn hc h1c ?_ b1 b2 ?_ ?_
    · intro j u hj
      have hjl : j < n * size := by have := (List.getElem?_eq_some_iff.1 hj).1; rw [hrow.1] at this; exact this
      rw [cell_of_row w g (off + j) cur e (0, 0) hgb, ← hj, ← r4, List.getElem?_take_of_lt hjl, List.getElem?_drop]
      simp
    · intro hroom j hj
      have hrs : (n + m) * size ≤ cap * size := Nat.mul_le_mul_right _ hroom
      rw [Nat.add_mul] at hrs
      refine ⟨?_, by simp [World.frozen?, hgb]⟩
      rw [cell_of_row w g _ cur e (0, 0) hgb]
      simp
      omega
    · intro hroom
      have hrs : (n + m) * size ≤ cap * size := Nat.mul_le_mul_right _ hroom
      rw [Nat.add_mul] at hrs
      obtain ⟨cur', q1, q2, q3⟩ := setCells_row news (off + n * size) w cur hgb (by omega)
      refine h _ _ ⟨by rw [List.length_append, hrow.1, hn, Nat.add_mul], .inr ⟨g, off, cap, cur', rfl, q1, hroom, r2, by omega, ?_⟩⟩ (by simpa [blk] using setCells_same g news (off + n * size) w) (fun k hk => .inl (by simpa [blk] using hk))
      rw [q3, Nat.add_mul, ← hn, ← r4, List.drop_append_of_le_length (by simp; omega), List.drop_append_of_le_length (by simp; omega), List.drop_take]
      rw [show off + n * size - off = n * size from by omega]
      rw [List.take_append_of_le_length (by simp; omega)]
      rw [List.take_of_length_le (by simp; omega)]
    · intro hgrow v' w' q1 q2
      exact h v' w' (Row.of_own q1) ((Same.of_grown q2).mono (by simp)) (fun k hk => .inr (own_blk v' w' q1 k hk))

theorem Blk.of_own {w : World} {base e size g n : Nat} {xs : List Value} (h : w.ownsRow base e size (.slice (some ⟨g, 0, none⟩) n n) n xs) : Blk w g e xs := by
  obtain ⟨h1, h2⟩ := h
  rcases h2 with ⟨h2, _⟩ | ⟨g', cap, cur, r1, _, r2, r3, r4, r5, r6⟩
  · cases h2
  · injection r1 with e1 _ e2
    injection e1 with e1
    injection e1 with e1 _ _
    subst e1 e2
    unfold Blk
    rw [r2, ← r6, List.take_of_length_le (by simp [r5])]

/-- 'make([]T, n)': a new block with n zero elements. -/
theorem wpList_make_blk {P : Program} (w : World) {ops : Array Oper} {rest : List Oper} {o : Oper} {a : Act} {Q : Exit → Act → World → Prop}
    (hg : o.guard = none) (l c : Operand) (t : TypeId) (hop : o.op = Op.makeSlice t l c)
    (e : TypeId) (z : Value) (size bytes : Nat) (h1 : P.underlying t = some (.slice e)) (hinfo : (P.info? e).map (fun i => (i.zero, i.size, i.bytes)) = some (some z, size, bytes))
    (n : Nat) (hl : a.eval l = .int .i64 n) (hc : a.eval c = .int .i64 n) (b2 : bytes * n ≤ 281474976710656) (b3 : n ≤ maxLen)
    (hK : ∀ w', Blk w' w.heap.size e (madeCells z.cells (n * size)).toList → Same [] w w' → wpList P ops Q rest (a.put o.dst (.slice (some ⟨w.heap.size, 0, none⟩) n n)) w') :
    wpList P ops Q (o :: rest) a w := by
  obtain ⟨i, hi, h3, h4, h5⟩ := info_parts hinfo
  refine wpList_make_full w hg l c t hop w.heap.size e i z size h1 hi h3 h4 .i64 .i64 n n n hl hc rfl rfl (by rw [h5]; exact b2) b3 (Nat.le_refl _) ?_
  intro w' hown hgr
  exact hK w' (Blk.of_own hown) ((Same.of_grown hgr).mono (by simp))

/-- A list of things, each laid as 'size' cells. -/
theorem flat_get {α : Type} (enc : α → List Value) (size : Nat) (hs : ∀ x, (enc x).length = size) : ∀ (l : List α) (i j : Nat) (hi : i < l.length) (_hj : j < size), (l.flatMap enc)[i * size + j]? = (enc l[i])[j]?
  | x :: l, 0, j, _, hj => by
    simp only [List.flatMap_cons, Nat.zero_mul, Nat.zero_add, List.getElem_cons_zero]
    rw [List.getElem?_append_left (by rw [hs]; exact hj)]
  | x :: l, i + 1, j, hi, hj => by
    have ih := flat_get enc size hs l i j (by simpa using hi) hj
    simp only [List.flatMap_cons, List.getElem_cons_succ]
    rw [List.getElem?_append_right (by rw [hs, Nat.add_mul]; omega), hs, ← ih]
    congr 1
    rw [Nat.add_mul]; omega

theorem flat_length {α : Type} (enc : α → List Value) (size : Nat) (hs : ∀ x, (enc x).length = size) : ∀ (l : List α), (l.flatMap enc).length = l.length * size
  | [] => by simp
  | x :: l => by simp only [List.flatMap_cons, List.length_append, hs, flat_length enc size hs l, List.length_cons, Nat.add_mul]; omega

theorem flat_set {α : Type} (enc : α → List Value) (size : Nat) (hs : ∀ x, (enc x).length = size) (y : α) (j : Nat) (v : Value) (hj : j < size) :
    ∀ (l : List α) (i : Nat) (hi : i < l.length), (enc l[i]).set j v = enc y → (l.flatMap enc).set (i * size + j) v = (l.set i y).flatMap enc
  | x :: l, 0, _, hy => by
    simp only [List.flatMap_cons, Nat.zero_mul, Nat.zero_add, List.set_cons_zero, List.getElem_cons_zero] at *
    rw [List.set_append_left _ _ (by rw [hs]; exact hj), hy]
  | x :: l, i + 1, hi, hy => by
    have ih := flat_set enc size hs y j v hj l i (by simpa using hi) (by simpa using hy)
    simp only [List.flatMap_cons, List.set_cons_succ]
    rw [List.set_append_right _ _ (by rw [hs, Nat.add_mul]; omega), hs, ← ih]
    congr 2
    rw [Nat.add_mul]; omega

theorem flat_take {α : Type} (enc : α → List Value) (size : Nat) (hs : ∀ x, (enc x).length = size) : ∀ (l : List α) (k : Nat), (l.flatMap enc).take (k * size) = (l.take k).flatMap enc
  | [], k => by simp
  | x :: l, 0 => by simp
  | x :: l, k + 1 => by
    rw [List.flatMap_cons, List.take_succ_cons, List.flatMap_cons, ← flat_take enc size hs l k, List.take_append, hs, List.take_of_length_le (by rw [hs, Nat.add_mul]; omega)]
    congr 2; rw [Nat.add_mul]; omega

theorem flat_drop {α : Type} (enc : α → List Value) (size : Nat) (hs : ∀ x, (enc x).length = size) : ∀ (l : List α) (k : Nat), (l.flatMap enc).drop (k * size) = (l.drop k).flatMap enc
  | [], k => by simp
  | x :: l, 0 => by simp
  | x :: l, k + 1 => by
    rw [List.flatMap_cons, List.drop_succ_cons, ← flat_drop enc size hs l k, List.drop_append, hs, List.drop_of_length_le (by rw [hs, Nat.add_mul]; omega), List.nil_append]
    congr 1; rw [Nat.add_mul]; omega

end Hp
end Go.Proofs.YtkepcdbogeineaaGreatDoor
