/- A slice that comes in, opened: its elements' cells by index, each element's own reading. -/
import Derived.Deep.Slices
import Derived.Deep.Fields
import Derived.ChangeSame
import Derived.RowKit
import Derived.ChangeArms
import Derived.SizedLaws
namespace Go.Proofs.YticaipedpcmhfaaGreatDoor
open Go Go.ChangeShapes Go.WideShapes
namespace Hp
section
variable {H : Type} {enc : TypeId × Value → H} {P : Program} {W : World} {base : Nat} {spare : Nat → Bool} {held : Bool}

theorem trod_int_cell {t : TypeId} {k : IntKind} {fuel : Nat} {v : Value} {y : DataW H × List MemPlace} (ht : P.underlying t = some (.int k)) (h : DataW.trod enc P W base spare held fuel t [v] = some y) : ∃ n : Int, v = .int k n ∧ (Lit.int k n).wf = true := by
  obtain ⟨n, hv, -, hw⟩ := DataW.trod_int ht h
  injection hv with hv _
  exact ⟨n, hv, hw⟩
theorem trod_string_cell {t : TypeId} {fuel : Nat} {v : Value} {y : DataW H × List MemPlace} (ht : P.underlying t = some .string) (h : DataW.trod enc P W base spare held fuel t [v] = some y) : ∃ s : ByteArray, v = .string s ∧ s.size ≤ maxLen ∧ y.1 = .lit (.string s.data.toList) := by
  obtain ⟨s, hv, he, hw⟩ := DataW.trod_string ht h
  injection hv with hv _
  exact ⟨s, hv, hw, by rw [he]⟩
theorem trod_bool_cell {t : TypeId} {fuel : Nat} {v : Value} {y : DataW H × List MemPlace} (ht : P.underlying t = some .bool) (h : DataW.trod enc P W base spare held fuel t [v] = some y) : ∃ b : Bool, v = .bool b := by
  obtain ⟨s, hv, -⟩ := DataW.trod_bool ht h
  injection hv with hv _
  exact ⟨s, hv⟩
theorem wf_i64 {n : Int} (h : (Lit.int .i64 n).wf = true) : -9223372036854775808 ≤ n ∧ n ≤ 9223372036854775807 := by
  simp only [Lit.wf, Bool.and_eq_true, decide_eq_true_eq] at h
  exact ⟨by have := h.1; rwa [show IntKind.i64.min = -9223372036854775808 from rfl] at this, by have := h.2; rwa [show IntKind.i64.max = 9223372036854775807 from rfl] at this⟩
theorem wf_u64 {n : Int} (h : (Lit.int .u64 n).wf = true) : 0 ≤ n ∧ n < 18446744073709551616 := by
  simp only [Lit.wf, Bool.and_eq_true, decide_eq_true_eq] at h
  have h1 := h.1
  have h2 := h.2
  rw [show IntKind.u64.min = 0 from rfl] at h1
  rw [show IntKind.u64.max = 18446744073709551615 from rfl] at h2
  omega
theorem wf_u8 {n : Int} (h : (Lit.int .u8 n).wf = true) : 0 ≤ n ∧ n ≤ 255 := by
  simp only [Lit.wf, Bool.and_eq_true, decide_eq_true_eq] at h
  have h1 := h.1
  have h2 := h.2
  rw [show IntKind.u8.min = 0 from rfl] at h1
  rw [show IntKind.u8.max = 255 from rfl] at h2
  omega

theorem weights_mem {t : TypeId} {d : DataW H} : ∀ {l : List (DataW H)}, d ∈ l → ∀ n ∈ d.weights P t, n ∈ DataW.weightsAll P t l
  | a :: l, hd, n, hn => by
    simp only [DataW.weightsAll, List.mem_append]
    rcases List.mem_cons.1 hd with e | e
    · subst e; exact .inl hn
    · exact .inr (weights_mem e n hn)
theorem weights_each {t : TypeId} {d : DataW H} : ∀ {ts : List TypeId} {l : List (DataW H)} {j : Nat}, ts[j]? = some t → l[j]? = some d → ∀ n ∈ d.weights P t, n ∈ DataW.weightsEach P ts l := fun h1 h2 => DataW.weights_mem_each h1 h2

/-- Elements of 'size' cells each: where they lie, and the reading of each. -/
theorem open_row {t e : TypeId} {fuel : Nat} {v : Value} {x : DataW H × List MemPlace} (size : Nat) (hs : 0 < size) (ht : P.underlying t = some (.slice e)) (hC : P.cellsOf e = size) (hsp : ∀ b, spare b = true) (h : DataW.trod enc P W base spare held fuel t [v] = some x) (hlt : ∀ y ∈ x.2, y.block < W.heap.size) (hwt : ∀ n ∈ x.1.weights P t, n ≤ reachBytes) :
    ∃ (A : Option Addr) (n cap : Nat) (F : Nat → Nat → Value), v = .slice A n cap ∧ n ≤ cap ∧ cap ≤ maxLen ∧ cap * P.bytesOf e ≤ reachBytes ∧
      (0 < n → ∃ b off, A = some ⟨b, off, none⟩ ∧ b < W.heap.size ∧ ∀ i j, i < n → j < size → W.cell? ⟨b, off + i * size + j, none⟩ = some (F i j)) ∧
      ∀ i, i < n → ∃ m y, DataW.trod enc P W base spare held m e ((List.range size).map (F i)) = some y ∧ (∀ z ∈ y.2, z.block < W.heap.size) ∧ ∀ n ∈ y.1.weights P e, n ≤ reachBytes := by
  rcases Go.Deep.open_slice ht h with ⟨hcs, -⟩ | ⟨a, len, cap, m, k, D, Pl, hcs, -, hl, hm, hmm, hx, hi⟩
  · injection hcs with hcs _
    subst hcs
    exact ⟨none, 0, 0, fun _ _ => .bool false, rfl, Nat.le_refl _, Nat.zero_le _, by rw [Nat.zero_mul]; exact Nat.zero_le _, fun h => absurd h (by omega), fun i hi => absurd hi (by omega)⟩
  · injection hcs with hcs _
    subst hcs
    rw [hsp] at hmm
    simp only [if_true] at hmm
    subst hmm
    have key : ∀ i, i < len → ∃ cs, W.cells? base (a.add (i * size)) size = some cs ∧ cs.length = size ∧ (∀ j (hj : j < size), W.cell? (a.add (i * size + j)) = some (cs.getD j (.bool false))) ∧ DataW.trod enc P W base spare held k e cs = some (D i, Pl i) := fun i hil => by
      obtain ⟨cs, hc, htr⟩ := hi i (by omega)
      rw [hC] at hc
      obtain ⟨-, hcl, hat⟩ := World.cells?_some hc
      refine ⟨cs, hc, hcl, fun j hj => ?_, htr⟩
      have h1 := hat j hj
      rw [Go.Deep.add_add] at h1
      rw [h1, List.getD, List.getElem?_eq_getElem (by omega)]
      rfl
    have hcell : 0 < len → a.spot = none := fun h0 => by
      obtain ⟨cs, -, -, h1, -⟩ := key 0 h0
      have := h1 0 hs
      simpa [Addr.add] using World.cell?_spot this
    have hd : x.1 = .slice ((List.range len).map D) ((List.range (m - len)).map fun j => D (len + j)) := by rw [hx]
    rw [hd] at hwt
    simp only [DataW.weights, ht, List.length_map, List.length_range] at hwt
    refine ⟨some a, len, m, fun i j => ((W.cells? base (a.add (i * size)) size).getD []).getD j (.bool false), rfl, hl, hm, ?_, fun h0 => ?_, fun i hil => ?_⟩
    · have := hwt _ (List.mem_cons_self)
      rwa [show len + (m - len) = m by omega] at this
    · have hsn := hcell h0
      obtain ⟨ab, ao, asp⟩ := a
      dsimp only at hsn
      subst hsn
      refine ⟨ab, ao, rfl, ?_, fun i j hil hj => ?_⟩
      · obtain ⟨cs, -, -, h1, -⟩ := key 0 h0
        exact World.block_lt_of_cell? W _ (by have := h1 0 hs; simpa [Addr.add] using this)
      · obtain ⟨cs, h0, -, h1, -⟩ := key i hil
        dsimp only
        rw [h0]
        have := h1 j hj
        have e : ∀ k : Nat, (⟨ab, ao, none⟩ : Addr).add k = ⟨ab, ao + k, none⟩ := fun k => by unfold Addr.add; split <;> simp_all
        rw [e] at this
        rw [show ao + i * size + j = ao + (i * size + j) by omega]
        exact this
    · obtain ⟨cs, h0, hcl, h1, htr⟩ := key i hil
      refine ⟨k, (D i, Pl i), ?_, fun z hz => hlt z ?_, fun n hn => hwt n (List.mem_cons_of_mem _ (List.mem_append_left _ (weights_mem (List.mem_map.2 ⟨i, List.mem_range.2 hil, rfl⟩) n hn)))⟩
      · dsimp only
        rw [h0]
        have : (List.range size).map (fun j => ((some cs).getD []).getD j (.bool false)) = cs := by
          apply List.ext_getElem?
          intro j
          by_cases hj : j < size
          · rw [List.getElem?_map, List.getElem?_range hj]
            simp [List.getD, List.getElem?_eq_getElem (show j < cs.length by omega)]
          · rw [List.getElem?_eq_none (by simp; omega), List.getElem?_eq_none (by omega)]
        rw [this]
        exact htr
      · rw [hx]
        refine List.mem_append_right _ (List.mem_flatMap.2 ⟨i, List.mem_range.2 (by omega), hz⟩)
end
/-- A list told by a function. -/
theorem list_of {α : Type} (n : Nat) (Q : Nat → α → Prop) (d : α) (h : ∀ i, i < n → ∃ a, Q i a) : ∃ l : List α, l.length = n ∧ ∀ i, i < n → Q i (l.getD i d) := by
  have h' : ∀ i, ∃ a, i < n → Q i a := fun i => by
    by_cases hi : i < n
    · obtain ⟨a, ha⟩ := h i hi; exact ⟨a, fun _ => ha⟩
    · exact ⟨d, fun h => absurd h hi⟩
  obtain ⟨g, hg⟩ := Classical.axiomOfChoice h'
  refine ⟨(List.range n).map g, by simp, fun i hi => ?_⟩
  rw [List.getD, List.getElem?_map, List.getElem?_range hi]
  exact hg i hi
end Hp
end Go.Proofs.YticaipedpcmhfaaGreatDoor
