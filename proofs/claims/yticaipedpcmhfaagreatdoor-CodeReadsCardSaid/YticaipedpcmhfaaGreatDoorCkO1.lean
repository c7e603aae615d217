/- Layer 8: code that comes in as an argument, opened: it lies in memory as plain code. -/
import Derived.Test.YticaipedpcmhfaaGreatDoorCkV
import Derived.Test.YticaipedpcmhfaaGreatDoorHpOpen
import Derived.Lib.SmallJoins
namespace Go.Proofs.YticaipedpcmhfaaGreatDoor
open Go Go.ChangeShapes Go.WideShapes Go.RowKit Hp
namespace Ck
/-- Lists are no longer than what memory holds. -/
structure Lens (c : Cd.Co) : Prop where
  consts : c.consts.length ≤ 140737488351232
  globals : ∀ s ∈ c.globals, s.size ≤ 140737488351232
  procs : ∀ p ∈ c.procs, p.code.length ≤ 140737488351232

section
variable {H : Type} {enc : TypeId × Value → H} {W : World} {base : Nat} {spare : Nat → Bool} {held : Bool} {fuel : Nat} {v : Value} {x : DataW H × List MemPlace}

theorem cap_le {P : Program} {e n cap m : Nat} (h1 : n ≤ cap) (h : cap * P.bytesOf e ≤ reachBytes) (hb : P.bytesOf e = m + 1) : n ≤ 140737488351232 := by
  rw [hb] at h
  have h2 : cap * 1 ≤ cap * (m + 1) := Nat.mul_le_mul_left _ (by omega)
  have h3 : reachBytes ≤ 140737488351232 := by decide
  omega

theorem sq_of {A : Option Addr} {n cap size : Nat} {F f : Nat → Nat → Value} (h1 : n ≤ cap) (h2 : cap ≤ maxLen) (h3 : 0 < n → ∃ b off, A = some ⟨b, off, none⟩ ∧ b < W.heap.size ∧ ∀ i j, i < n → j < size → W.cell? ⟨b, off + i * size + j, none⟩ = some (F i j)) (he : ∀ i j, i < n → j < size → f i j = F i j) : Sq W (.slice A n cap) n size f := by
  refine ⟨A, cap, rfl, h1, h2, fun h0 => ?_⟩
  obtain ⟨b, off, e, hb, hc⟩ := h3 h0
  exact ⟨b, off, e, hb, fun i j hi hj => by rw [he i j hi hj]; exact hc i j hi hj⟩

set_option maxRecDepth 100000 in
theorem words_open (hsp : ∀ b, spare b = true) (h : DataW.trod enc Tryz.prog W base spare held fuel 22 [v] = some x) (hlt : ∀ y ∈ x.2, y.block < W.heap.size) (hwt : ∀ n ∈ x.1.weights Tryz.prog 22, n ≤ reachBytes) : ∃ l : List Int, Sq W v l.length 1 (fW l) ∧ (∀ w ∈ l, 0 ≤ w ∧ w < 18446744073709551616) ∧ l.length ≤ 140737488351232 := by
  obtain ⟨A, n, cap, F, rfl, h1, h2, hcb, h3, h4⟩ := open_row 1 (by decide) Tryz.underlying22 (by kernel_rfl) hsp h hlt hwt
  obtain ⟨l, rfl, hl⟩ := list_of n (fun i a => F i 0 = .int .u64 a ∧ 0 ≤ a ∧ a < 18446744073709551616) 0 (fun i hi => by
    obtain ⟨m, y, hy, -, hwy⟩ := h4 i hi
    have hy' : DataW.trod enc Tryz.prog W base spare held m 74 [F i 0] = some y := hy
    obtain ⟨a, e, hw⟩ := trod_int_cell Tryz.underlying74 hy'
    exact ⟨a, e, wf_u64 hw⟩)
  refine ⟨l, sq_of h1 h2 h3 (fun i j hi hj => ?_), fun w hw => ?_, cap_le (m := 7) h1 hcb (by kernel_rfl)⟩
  · obtain rfl : j = 0 := by omega
    exact (hl i hi).1.symm
  · obtain ⟨i, hi, rfl⟩ := List.getElem_of_mem hw
    have := (hl i hi).2
    rwa [List.getD, List.getElem?_eq_getElem hi] at this

set_option maxRecDepth 100000 in
theorem texts_open (hsp : ∀ b, spare b = true) (h : DataW.trod enc Tryz.prog W base spare held fuel 24 [v] = some x) (hlt : ∀ y ∈ x.2, y.block < W.heap.size) (hwt : ∀ n ∈ x.1.weights Tryz.prog 24, n ≤ reachBytes) : ∃ l : List ByteArray, Sq W v l.length 1 (fS l) ∧ ∀ s ∈ l, s.size ≤ 140737488351232 := by
  obtain ⟨A, n, cap, F, rfl, h1, h2, hcb, h3, h4⟩ := open_row 1 (by decide) Tryz.underlying24 (by kernel_rfl) hsp h hlt hwt
  obtain ⟨l, rfl, hl⟩ := list_of n (fun i a => F i 0 = .string a ∧ a.size ≤ reachBytes) ByteArray.empty (fun i hi => by
    obtain ⟨m, y, hy, -, hwy⟩ := h4 i hi
    have hy' : DataW.trod enc Tryz.prog W base spare held m 9 [F i 0] = some y := hy
    obtain ⟨s, e, -, hd⟩ := trod_string_cell Tryz.underlying9 hy'
    rw [hd] at hwy
    exact ⟨s, e, by have := hwy s.data.toList.length (by simp [DataW.weights]); simpa using this⟩)
  refine ⟨l, sq_of h1 h2 h3 (fun i j hi hj => ?_), fun w hw => ?_⟩
  · obtain rfl : j = 0 := by omega
    exact (hl i hi).1.symm
  · obtain ⟨i, hi, rfl⟩ := List.getElem_of_mem hw
    have := (hl i hi).2
    rw [List.getD, List.getElem?_eq_getElem hi] at this
    exact Nat.le_trans this (by decide)

set_option maxRecDepth 100000 in
theorem instrs_open (hsp : ∀ b, spare b = true) (h : DataW.trod enc Tryz.prog W base spare held fuel 66 [v] = some x) (hlt : ∀ y ∈ x.2, y.block < W.heap.size) (hwt : ∀ n ∈ x.1.weights Tryz.prog 66, n ≤ reachBytes) : ∃ l : List Cd.In, RIs W v l ∧ (∀ i ∈ l, WIn i) ∧ l.length ≤ 140737488351232 := by
  obtain ⟨A, n, cap, F, rfl, h1, h2, hcb, h3, h4⟩ := open_row 2 (by decide) Tryz.underlying66 (by kernel_rfl) hsp h hlt hwt
  obtain ⟨l, rfl, hl⟩ := list_of n (fun i (a : Cd.In) => F i 0 = .int .u8 a.op ∧ F i 1 = .int .i64 a.a ∧ WIn a) ⟨0, 0⟩ (fun i hi => by
    obtain ⟨m, y, hy, -, hwy⟩ := h4 i hi
    have hy' : DataW.trod enc Tryz.prog W base spare held m 82 [F i 0, F i 1] = some y := hy
    obtain ⟨ys, n', -, -, -, hyl, hf⟩ := DataW.trod_struct Tryz.underlying82 hy'
    have e1 : Tryz.prog.cellsOf 80 = 1 := by kernel_rfl
    have e2 : Tryz.prog.cellsOf 3 = 1 := by kernel_rfl
    have hy : ∀ i : Nat, i < 2 → ∃ y, ys[i]? = some y := fun i hi => ⟨ys[i]'(by rw [hyl]; exact hi), List.getElem?_eq_getElem _⟩
    obtain ⟨y0, hy0⟩ := hy 0 (by omega)
    obtain ⟨y1, hy1⟩ := hy 1 (by omega)
    have g0 : DataW.trod enc Tryz.prog W base spare held n' 80 [F i 0] = some y0 := by have := hf 0 _ rfl; rw [hy0] at this; simpa [e1] using this
    have g1 : DataW.trod enc Tryz.prog W base spare held n' 3 [F i 1] = some y1 := by have := hf 1 _ rfl; rw [hy1] at this; simpa [e2] using this
    obtain ⟨a, k0, w0⟩ := trod_int_cell Tryz.underlying80 g0
    obtain ⟨b, k1, w1⟩ := trod_int_cell Tryz.underlying3 g1
    exact ⟨⟨a, b⟩, k0, k1, ⟨wf_u8 w0, wf_i64 w1⟩⟩)
  refine ⟨l, sq_of h1 h2 h3 (fun i j hi hj => ?_), fun w hw => ?_, cap_le (m := 15) h1 hcb (by kernel_rfl)⟩
  · unfold fI
    rcases (show j = 0 ∨ j = 1 by omega) with rfl | rfl
    · rw [if_pos rfl]; exact (hl i hi).1.symm
    · rw [if_neg (by omega)]; exact (hl i hi).2.1.symm
  · obtain ⟨i, hi, rfl⟩ := List.getElem_of_mem hw
    have := (hl i hi).2.2
    rwa [List.getD, List.getElem?_eq_getElem hi] at this

set_option maxRecDepth 100000 in
theorem procs_open (hsp : ∀ b, spare b = true) (h : DataW.trod enc Tryz.prog W base spare held fuel 23 [v] = some x) (hlt : ∀ y ∈ x.2, y.block < W.heap.size) (hwt : ∀ n ∈ x.1.weights Tryz.prog 23, n ≤ reachBytes) : ∃ l : List Cd.Pr, RPs W v l ∧ (∀ i ∈ l, WPr i) ∧ ∀ p ∈ l, p.code.length ≤ 140737488351232 := by
  obtain ⟨A, n, cap, F, rfl, h1, h2, hcb, h3, h4⟩ := open_row 2 (by decide) Tryz.underlying23 (by kernel_rfl) hsp h hlt hwt
  obtain ⟨l, rfl, hl⟩ := list_of n (fun i (a : Cd.Pr) => F i 0 = .int .i64 a.params ∧ RIs W (F i 1) a.code ∧ WPr a ∧ a.code.length ≤ 140737488351232) ⟨0, []⟩ (fun i hi => by
    obtain ⟨m, y, hy, hz, hwy⟩ := h4 i hi
    have hy' : DataW.trod enc Tryz.prog W base spare held m 68 [F i 0, F i 1] = some y := hy
    obtain ⟨ys, n', -, hye, -, hyl, hf⟩ := DataW.trod_struct Tryz.underlying68 hy'
    have e1 : Tryz.prog.cellsOf 3 = 1 := by kernel_rfl
    have e2 : Tryz.prog.cellsOf 66 = 1 := by kernel_rfl
    have hy : ∀ i : Nat, i < 2 → ∃ y, ys[i]? = some y := fun i hi => ⟨ys[i]'(by rw [hyl]; exact hi), List.getElem?_eq_getElem _⟩
    obtain ⟨y0, hy0⟩ := hy 0 (by omega)
    obtain ⟨y1, hy1⟩ := hy 1 (by omega)
    have g0 : DataW.trod enc Tryz.prog W base spare held n' 3 [F i 0] = some y0 := by have := hf 0 _ rfl; rw [hy0] at this; simpa [e1] using this
    have g1 : DataW.trod enc Tryz.prog W base spare held n' 66 [F i 1] = some y1 := by have := hf 1 _ rfl; rw [hy1] at this; simpa [e2] using this
    obtain ⟨a, k0, w0⟩ := trod_int_cell Tryz.underlying3 g0
    obtain ⟨c, k1, w1, z1⟩ := instrs_open hsp g1 (fun q hq => hz q (by rw [hye]; exact List.mem_flatMap.2 ⟨y1, List.mem_of_getElem? hy1, hq⟩)) (fun n hn => hwy n (by
      rw [hye]
      simp only [DataW.weights, Tryz.underlying68]
      exact weights_each (j := 1) rfl (by rw [List.getElem?_map, hy1]; rfl) n hn))
    exact ⟨⟨a, c⟩, k0, k1, ⟨wf_i64 w0, w1⟩, z1⟩)
  refine ⟨l, ⟨fun i => F i 1, sq_of h1 h2 h3 (fun i j hi hj => ?_), fun i hi => (hl i hi).2.1⟩, fun w hw => ?_, fun w hw => ?_⟩
  · unfold fP
    rcases (show j = 0 ∨ j = 1 by omega) with rfl | rfl
    · rw [if_pos rfl]; exact (hl i hi).1.symm
    · rw [if_neg (by omega)]
  · obtain ⟨i, hi, rfl⟩ := List.getElem_of_mem hw
    have := (hl i hi).2.2.1
    rwa [List.getD, List.getElem?_eq_getElem hi] at this
  · obtain ⟨i, hi, rfl⟩ := List.getElem_of_mem hw
    have := (hl i hi).2.2.2
    rwa [List.getD, List.getElem?_eq_getElem hi] at this

set_option maxRecDepth 100000 in
theorem code_open {r : Reach} {b0 : Nat} {d : DataW H} {p : List MemPlace} (hsp : ∀ b, spare b = true) (hval : Value.okWide Tryz.prog W r b0 26 v) (h : DataW.Trod enc Tryz.prog W base spare held 26 v d p) (hlt : ∀ y ∈ p, y.block < W.heap.size) (hwt : ∀ n ∈ d.weights Tryz.prog 26, n ≤ reachBytes) : ∃ c, RCo W v c ∧ WCo c ∧ Lens c := by
  obtain ⟨a0, a1, a2, y0, y1, y2, fuel, rfl, hd, hp, k0, k1, k2⟩ := Go.Joins.open_agg3 Tryz.underlying26 (by kernel_rfl) (by kernel_rfl) hval h
  rw [hd] at hwt
  simp only [DataW.weights, Tryz.underlying26] at hwt
  obtain ⟨l0, r0, w0, z0⟩ := words_open hsp k0 (fun y hy => hlt y (by rw [hp]; simp [hy])) (fun n hn => hwt n (weights_each (j := 0) rfl rfl n hn))
  obtain ⟨l1, r1, w1, z1⟩ := procs_open hsp k1 (fun y hy => hlt y (by rw [hp]; simp [hy])) (fun n hn => hwt n (weights_each (j := 1) rfl rfl n hn))
  obtain ⟨l2, r2, w2⟩ := texts_open hsp k2 (fun y hy => hlt y (by rw [hp]; simp [hy])) (fun n hn => hwt n (weights_each (j := 2) rfl rfl n hn))
  exact ⟨⟨l0, l2, l1⟩, ⟨a0, a1, a2, rfl, r0, r1, r2⟩, ⟨w0, fun s hs => Nat.le_trans (w2 s hs) (by decide), w1⟩, ⟨z0, w2, z1⟩⟩
end
end Ck
end Go.Proofs.YticaipedpcmhfaaGreatDoor
