/- slices.Clone, at code's kinds of list: a list of the call's own. -/
import Derived.Test.YtkepcdbogeineaaGreatDoorCkV
import Derived.Test.YtkepcdbogeineaaGreatDoorHpVal
import Derived.Lib.SliceRun
import Derived.IntWalk
namespace Go.Proofs.YtkepcdbogeineaaGreatDoor
open Go.RowKit Hp
namespace Vm
variable {w w' : World}

/-- The things of a slice that is read, one behind the other. -/
def cellsOf (sz : Nat) (f : Nat → Nat → Value) (i : Nat) : List Value := (List.range sz).map (f i)
theorem cellsOf_len (sz : Nat) (f : Nat → Nat → Value) (i : Nat) : (cellsOf sz f i).length = sz := by simp [cellsOf]
theorem cellsOf_get (sz : Nat) (f : Nat → Nat → Value) (i r : Nat) (hr : r < sz) : (cellsOf sz f i)[r]? = some (f i r) := by simp [cellsOf, hr]

/-- What Clone leaves: a list of the call's own, new. -/
def Cln (w : World) (t : TypeId) (n sz : Nat) (f : Nat → Nat → Value) (e : Ending) (w' : World) : Prop :=
  ∃ A C, e = .returned (.slice A n C) ∧ w'.ownsRow 0 t sz (.slice A n C) n (vals n (cellsOf sz f)) ∧ (∀ b, (Value.slice A n C).ownBlock = some b → w.heap.size ≤ b) ∧ Same [] w w'

theorem own_base {B e size n : Nat} {v : Value} {xs : List Value} (h : w.ownsRow B e size v n xs) : w.ownsRow 0 e size v n xs := by
  refine ⟨h.1, ?_⟩
  rcases h.2 with h0 | ⟨g, cap, cur, e1, _, r⟩
  · exact .inl h0
  · exact .inr ⟨g, cap, cur, e1, Nat.zero_le _, r⟩
theorem own_lit {B e size n : Nat} {v : Value} {xs : List Value} (h : w.ownsRow B e size v n xs) : ∃ A C, v = .slice A n C := by
  rcases h.2 with ⟨rfl, rfl⟩ | ⟨g, cap, cur, rfl, _⟩
  · exact ⟨none, 0, rfl⟩
  · exact ⟨_, cap, rfl⟩

theorem infoC_W : (Tryz.prog.info? 30).map (fun i => (i.zero, i.size, i.bytes)) = some (some (.int .u64 0), 1, 8) := by kernel_rfl
set_option maxHeartbeats 2000000 in
set_option maxRecDepth 100000 in
theorem cloneW_any (v : Value) (n : Nat) (f : Nat → Nat → Value) (h : Ck.Sq w v n 1 f) (h1 : ∀ i j, i < n → j < 1 → (f i j).oneCell' = true) (hn : n * 8 ≤ 140737488355328) : Calls Tryz.prog 36 #[v] w (Cln w 30 n 1 f) := by
  obtain ⟨A, cap, rfl, hc1, hc2, hc⟩ := h
  have qT : ∀ (w : World) (a : Option Addr) (n c n' c' : Nat), (binOp .eql 23 (.slice a n c) (.slice none n' c')).run Tryz.prog w = .ok (.bool a.isNone) w := fun w a n c n' c' => Lib.run_eql_slice_nil w _ _ a n c n' c' Tryz.underlying23
  cases A with
  | none =>
    have hn0 : n = 0 := by
      rcases Nat.eq_zero_or_pos n with h | h
      · exact h
      · obtain ⟨b, off, e, _⟩ := hc h; cases e
    subst hn0
    clear hc
    go_enter Tryz.func36, Tryz.ntmps36
    go_wp2
    go_ret
    exact ⟨none, 0, rfl, World.ownsRow_nil _ _ _ _, (fun b hb => by cases hb), Same.refl _ _⟩
  | some ad =>
    obtain ⟨i0, hi, hz0, hz1, hz2⟩ := info_parts infoC_W
    have HC := Lib.hid hc
    have H1 := Lib.hid h1
    clear hc h1
    go_enter Tryz.func36, Tryz.ntmps36
    go_wp2_with (at_builtin; refine wpList_append_own _ rfl _ _ 23 rfl w.heap.size 30 i0 _ 1 8 Tryz.underlying23 hi hz0 hz1 hz2 rfl (by decide) _ _ _ rfl (World.ownsRow_made w #[] 0 (Nat.le_refl _) (Nat.zero_le _) rfl) ad n cap (vals n (cellsOf 1 f)) rfl ?qc1 ?qc2 ?qc3 ?qc4 ?qc5 ?qc6 ?_)
    case qc1 => exact vals_len (cellsOf_len 1 f)
    case qc2 =>
      intro j u hj
      have hjl : j < n * 1 := by
        have := (List.getElem?_eq_some_iff.1 hj).1
        rwa [vals_len (cellsOf_len 1 f)] at this
      have hn0 : 0 < n := by rcases Nat.eq_zero_or_pos n with h | h; · subst h; omega
                             · exact h
      obtain ⟨b, off, e, hb, hcell⟩ := HC.out hn0
      injection e with e
      subst e
      have hk : j / 1 < n := Nat.div_lt_of_lt_mul (by rw [Nat.mul_comm]; exact hjl)
      have hr : j % 1 < 1 := Nat.mod_lt _ (by decide)
      have ej : j = j / 1 * 1 + j % 1 := by omega
      have h2 := vals_get (n := n) (cellsOf_len 1 f) (j / 1) (j % 1) hk hr
      rw [← ej, hj, cellsOf_get _ _ _ _ hr] at h2
      injection h2 with h2
      have h3 := hcell (j / 1) (j % 1) hk hr
      rw [Nat.add_assoc, ← ej, ← h2] at h3
      rw [Addr.add_lit, World.cell?_alloc_lt _ _ _ hb]
      exact h3
    case qc3 =>
      intro u hu
      unfold vals at hu
      obtain ⟨k, hk, hu⟩ := List.mem_flatMap.1 hu
      obtain ⟨r, hr, rfl⟩ := List.mem_map.1 hu
      exact H1.out k r (List.mem_range.1 hk) (List.mem_range.1 hr)
    case qc4 => omega
    case qc5 => omega
    case qc6 => simp
    intro v' w1 hown hgrow hnil
    obtain ⟨A2, C2, rfl⟩ := own_lit hown
    have HO := Lib.hid hown
    have HG := Lib.hid hgrow
    clear hown hgrow hnil
    go_wp2
    go_ret
    have ho : w1.ownsRow w.heap.size 30 1 (.slice A2 n C2) n (vals n (cellsOf 1 f)) := by
      have := HO.out
      simpa using this
    refine ⟨A2, C2, by simp, own_base ho, fun b hb => (ho.lt b hb).1, ?_⟩
    have := Same.of_grown HG.out
    exact ((Same.refl [] w).alloc _).trans' this (fun x hx => .inr (by simp [Value.ownBlock] at hx; omega))

theorem infoC_S : (Tryz.prog.info? 9).map (fun i => (i.zero, i.size, i.bytes)) = some (some (.string ⟨#[]⟩), 1, 16) := by kernel_rfl
set_option maxHeartbeats 2000000 in
set_option maxRecDepth 100000 in
theorem cloneS_any (v : Value) (n : Nat) (f : Nat → Nat → Value) (h : Ck.Sq w v n 1 f) (h1 : ∀ i j, i < n → j < 1 → (f i j).oneCell' = true) (hn : n * 16 ≤ 140737488355328) : Calls Tryz.prog 40 #[v] w (Cln w 9 n 1 f) := by
  obtain ⟨A, cap, rfl, hc1, hc2, hc⟩ := h
  have qT : ∀ (w : World) (a : Option Addr) (n c n' c' : Nat), (binOp .eql 25 (.slice a n c) (.slice none n' c')).run Tryz.prog w = .ok (.bool a.isNone) w := fun w a n c n' c' => Lib.run_eql_slice_nil w _ _ a n c n' c' Tryz.underlying25
  cases A with
  | none =>
    have hn0 : n = 0 := by
      rcases Nat.eq_zero_or_pos n with h | h
      · exact h
      · obtain ⟨b, off, e, _⟩ := hc h; cases e
    subst hn0
    clear hc
    go_enter Tryz.func40, Tryz.ntmps40
    go_wp2
    go_ret
    exact ⟨none, 0, rfl, World.ownsRow_nil _ _ _ _, (fun b hb => by cases hb), Same.refl _ _⟩
  | some ad =>
    obtain ⟨i0, hi, hz0, hz1, hz2⟩ := info_parts infoC_S
    have HC := Lib.hid hc
    have H1 := Lib.hid h1
    clear hc h1
    go_enter Tryz.func40, Tryz.ntmps40
    go_wp2_with (at_builtin; refine wpList_append_own _ rfl _ _ 25 rfl w.heap.size 9 i0 _ 1 16 Tryz.underlying25 hi hz0 hz1 hz2 rfl (by decide) _ _ _ rfl (World.ownsRow_made w #[] 0 (Nat.le_refl _) (Nat.zero_le _) rfl) ad n cap (vals n (cellsOf 1 f)) rfl ?qc1 ?qc2 ?qc3 ?qc4 ?qc5 ?qc6 ?_)
    case qc1 => exact vals_len (cellsOf_len 1 f)
    case qc2 =>
      intro j u hj
      have hjl : j < n * 1 := by
        have := (List.getElem?_eq_some_iff.1 hj).1
        rwa [vals_len (cellsOf_len 1 f)] at this
      have hn0 : 0 < n := by rcases Nat.eq_zero_or_pos n with h | h; · subst h; omega
                             · exact h
      obtain ⟨b, off, e, hb, hcell⟩ := HC.out hn0
      injection e with e
      subst e
      have hk : j / 1 < n := Nat.div_lt_of_lt_mul (by rw [Nat.mul_comm]; exact hjl)
      have hr : j % 1 < 1 := Nat.mod_lt _ (by decide)
      have ej : j = j / 1 * 1 + j % 1 := by omega
      have h2 := vals_get (n := n) (cellsOf_len 1 f) (j / 1) (j % 1) hk hr
      rw [← ej, hj, cellsOf_get _ _ _ _ hr] at h2
      injection h2 with h2
      have h3 := hcell (j / 1) (j % 1) hk hr
      rw [Nat.add_assoc, ← ej, ← h2] at h3
      rw [Addr.add_lit, World.cell?_alloc_lt _ _ _ hb]
      exact h3
    case qc3 =>
      intro u hu
      unfold vals at hu
      obtain ⟨k, hk, hu⟩ := List.mem_flatMap.1 hu
      obtain ⟨r, hr, rfl⟩ := List.mem_map.1 hu
      exact H1.out k r (List.mem_range.1 hk) (List.mem_range.1 hr)
    case qc4 => omega
    case qc5 => omega
    case qc6 => simp
    intro v' w1 hown hgrow hnil
    obtain ⟨A2, C2, rfl⟩ := own_lit hown
    have HO := Lib.hid hown
    have HG := Lib.hid hgrow
    clear hown hgrow hnil
    go_wp2
    go_ret
    have ho : w1.ownsRow w.heap.size 9 1 (.slice A2 n C2) n (vals n (cellsOf 1 f)) := by
      have := HO.out
      simpa using this
    refine ⟨A2, C2, by simp, own_base ho, fun b hb => (ho.lt b hb).1, ?_⟩
    have := Same.of_grown HG.out
    exact ((Same.refl [] w).alloc _).trans' this (fun x hx => .inr (by simp [Value.ownBlock] at hx; omega))

theorem infoC_P : (Tryz.prog.info? 56).map (fun i => (i.zero, i.size, i.bytes)) = some (some (.agg #[.int .i64 0, .slice none 0 0]), 2, 32) := by kernel_rfl
set_option maxHeartbeats 2000000 in
set_option maxRecDepth 100000 in
theorem cloneP_any (v : Value) (n : Nat) (f : Nat → Nat → Value) (h : Ck.Sq w v n 2 f) (h1 : ∀ i j, i < n → j < 2 → (f i j).oneCell' = true) (hn : n * 32 ≤ 140737488355328) : Calls Tryz.prog 41 #[v] w (Cln w 56 n 2 f) := by
  obtain ⟨A, cap, rfl, hc1, hc2, hc⟩ := h
  have qT : ∀ (w : World) (a : Option Addr) (n c n' c' : Nat), (binOp .eql 24 (.slice a n c) (.slice none n' c')).run Tryz.prog w = .ok (.bool a.isNone) w := fun w a n c n' c' => Lib.run_eql_slice_nil w _ _ a n c n' c' Tryz.underlying24
  cases A with
  | none =>
    have hn0 : n = 0 := by
      rcases Nat.eq_zero_or_pos n with h | h
      · exact h
      · obtain ⟨b, off, e, _⟩ := hc h; cases e
    subst hn0
    clear hc
    go_enter Tryz.func41, Tryz.ntmps41
    go_wp2
    go_ret
    exact ⟨none, 0, rfl, World.ownsRow_nil _ _ _ _, (fun b hb => by cases hb), Same.refl _ _⟩
  | some ad =>
    obtain ⟨i0, hi, hz0, hz1, hz2⟩ := info_parts infoC_P
    have HC := Lib.hid hc
    have H1 := Lib.hid h1
    clear hc h1
    go_enter Tryz.func41, Tryz.ntmps41
    go_wp2_with (at_builtin; refine wpList_append_own _ rfl _ _ 24 rfl w.heap.size 56 i0 _ 2 32 Tryz.underlying24 hi hz0 hz1 hz2 rfl (by decide) _ _ _ rfl (World.ownsRow_made w #[] 0 (Nat.le_refl _) (Nat.zero_le _) rfl) ad n cap (vals n (cellsOf 2 f)) rfl ?qc1 ?qc2 ?qc3 ?qc4 ?qc5 ?qc6 ?_)
    case qc1 => exact vals_len (cellsOf_len 2 f)
    case qc2 =>
      intro j u hj
      have hjl : j < n * 2 := by
        have := (List.getElem?_eq_some_iff.1 hj).1
        rwa [vals_len (cellsOf_len 2 f)] at this
      have hn0 : 0 < n := by rcases Nat.eq_zero_or_pos n with h | h; · subst h; omega
                             · exact h
      obtain ⟨b, off, e, hb, hcell⟩ := HC.out hn0
      injection e with e
      subst e
      have hk : j / 2 < n := Nat.div_lt_of_lt_mul (by rw [Nat.mul_comm]; exact hjl)
      have hr : j % 2 < 2 := Nat.mod_lt _ (by decide)
      have ej : j = j / 2 * 2 + j % 2 := by omega
      have h2 := vals_get (n := n) (cellsOf_len 2 f) (j / 2) (j % 2) hk hr
      rw [← ej, hj, cellsOf_get _ _ _ _ hr] at h2
      injection h2 with h2
      have h3 := hcell (j / 2) (j % 2) hk hr
      rw [Nat.add_assoc, ← ej, ← h2] at h3
      rw [Addr.add_lit, World.cell?_alloc_lt _ _ _ hb]
      exact h3
    case qc3 =>
      intro u hu
      unfold vals at hu
      obtain ⟨k, hk, hu⟩ := List.mem_flatMap.1 hu
      obtain ⟨r, hr, rfl⟩ := List.mem_map.1 hu
      exact H1.out k r (List.mem_range.1 hk) (List.mem_range.1 hr)
    case qc4 => omega
    case qc5 => omega
    case qc6 => simp
    intro v' w1 hown hgrow hnil
    obtain ⟨A2, C2, rfl⟩ := own_lit hown
    have HO := Lib.hid hown
    have HG := Lib.hid hgrow
    clear hown hgrow hnil
    go_wp2
    go_ret
    have ho : w1.ownsRow w.heap.size 56 2 (.slice A2 n C2) n (vals n (cellsOf 2 f)) := by
      have := HO.out
      simpa using this
    refine ⟨A2, C2, by simp, own_base ho, fun b hb => (ho.lt b hb).1, ?_⟩
    have := Same.of_grown HG.out
    exact ((Same.refl [] w).alloc _).trans' this (fun x hx => .inr (by simp [Value.ownBlock] at hx; omega))

theorem infoC_I : (Tryz.prog.info? 53).map (fun i => (i.zero, i.size, i.bytes)) = some (some (.agg #[.int .u8 0, .int .i64 0]), 2, 16) := by kernel_rfl
set_option maxHeartbeats 2000000 in
set_option maxRecDepth 100000 in
theorem cloneI_any (v : Value) (n : Nat) (f : Nat → Nat → Value) (h : Ck.Sq w v n 2 f) (h1 : ∀ i j, i < n → j < 2 → (f i j).oneCell' = true) (hn : n * 16 ≤ 140737488355328) : Calls Tryz.prog 42 #[v] w (Cln w 53 n 2 f) := by
  obtain ⟨A, cap, rfl, hc1, hc2, hc⟩ := h
  have qT : ∀ (w : World) (a : Option Addr) (n c n' c' : Nat), (binOp .eql 54 (.slice a n c) (.slice none n' c')).run Tryz.prog w = .ok (.bool a.isNone) w := fun w a n c n' c' => Lib.run_eql_slice_nil w _ _ a n c n' c' Tryz.underlying54
  cases A with
  | none =>
    have hn0 : n = 0 := by
      rcases Nat.eq_zero_or_pos n with h | h
      · exact h
      · obtain ⟨b, off, e, _⟩ := hc h; cases e
    subst hn0
    clear hc
    go_enter Tryz.func42, Tryz.ntmps42
    go_wp2
    go_ret
    exact ⟨none, 0, rfl, World.ownsRow_nil _ _ _ _, (fun b hb => by cases hb), Same.refl _ _⟩
  | some ad =>
    obtain ⟨i0, hi, hz0, hz1, hz2⟩ := info_parts infoC_I
    have HC := Lib.hid hc
    have H1 := Lib.hid h1
    clear hc h1
    go_enter Tryz.func42, Tryz.ntmps42
    go_wp2_with (at_builtin; refine wpList_append_own _ rfl _ _ 54 rfl w.heap.size 53 i0 _ 2 16 Tryz.underlying54 hi hz0 hz1 hz2 rfl (by decide) _ _ _ rfl (World.ownsRow_made w #[] 0 (Nat.le_refl _) (Nat.zero_le _) rfl) ad n cap (vals n (cellsOf 2 f)) rfl ?qc1 ?qc2 ?qc3 ?qc4 ?qc5 ?qc6 ?_)
    case qc1 => exact vals_len (cellsOf_len 2 f)
    case qc2 =>
      intro j u hj
      have hjl : j < n * 2 := by
        have := (List.getElem?_eq_some_iff.1 hj).1
        rwa [vals_len (cellsOf_len 2 f)] at this
      have hn0 : 0 < n := by rcases Nat.eq_zero_or_pos n with h | h; · subst h; omega
                             · exact h
      obtain ⟨b, off, e, hb, hcell⟩ := HC.out hn0
      injection e with e
      subst e
      have hk : j / 2 < n := Nat.div_lt_of_lt_mul (by rw [Nat.mul_comm]; exact hjl)
      have hr : j % 2 < 2 := Nat.mod_lt _ (by decide)
      have ej : j = j / 2 * 2 + j % 2 := by omega
      have h2 := vals_get (n := n) (cellsOf_len 2 f) (j / 2) (j % 2) hk hr
      rw [← ej, hj, cellsOf_get _ _ _ _ hr] at h2
      injection h2 with h2
      have h3 := hcell (j / 2) (j % 2) hk hr
      rw [Nat.add_assoc, ← ej, ← h2] at h3
      rw [Addr.add_lit, World.cell?_alloc_lt _ _ _ hb]
      exact h3
    case qc3 =>
      intro u hu
      unfold vals at hu
      obtain ⟨k, hk, hu⟩ := List.mem_flatMap.1 hu
      obtain ⟨r, hr, rfl⟩ := List.mem_map.1 hu
      exact H1.out k r (List.mem_range.1 hk) (List.mem_range.1 hr)
    case qc4 => omega
    case qc5 => omega
    case qc6 => simp
    intro v' w1 hown hgrow hnil
    obtain ⟨A2, C2, rfl⟩ := own_lit hown
    have HO := Lib.hid hown
    have HG := Lib.hid hgrow
    clear hown hgrow hnil
    go_wp2
    go_ret
    have ho : w1.ownsRow w.heap.size 53 2 (.slice A2 n C2) n (vals n (cellsOf 2 f)) := by
      have := HO.out
      simpa using this
    refine ⟨A2, C2, by simp, own_base ho, fun b hb => (ho.lt b hb).1, ?_⟩
    have := Same.of_grown HG.out
    exact ((Same.refl [] w).alloc _).trans' this (fun x hx => .inr (by simp [Value.ownBlock] at hx; omega))
end Vm
end Go.Proofs.YtkepcdbogeineaaGreatDoor
