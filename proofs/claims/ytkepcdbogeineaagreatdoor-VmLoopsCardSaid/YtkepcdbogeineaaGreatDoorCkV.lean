/- Layer 8: the package-level tables, what a walk knows of them; slices that are read. -/
import Derived.Test.YtkepcdbogeineaaGreatDoorHp
import Derived.Test.YtkepcdbogeineaaGreatDoorCd
import Derived.Test.YtkepcdbogeineaaGreatDoorProg
import Derived.Lib.LaidTab
import Derived.Lib.ItoaMem
import Derived.Sort.Grow
namespace Go.Proofs.YtkepcdbogeineaaGreatDoor
open Go.RowKit Hp
namespace Ck

/-- The tables hold what the text lays there. -/
structure Vars (w : World) : Prop where
  size : 2 ≤ w.heap.size
  lo : ∀ t, t ≤ 8 → w.cell? ⟨0, t * 2, none⟩ = some (.int .i64 (Cd.least t))
  hi : ∀ t, t ≤ 8 → w.cell? ⟨0, t * 2 + 1, none⟩ = some (.int .i64 (Cd.most t))
  takes : ∀ a, a < 23 → w.cell? ⟨1, a, none⟩ = some (.int .i64 (Cd.takes a))

variable {w w' : World} {F : List Nat}

theorem Vars.frame (h : Vars w) (hs : Same F w w') (hF : ∀ k ∈ F, 2 ≤ k) : Vars w' := by
  have hz := h.size
  have hn : ∀ k, k < 2 → k ∉ F := fun k hk hm => by have := hF k hm; omega
  refine ⟨Nat.le_trans h.size hs.size, fun t ht => ?_, fun t ht => ?_, fun t ht => ?_⟩
  · rw [hs.cell (by omega) (hn _ (by omega))]; exact h.lo t ht
  · rw [hs.cell (by omega) (hn _ (by omega))]; exact h.hi t ht
  · rw [hs.cell (by omega) (hn _ (by omega))]; exact h.takes t ht

theorem Same.grown {w w' : World} {n : Nat} {os : Array Obj} (h : w' = Sort.grow (w.drewN n) os) : Same [] w w' := by
  subst h
  refine ⟨rfl, rfl, rfl, by simp [Sort.grow, World.drewN], fun k hk _ => ?_⟩
  show (w.heap ++ os)[k]? = w.heap[k]?
  rw [Array.getElem?_append_left hk]

/-- A slice that is read: n elements of 'size' cells each, told by f. -/
def Sq (w : World) (v : Value) (n size : Nat) (f : Nat → Nat → Value) : Prop :=
  ∃ A cap, v = .slice A n cap ∧ n ≤ cap ∧ cap ≤ maxLen ∧ (0 < n → ∃ b off, A = some ⟨b, off, none⟩ ∧ b < w.heap.size ∧ ∀ i j, i < n → j < size → w.cell? ⟨b, off + i * size + j, none⟩ = some (f i j))

theorem Sq.frame {v : Value} {n size : Nat} {f : Nat → Nat → Value} (h : Sq w v n size f) (hs : Same [] w w') : Sq w' v n size f := by
  obtain ⟨A, cap, rfl, h1, h2, h3⟩ := h
  refine ⟨A, cap, rfl, h1, h2, fun hn => ?_⟩
  obtain ⟨b, off, rfl, hb, hc⟩ := h3 hn
  exact ⟨b, off, rfl, Nat.lt_of_lt_of_le hb hs.size, fun i j hi hj => by rw [hs.cell hb (by simp)]; exact hc i j hi hj⟩

theorem Sq.congr {v : Value} {n size : Nat} {f g : Nat → Nat → Value} (h : Sq w v n size f) (he : ∀ i j, i < n → j < size → g i j = f i j) : Sq w v n size g := by
  obtain ⟨A, cap, rfl, h1, h2, h3⟩ := h
  refine ⟨A, cap, rfl, h1, h2, fun hn => ?_⟩
  obtain ⟨b, off, rfl, hb, hc⟩ := h3 hn
  exact ⟨b, off, rfl, hb, fun i j hi hj => by rw [he i j hi hj]; exact hc i j hi hj⟩

/-- Instructions, a procedure, code, as they lie in memory. -/
def fI (l : List Cd.In) (i j : Nat) : Value := if j = 0 then .int .u8 (l.getD i ⟨0, 0⟩).op else .int .i64 (l.getD i ⟨0, 0⟩).a
def fW (l : List Int) (i _ : Nat) : Value := .int .u64 (l.getD i 0)
def fS (l : List ByteArray) (i _ : Nat) : Value := .string (l.getD i ByteArray.empty)
def fP (l : List Cd.Pr) (kv : Nat → Value) (i j : Nat) : Value := if j = 0 then .int .i64 (l.getD i ⟨0, []⟩).params else kv i

def RIs (w : World) (v : Value) (l : List Cd.In) : Prop := Sq w v l.length 2 (fI l)
def RPr (w : World) (v : Value) (p : Cd.Pr) : Prop := ∃ k, v = .agg #[.int .i64 p.params, k] ∧ RIs w k p.code
def RPs (w : World) (v : Value) (l : List Cd.Pr) : Prop := ∃ kv : Nat → Value, Sq w v l.length 2 (fP l kv) ∧ ∀ i, i < l.length → RIs w (kv i) (l.getD i ⟨0, []⟩).code
structure RCoAt (w : World) (cv pv gv : Value) (c : Cd.Co) : Prop where
  consts : Sq w cv c.consts.length 1 (fW c.consts)
  procs : RPs w pv c.procs
  globals : Sq w gv c.globals.length 1 (fS c.globals)
def RCo (w : World) (v : Value) (c : Cd.Co) : Prop := ∃ cv pv gv, v = .agg #[cv, pv, gv] ∧ RCoAt w cv pv gv c

theorem RPs.frame {v : Value} {l : List Cd.Pr} (h : RPs w v l) (hs : Same [] w w') : RPs w' v l := by
  obtain ⟨kv, h1, h2⟩ := h
  exact ⟨kv, h1.frame hs, fun i hi => (h2 i hi).frame hs⟩
theorem RPr.frame {v : Value} {p : Cd.Pr} (h : RPr w v p) (hs : Same [] w w') : RPr w' v p := by
  obtain ⟨k, rfl, h1⟩ := h
  exact ⟨k, rfl, h1.frame hs⟩
theorem RCoAt.frame {cv pv gv : Value} {c : Cd.Co} (h : RCoAt w cv pv gv c) (hs : Same [] w w') : RCoAt w' cv pv gv c := ⟨h.consts.frame hs, h.procs.frame hs, h.globals.frame hs⟩
theorem RCo.frame {v : Value} {c : Cd.Co} (h : RCo w v c) (hs : Same [] w w') : RCo w' v c := by
  obtain ⟨cv, pv, gv, rfl, h1⟩ := h
  exact ⟨cv, pv, gv, rfl, h1.frame hs⟩

/-- What fits into memory: bytes, 64 bits. -/
def in64 (n : Int) : Prop := -9223372036854775808 ≤ n ∧ n ≤ 9223372036854775807
structure WIn (i : Cd.In) : Prop where
  op : 0 ≤ i.op ∧ i.op ≤ 255
  a : in64 i.a
structure WPr (p : Cd.Pr) : Prop where
  params : in64 p.params
  code : ∀ i ∈ p.code, WIn i
structure WCo (c : Cd.Co) : Prop where
  consts : ∀ w ∈ c.consts, 0 ≤ w ∧ w < 18446744073709551616
  globals : ∀ s ∈ c.globals, s.size ≤ 281474976710656
  procs : ∀ p ∈ c.procs, WPr p
end Ck
end Go.Proofs.YtkepcdbogeineaaGreatDoor
