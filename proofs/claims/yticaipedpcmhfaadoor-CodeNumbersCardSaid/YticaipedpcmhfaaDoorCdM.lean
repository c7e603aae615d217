/- Layer 8, the plain side: instructions, procedures, code; what Check looks at. Written ahead of any walk. -/
import Derived.WalkKit
import Derived.Lib.SlicesS
namespace Go.Proofs.YticaipedpcmhfaaDoor
namespace Cd

structure In where
  op : Int
  a : Int
structure Pr where
  params : Int
  code : List In
structure Co where
  consts : List Int
  globals : List ByteArray
  procs : List Pr

/-- words.Of, of a word as a number from 0 to 2^64 - 1: its tag, its number, whether it is one. -/
def signed (w : Int) : Int := if w < 9223372036854775808 then w else w - 18446744073709551616
def least (t : Int) : Int := if t = 5 then -576460752303423488 else if t = 7 then 1 else 0
def most (t : Int) : Int := if t = 5 then 576460752303423487 else if t = 6 then 2147483647 else if t = 7 then 22 else if t = 8 then 2147483647 else 0
def may (t n : Int) : Bool := decide (least t ≤ n ∧ n ≤ most t)
def wordT (w : Int) : Int := w % 16
def wordN (w : Int) : Int := signed w / 16
def isWord (w : Int) : Bool := decide (1 ≤ wordT w ∧ wordT w ≤ 8) && may (wordT w) (wordN w)

def takesL : List Int := [0, 2, 1, 1, 2, 2, 1, 1, 2, 3, 2, 2, 1, 1, 1, 2, 2, 2, 2, 2, 2, 1, 1]
def takes (a : Int) : Int := takesL.getD a.toNat 0

/-- How many words an instruction takes, how many it puts. -/
def took (i : In) : Int :=
  if i.op = 1 ∨ i.op = 2 ∨ i.op = 4 ∨ i.op = 6 ∨ i.op = 18 then 0
  else if i.op = 3 ∨ i.op = 5 ∨ i.op = 14 ∨ i.op = 15 ∨ i.op = 16 ∨ i.op = 17 then 1
  else if i.op = 7 ∨ i.op = 9 ∨ i.op = 12 then 1
  else if i.op = 10 ∨ i.op = 11 then i.a + 1
  else if i.op = 13 then takes i.a else 0
def puts (i : In) : Int :=
  if i.op = 1 ∨ i.op = 2 ∨ i.op = 4 ∨ i.op = 6 ∨ i.op = 18 then 1
  else if i.op = 3 ∨ i.op = 5 ∨ i.op = 14 ∨ i.op = 15 ∨ i.op = 16 ∨ i.op = 17 then 1
  else if i.op = 10 ∨ i.op = 13 then 1 else 0

/-- What A is at least and at most; whether there is such an Op. -/
def lo (op : Int) : Int := if op = 13 then 1 else 0
def hi (c : Co) (op : Int) (many : Nat) : Int :=
  if op = 1 then c.consts.length - 1 else if op = 4 ∨ op = 5 then c.globals.length - 1 else if op = 6 then c.procs.length - 1
  else if op = 2 ∨ op = 3 ∨ op = 10 ∨ op = 11 then 256 else if op = 8 ∨ op = 9 then many - 1 else if op = 13 then 22 else 0
def isOp (op : Int) : Bool := decide (1 ≤ op ∧ op ≤ 18)
def fits (c : Co) (many : Nat) (i : In) : Bool := isOp i.op && decide (lo i.op ≤ i.a ∧ i.a ≤ hi c i.op many)

/-- What is known of a place: ways (0, 1, 2), depth. -/
structure De where
  ways : Nat
  deep : Int

/-- A way comes to a place. -/
def comes (s : List De × List Nat) (at_ : Nat) (d : De) : List De × List Nat :=
  let x := s.1.getD at_ ⟨2, 0⟩
  if x.ways = 0 then (s.1.set at_ d, s.2 ++ [at_])
  else if x.ways = 2 ∨ d.ways = 1 ∧ d.deep = x.deep then s
  else (s.1.set at_ ⟨2, x.deep⟩, s.2 ++ [at_])

/-- The last place of those to do is done. -/
def round (code : List In) (s : List De × List Nat) : List De × List Nat :=
  let at_ := s.2.getLastD 0
  let i := code.getD at_ ⟨0, 0⟩
  let d := s.1.getD at_ ⟨2, 0⟩
  let d' : De := ⟨d.ways, d.deep + (puts i - took i)⟩
  let s' := (s.1, s.2.dropLast)
  if i.op = 8 then comes s' i.a.toNat d'
  else if i.op = 12 ∨ i.op = 11 then s'
  else if i.op = 9 then comes (comes s' i.a.toNat d') (at_ + 1) d'
  else comes s' (at_ + 1) d'

def open_ (l : List De) : Nat := (l.map (fun d => 2 - d.ways)).sum
def weight (s : List De × List Nat) : Nat := 2 * open_ s.1 + s.2.length

theorem open_set (l : List De) (i : Nat) (x : De) (h : i < l.length) (hx : (l.getD i ⟨2, 0⟩).ways < x.ways) (h2 : x.ways ≤ 2) : open_ (l.set i x) + 1 ≤ open_ l := by
  induction l generalizing i with
  | nil => simp at h
  | cons a l ih =>
    cases i with
    | zero =>
      simp only [List.getD_cons_zero] at hx
      simp only [open_, List.set_cons_zero, List.map_cons, List.sum_cons]
      omega
    | succ i =>
      have := ih i (by simpa using h) (by simpa using hx)
      simp only [open_, List.set_cons_succ, List.map_cons, List.sum_cons] at this ⊢
      omega

/-- To come to a place weighs nothing more. -/
theorem comes_weight (s : List De × List Nat) (at_ : Nat) (d : De) (h : at_ < s.1.length) (hd : 1 ≤ d.ways ∧ d.ways ≤ 2) (hl : ∀ i, (s.1.getD i ⟨2, 0⟩).ways ≤ 2) : weight (comes s at_ d) ≤ weight s := by
  unfold comes
  dsimp only
  split
  · rename_i h0
    have := open_set s.1 at_ d h (by omega) hd.2
    simp only [weight, List.length_append, List.length_singleton]
    omega
  · split
    · exact Nat.le_refl _
    · rename_i h0 h1
      have hlt := hl at_
      have := open_set s.1 at_ ⟨2, (s.1.getD at_ ⟨2, 0⟩).deep⟩ h (by show _ < 2; omega) (Nat.le_refl _)
      simp only [weight, List.length_append, List.length_singleton]
      omega

def start (n : Nat) : List De × List Nat := ((⟨1, 0⟩ :: List.replicate (n - 1) ⟨0, 0⟩), [0])
def rounds (code : List In) : Nat → List De × List Nat → List De × List Nat
  | 0, s => s
  | k + 1, s => if s.2 = [] then s else rounds code k (round code s)
/-- What is known of each place in the end. -/
def depths (code : List In) : List De := (rounds code (4 * code.length + 2) (start code.length)).1

/-- Where a procedure may not be, and why: the error, the place. -/
def badAt (c : Co) (p : Pr) : Int × Nat :=
  if 4096 < p.code.length then (2, 0)
  else if p.params < 0 ∨ 256 < p.params ∨ p.code = [] then (80, 0)
  else match p.code.findIdx? (fun i => !fits c p.code.length i) with
    | some k => (80, k)
    | none =>
      let last := (p.code.getLastD ⟨0, 0⟩).op
      if last ≠ 12 ∧ last ≠ 11 ∧ last ≠ 8 then (80, p.code.length - 1)
      else match (List.range p.code.length).find? (fun k =>
          let d := (depths p.code).getD k ⟨2, 0⟩
          d.ways != 1 || decide (d.deep < took (p.code.getD k ⟨0, 0⟩)) || decide (256 ≤ d.deep)) with
        | some k => (80, k)
        | none => (0, 0)

/-- May constants and globals be? (sym: is a text a symbol?) -/
def named (sym : ByteArray → Bool) (c : Co) : Bool :=
  c.consts.all (fun w => isWord w && wordT w != 8) && c.globals.all sym && (List.range c.globals.length).all (fun i => !Lib.containsS (c.globals.take i) (c.globals.getD i ByteArray.empty))

def check (sym : ByteArray → Bool) (c : Co) : Int × Nat × Nat :=
  if 256 < c.procs.length ∨ 1024 < c.consts.length ∨ 64 < c.globals.length then (2, 0, 0)
  else if c.procs = [] ∨ named sym c = false then (80, 0, 0)
  else match (List.range c.procs.length).find? (fun k => (badAt c (c.procs.getD k ⟨0, []⟩)).1 != 0) with
    | some k => ((badAt c (c.procs.getD k ⟨0, []⟩)).1, k, (badAt c (c.procs.getD k ⟨0, []⟩)).2)
    | none => (0, 0, 0)
end Cd
end Go.Proofs.YticaipedpcmhfaaDoor
