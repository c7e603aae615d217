/- Layer 8, the plain side: how code is written, how a text is read. -/
import Derived.Test.YticaipedpcmhfaaDoorCdM
import Derived.Lib.ItoaNum
import Derived.Lib.ParseIntB
import Derived.Lib.IndexMore
import Derived.Lib.Strings
namespace Go.Proofs.YticaipedpcmhfaaDoor
namespace Cd

def calledL : List (List UInt8) := [[],
  [99, 111, 110, 115, 116, 32],
  [118, 97, 114, 32],
  [115, 101, 116, 118, 97, 114, 32],
  [103, 108, 111, 98, 97, 108, 32],
  [115, 101, 116, 103, 108, 111, 98, 97, 108, 32],
  [99, 108, 111, 115, 117, 114, 101, 32],
  [112, 111, 112],
  [106, 117, 109, 112, 32],
  [98, 114, 97, 110, 99, 104, 32],
  [99, 97, 108, 108, 32],
  [116, 97, 105, 108, 32],
  [114, 101, 116, 117, 114, 110],
  [112, 114, 105, 109, 32],
  [115, 112, 97, 119, 110],
  [106, 111, 105, 110],
  [108, 111, 99, 107],
  [117, 110, 108, 111, 99, 107],
  [121, 105, 101, 108, 100]]
def tagL : List (List UInt8) := [[],
  [110, 105, 108],
  [102, 97, 108, 115, 101],
  [116, 114, 117, 101],
  [110, 111, 110, 101],
  [105, 110, 116, 32],
  [115, 121, 109, 98, 111, 108, 32],
  [112, 114, 105, 109, 32]]
def constB : List UInt8 := [99, 111, 110, 115, 116, 32]
def globalB : List UInt8 := [103, 108, 111, 98, 97, 108, 32]
def procB : List UInt8 := [112, 114, 111, 99, 32]

/-- Does it end with a blank? -/
def sp (l : List UInt8) : Bool := Lib.hasSuffix l [32]
def nameI (op : Int) : List UInt8 := calledL.getD op.toNat []
def nameT (t : Int) : List UInt8 := tagL.getD t.toNat []
def numd (s : List UInt8) (n : Int) : List UInt8 := if sp s then s ++ Lib.itoa n else s
/-- Lines, without their ends. -/
def instrT (i : In) : List UInt8 := numd (32 :: nameI i.op) i.a
def constT (w : Int) : List UInt8 := numd (constB ++ nameT (wordT w)) (wordN w)
def globalT (s : ByteArray) : List UInt8 := globalB ++ s.data.toList
def headT (p : Pr) : List UInt8 := procB ++ Lib.itoa p.params
def joinL (ls : List (List UInt8)) : List UInt8 := ls.flatMap (fun l => l ++ [10])
def procT (p : Pr) : List UInt8 := joinL [headT p] ++ joinL (p.code.map instrT)
def textT (c : Co) : List UInt8 := joinL (c.consts.map constT) ++ (joinL (c.globals.map globalT) ++ c.procs.flatMap procT)

/-- A number as it is written; a place. -/
def longT (s : List UInt8) : Option Int := match Lib.parseIntB 64 s with
  | .ok n => if Lib.itoa n = s then some n else none
  | _ => none
def placeT (s : List UInt8) : Option Int := match longT s with
  | some n => if 0 ≤ n ∧ n ≤ 2147483647 then some n else none
  | none => none
def wordOf (t n : Int) : Int := (n * 16 + t) % 18446744073709551616
/-- words.Make. -/
def makeW (t n : Int) : Option Int := if 1 ≤ t ∧ t ≤ 8 ∧ may t n = true then some (wordOf t n) else none

def constFrom : List Nat → List UInt8 → Option Int
  | [], _ => none
  | t :: ts, s =>
    if sp (tagL.getD t []) then
      if Lib.hasPrefix s (tagL.getD t []) then (match longT (s.drop (tagL.getD t []).length) with | some n => makeW t n | none => none)
      else constFrom ts s
    else if s = tagL.getD t [] then some (wordOf t 0) else constFrom ts s
def constR (s : List UInt8) : Option Int := constFrom [1, 2, 3, 4, 5, 6, 7] s

def instrFrom : List Nat → List UInt8 → Option In
  | [], _ => none
  | o :: os, s =>
    if sp (calledL.getD o []) then
      if Lib.hasPrefix s (calledL.getD o []) then (match placeT (s.drop (calledL.getD o []).length) with | some n => some ⟨o, n⟩ | none => none)
      else instrFrom os s
    else if s = calledL.getD o [] then some ⟨o, 0⟩ else instrFrom os s
def instrR (s : List UInt8) : Option In := instrFrom [1, 2, 3, 4, 5, 6, 7, 8, 9, 10, 11, 12, 13, 14, 15, 16, 17, 18] s

/-- The last procedure has an instruction more. -/
def addI : List Pr → In → List Pr
  | [], _ => []
  | [p], i => [⟨p.params, p.code ++ [i]⟩]
  | p :: q :: l, i => p :: addI (q :: l) i

/-- A line more. -/
def lineR (c : Co) (s : List UInt8) : Option Co :=
  if Lib.hasPrefix s [32] then (match instrR (s.drop 1) with
    | some i => if c.procs = [] then none else some { c with procs := addI c.procs i }
    | none => none)
  else if Lib.hasPrefix s constB then (match constR (s.drop constB.length) with
    | some w => if c.globals = [] ∧ c.procs = [] then some { c with consts := c.consts ++ [w] } else none
    | none => none)
  else if Lib.hasPrefix s globalB then (if c.procs = [] then some { c with globals := c.globals ++ [⟨(s.drop globalB.length).toArray⟩] } else none)
  else if Lib.hasPrefix s procB then (match placeT (s.drop procB.length) with
    | some n => some { c with procs := c.procs ++ [⟨n, []⟩] }
    | none => none)
  else none

/-- All lines: the code, or the line at which it ends. -/
def readT : Nat → List UInt8 → Co → Nat → Co × Bool × Nat
  | 0, _, c, at_ => (c, true, at_)
  | k + 1, s, c, at_ =>
    if s = [] then (c, true, at_)
    else if (Lib.cut s [10]).2.2 = false then (c, false, at_ + 1)
    else match lineR c (Lib.cut s [10]).1 with
      | none => (c, false, at_ + 1)
      | some d => readT k (Lib.cut s [10]).2.1 d (at_ + 1)

def none_ : Co := ⟨[], [], []⟩
def parseT (sym : ByteArray → Bool) (s : List UInt8) : Co × Int × Nat :=
  match readT (s.length + 1) s none_ 0 with
  | (c, true, _) => if (check sym c).1 ≠ 0 then (none_, (check sym c).1, 0) else (c, 0, 0)
  | (_, false, at_) => (none_, 81, at_)
end Cd
end Go.Proofs.YticaipedpcmhfaaDoor

