/- Layer 5, the plain side: what a symbol is. -/
import Derived.Lib.Strings
namespace Go.Proofs.YticaipedpcmhfaaDoor
namespace Cd
def isWordN (n : Nat) : Bool := decide (33 ≤ n) && (decide (n ≤ 126) && (decide (n ≠ 40) && (decide (n ≠ 41) && (decide (n ≠ 39) && (decide (n ≠ 59) && decide (n ≠ 34))))))
def isDigN (n : Nat) : Bool := decide (48 ≤ n) && decide (n ≤ 57)
/-- lex.digits -/
def allDig (l : List UInt8) : Bool := l.all (fun b => isDigN b.toNat) && !l.isEmpty
def bare (l : List UInt8) : List UInt8 := Lib.trimPrefix l [45]
/-- Does lex.word answer a symbol? -/
def wordSym (l : List UInt8) : Bool :=
  decide (l ≠ [46]) && (decide (l ≠ [35, 116]) && (decide (l ≠ [35, 102]) && (!allDig (bare l) && (!(decide ((l.getD 0 0).toNat = 35) || ((!(bare l).isEmpty && isDigN ((bare l).getD 0 0).toNat) || decide (32 < l.length)))))))
def isSym (l : List UInt8) : Bool := l.all (fun b => isWordN b.toNat) && (!l.isEmpty && wordSym l)
def sym (s : ByteArray) : Bool := isSym s.data.toList
end Cd
end Go.Proofs.YticaipedpcmhfaaDoor
