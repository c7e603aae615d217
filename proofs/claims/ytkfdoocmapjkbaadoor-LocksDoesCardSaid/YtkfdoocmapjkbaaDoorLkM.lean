/- Layer 19, the plain side: threads, locks and globals as lists; what each call does with them. -/
import Derived.WalkKit
namespace Go.Proofs.YtkfdoocmapjkbaaDoor
namespace Lk

structure Th where
  en : Bool
  w : Int
  e : Int
  fin : Int
  lk : Int

structure Lo where
  ho : Int
  row : List Int

structure Bk where
  ths : List Th
  lks : List Lo
  gl : List Int

def t0 : Th := ⟨false, 0, 0, 0, 0⟩
def l0 : Lo := ⟨0, []⟩

def Th.waits (t : Th) : Bool := t.fin != 0 || t.lk != 0
def Th.goes (t : Th) : Bool := !t.en && !t.waits

def Bk.th (m : Bk) (n : Int) : Th := m.ths.getD (n.toNat - 1) t0
def Bk.is (m : Bk) (n : Int) : Bool := decide (1 ≤ n ∧ n ≤ m.ths.length)
def Bk.lo (m : Bk) (l : Int) : Lo := m.lks.getD l.toNat l0
def Bk.isL (m : Bk) (l : Int) : Bool := decide (0 ≤ l ∧ l < m.lks.length)
def Bk.setT (m : Bk) (n : Int) (t : Th) : Bk := { m with ths := m.ths.set (n.toNat - 1) t }
def Bk.setL (m : Bk) (l : Int) (x : Lo) : Bk := { m with lks := m.lks.set l.toNat x }

def start (m : Bk) : Int × Int × Bk := if m.ths.length = 8 then (0, 194, m) else (m.ths.length + 1, 0, { m with ths := m.ths ++ [t0] })

/-- A lock is handed on: to whom (0: to nobody). -/
def handTo (m : Bk) (l : Int) : Int := match (m.lo l).row with
  | [] => 0
  | t :: _ => t
def hand (m : Bk) (l : Int) : Bk := match (m.lo l).row with
  | [] => m.setL l ⟨0, []⟩
  | t :: r => (m.setL l ⟨t, r⟩).setT t { m.th t with lk := 0 }

/-- The first k locks: those that n holds are handed on; to whom. -/
def handAll (m : Bk) (n : Int) : Nat → Bk × List Int
  | 0 => (m, [])
  | k + 1 =>
    let r := handAll m n k
    if (r.1.lo k).ho = n then (hand r.1 k, if handTo r.1 k != 0 then r.2 ++ [handTo r.1 k] else r.2) else r

/-- The first k threads: those that wait for n's end go. -/
def freeT (n : Int) (t : Th) : Th := if t.fin = n then { t with fin := 0 } else t
def joiners (l : List Th) (n : Int) (k : Nat) : List Int := ((List.range k).filter (fun i => (l.getD i t0).fin == n)).map (fun (i : Nat) => (i : Int) + 1)

def ended (m : Bk) (n w e : Int) : Bk := m.setT n ⟨true, if e = 0 then w else 0, e, (m.th n).fin, (m.th n).lk⟩
def endB (m : Bk) (n w e : Int) : Bk × List Int := handAll (ended m n w e) n m.lks.length
/-- Who goes behind an end, rising. -/
def endOut (m : Bk) (n w e : Int) : List Int :=
  (((List.range m.ths.length).map (fun (i : Nat) => (i : Int) + 1)).filter (fun t => (endB m n w e).2.contains t || ((endB m n w e).1.th t).fin == n))
def endM (m : Bk) (n w e : Int) : Bk := { (endB m n w e).1 with ths := (endB m n w e).1.ths.map (freeT n) }

def endF (m : Bk) (n w e : Int) : List Int × Int × Bk :=
  if m.is n = false then ([], 190, m) else if (m.th n).goes = false then ([], 192, m) else (endOut m n w e, 0, endM m n w e)

def joinF (m : Bk) (n of_ : Int) : Int × Bool × Int × Bk :=
  if m.is n = false ∨ m.is of_ = false then (0, false, 190, m)
  else if (m.th n).goes = false then (0, false, 192, m)
  else if n = of_ then (0, false, 193, m)
  else if (m.th of_).en = true then ((m.th of_).w, true, (m.th of_).e, m)
  else (0, false, 0, m.setT n { m.th n with fin := of_ })

def askF (m : Bk) (n l : Int) : Int :=
  if m.is n = false ∨ m.isL l = false then 190 else if (m.th n).goes = false then 192 else 0

def lockF (m : Bk) (n l : Int) : Bool × Int × Bk :=
  if askF m n l ≠ 0 then (false, askF m n l, m)
  else if (m.lo l).ho = n then (false, 191, m)
  else if (m.lo l).ho = 0 then (true, 0, m.setL l { m.lo l with ho := n })
  else (false, 0, (m.setL l { m.lo l with row := (m.lo l).row ++ [n] }).setT n { m.th n with lk := l + 1 })

def unlockF (m : Bk) (n l : Int) : Int × Int × Bk :=
  if askF m n l ≠ 0 then (0, askF m n l, m)
  else if (m.lo l).ho ≠ n then (0, 192, m)
  else (handTo m l, 0, hand m l)

def globalF (m : Bk) (i : Int) : Int × Int := if 0 ≤ i ∧ i < m.gl.length then (m.gl.getD i.toNat 0, 0) else (0, 1)
def setGlobalF (m : Bk) (i w : Int) : Int × Int × Bk :=
  if 0 ≤ i ∧ i < m.gl.length then (m.gl.getD i.toNat 0, 0, { m with gl := m.gl.set i.toNat w }) else (0, 1, m)
def waitsF (m : Bk) (n : Int) : Bool := m.is n && (m.th n).waits
def holderF (m : Bk) (l : Int) : Int := if m.isL l then (m.lo l).ho else 0

def next (m : Bk) (n : Int) : Int := if (m.th n).lk != 0 then (m.lo ((m.th n).lk - 1)).ho else (m.th n).fin
def chase (m : Bk) (i : Int) : Nat → Int → Int
  | 0, at_ => at_
  | k + 1, at_ => if at_ = 0 ∨ at_ = i then at_ else chase m i k (next m at_)
def stuckI (m : Bk) (i : Int) : Bool := chase m i m.ths.length (next m i) == i
def stuckF (m : Bk) : List Int := ((List.range m.ths.length).map (fun (i : Nat) => (i : Int) + 1)).filter (stuckI m)

/-- What holds at all times. -/
structure Ok (m : Bk) : Prop where
  nt : m.ths.length ≤ 8
  nl : m.lks.length ≤ 8
  ng : m.gl.length ≤ 64
  rowNo : ∀ l, m.isL l = true → (m.lo l).row.Nodup
  rowIn : ∀ l t, m.isL l = true → t ∈ (m.lo l).row → m.is t = true ∧ (m.th t).lk = l + 1
  ho : ∀ l, m.isL l = true → (m.lo l).ho = 0 ∧ (m.lo l).row = [] ∨ m.is (m.lo l).ho = true ∧ (m.th (m.lo l).ho).en = false
  lk : ∀ t, m.is t = true → (m.th t).lk = 0 ∨ m.isL ((m.th t).lk - 1) = true ∧ t ∈ (m.lo ((m.th t).lk - 1)).row ∧ (m.th t).fin = 0 ∧ (m.th t).en = false
  fin : ∀ t, m.is t = true → (m.th t).fin = 0 ∨ m.is (m.th t).fin = true ∧ (m.th (m.th t).fin).en = false ∧ (m.th t).lk = 0 ∧ (m.th t).en = false

end Lk
end Go.Proofs.YtkfdoocmapjkbaaDoor
