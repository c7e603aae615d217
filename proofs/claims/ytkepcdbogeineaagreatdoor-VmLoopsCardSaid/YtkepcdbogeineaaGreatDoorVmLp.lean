/- The law's loops: what each step does. -/
import Derived.Test.YtkepcdbogeineaaGreatDoorVmIg
import Derived.Test.YtkepcdbogeineaaGreatDoorVmWk
namespace Go.Proofs.YtkepcdbogeineaaGreatDoor
open Go.RowKit Hp Ck
namespace Vm
variable {w w' w1 W W' : World} {k : Kx} {th th' : Th} {FT G G1 : List Nat} {t t' : Toy}

def loopC (b : Bool) : Cd.Co := ⟨[], [⟨#[102]⟩], [⟨0, [⟨6, 1⟩, ⟨5, 0⟩, ⟨7, 0⟩, ⟨4, 0⟩, ⟨10, 0⟩, ⟨12, 0⟩]⟩, ⟨0, if b then [⟨4, 0⟩, ⟨11, 0⟩] else [⟨4, 0⟩, ⟨10, 0⟩, ⟨12, 0⟩]⟩]⟩
def jumpC : Cd.Co := ⟨[], [], [⟨0, [⟨8, 0⟩]⟩]⟩
theorem loop_e (b : Bool) : newE (loopC b) 0 = 0 := by cases b <;> kernel_rfl
theorem jump_e : newE jumpC 0 = 0 := by kernel_rfl
def one : Int := mkW 5 1
def rf0 : Int := mkW 8 0
def non : Int := mkW 4 0
def cl : Cel := ⟨3, 0, one, nil1⟩
def F0 (a : Nat) : Fr := ⟨0, a, nil1, 0⟩
def F1 (a : Nat) : Fr := ⟨1, a, nil1, 0⟩
def L (b : Bool) (fr : List Fr) (st : List Int) (ph : Nat) (nm : Int) : Th := ⟨loopC b, fr, st, ph, nm, none, false, false, 0, 0⟩
def Y (cs : List Cel) (gl : List Int) (calls kinds : Int) (hd : List Int) : Toy := ⟨0, 9, cs, gl, [], 0, calls, kinds, hd, false⟩

theorem top_snoc {c st ph nm rq rf en wd er} (l : List Fr) (f : Fr) : (⟨c, l ++ [f], st, ph, nm, rq, rf, en, wd, er⟩ : Th).top = f := by simp [Th.top]
theorem goto_snoc {c st ph nm rq rf en wd er} (l : List Fr) (f : Fr) (a : Nat) : (⟨c, l ++ [f], st, ph, nm, rq, rf, en, wd, er⟩ : Th).goto a = ⟨c, l ++ [{ f with at_ := a }], st, ph, nm, rq, rf, en, wd, er⟩ := by
  unfold Th.goto
  rw [top_snoc]
  simp
theorem next_snoc {c st ph nm rq rf en wd er} (l : List Fr) (f : Fr) : (⟨c, l ++ [f], st, ph, nm, rq, rf, en, wd, er⟩ : Th).next = ⟨c, l ++ [{ f with at_ := f.at_ + 1 }], st, 0, nm, rq, rf, en, wd, er⟩ := by
  unfold Th.next
  rw [top_snoc, goto_snoc]
theorem value_snoc {c st ph nm rq rf en wd er} (l : List Fr) (f : Fr) (n : Nat) (x : Int) : (⟨c, l ++ [f], st, ph, nm, rq, rf, en, wd, er⟩ : Th).value n x = ⟨c, l ++ [{ f with at_ := f.at_ + 1 }], st.take (st.length - n) ++ [x], 0, nm, rq, rf, en, wd, er⟩ := by
  unfold Th.value
  exact next_snoc l f

theorem ne_snoc {c st ph nm rq rf en wd er} (l : List Fr) (f : Fr) : (⟨c, l ++ [f], st, ph, nm, rq, rf, en, wd, er⟩ : Th).fr ≠ [] := by simp

theorem Y_fine (cs : List Cel) (gl : List Int) {c κ : Int} {hd : List Int} (hl : cs.length ≤ 9) (hc : 0 ≤ c ∧ c ≤ 1000) (hk : 0 ≤ κ ∧ κ ≤ 3000) : (Y cs gl c κ hd).Fine := ⟨by simp only [Y]; omega, by simp only [Y]; omega, by simp only [Y]; omega, by simp only [Y]; omega⟩

variable {b : Bool} {l : List Fr} {f : Fr} {c κ : Int} {nm : Int}

/-- What Meets asks of a place. -/
theorem place {st : List Int} {ph : Nat} (hp : f.proc < 2) (ha : f.at_ < ((loopC b).procs.getD f.proc ⟨0, []⟩).code.length) : (L b (l ++ [f]) st ph nm).top.proc < (L b (l ++ [f]) st ph nm).c.procs.length ∧ (L b (l ++ [f]) st ph nm).top.at_ < ((L b (l ++ [f]) st ph nm).c.procs.getD (L b (l ++ [f]) st ph nm).top.proc ⟨0, []⟩).code.length ∧ (L b (l ++ [f]) st ph nm).ins = ((loopC b).procs.getD f.proc ⟨0, []⟩).code.getD f.at_ ⟨0, 0⟩ := by
  have ht : (L b (l ++ [f]) st ph nm).top = f := top_snoc l f
  refine ⟨by rw [ht]; exact hp, by rw [ht]; exact ha, ?_⟩
  unfold Th.ins
  rw [ht]
  rfl

/-- A global is pushed. -/
theorem mGlobal (hp : f.proc < 2) (ha : f.at_ < ((loopC b).procs.getD f.proc ⟨0, []⟩).code.length) (hi : ((loopC b).procs.getD f.proc ⟨0, []⟩).code.getD f.at_ ⟨0, 0⟩ = ⟨4, 0⟩) (hc : 0 ≤ c ∧ c ≤ 1000) (hk : 0 ≤ κ ∧ κ ≤ 3000) (hd : List Int) (hat : f.at_ ≤ 1000000) :
    Meets k (L b (l ++ [f]) [] 0 nm) (Y [cl] [rf0] c κ hd) (.did { what := 7, other := 0, old := rf0, new := rf0 } [] (L b (l ++ [{ f with at_ := f.at_ + 1 }]) [rf0] 0 nm) (Y [cl] [rf0] (c + 1) κ [])) := by
  obtain ⟨h1, h2, h3⟩ := place (l := l) (st := []) (ph := 0) (nm := nm) hp ha
  refine Meets.of (op := 4) (a := 0) (ne_snoc l f) h1 h2 (h3.trans hi) (by decide) rfl (fun w FT G hs => ?_)
  have h := global_any hs (Y_fine _ _ (by decide) hc hk) 0 (by simp [Y]) (by simp [L]) (ne_snoc l f) (by rw [show (L b (l ++ [f]) [] 0 nm).top = f from top_snoc l f]; exact hat)
  have e : globalM 0 (L b (l ++ [f]) [] 0 nm) (Y [cl] [rf0] c κ hd) = .did { what := 7, other := 0, old := rf0, new := rf0 } [] ((L b (l ++ [f]) [] 0 nm).value 0 rf0) (Y [cl] [rf0] (c + 1) κ []) := by kernel_rfl
  rw [e, show (L b (l ++ [f]) [] 0 nm).value 0 rf0 = L b (l ++ [{ f with at_ := f.at_ + 1 }]) [rf0] 0 nm from value_snoc l f 0 rf0] at h
  exact h

theorem rf0_in : 0 ≤ rf0 ∧ rf0 < 18446744073709551616 := mkW_in _ _
theorem one_in : 0 ≤ one ∧ one < 18446744073709551616 := mkW_in _ _

/-- applies, its first access. -/
theorem ap0 {st0 : List Int} (hst : st0 = [rf0]) (hnm : 0 ≤ nm ∧ nm < 18446744073709551616) (fr : List Fr) (hd : List Int) (hc : 0 ≤ c ∧ c ≤ 1000) (hk : 0 ≤ κ ∧ κ ≤ 3000) (w : World) (FT G : List Nat) (hs : Sit k w (L b fr st0 0 nm) (Y [cl] [rf0] c κ hd) FT G) :
    Calls Tryz.prog 83 #[.pointer (some ⟨k.T, 0, none⟩), toyV k.H, .int .i64 ((0 : Nat) : Int)] w (ApP k w FT G false (.did { what := 1, cell := 0, field := 0, old := one, new := one } [] (L b fr [rf0] 1 one) (Y [cl] [rf0] (c + 1) (κ + 1) []))) := by
  subst hst
  refine applies1_any hs _ 0 (by simp [L]) (by simp [L]) (fun W F2 G2 h2 => ?_) false (fun ev l th2 t2 he => ?_)
  · have h := enters_any h2 (Y_fine _ _ (by decide) hc hk) rf0 rf0_in 0 hnm (by simp [L]) (by simp [Y]; omega)
    have e : entersM rf0 0 (L b fr [rf0] 0 nm) (Y [cl] [rf0] c κ hd) = .did { what := 1, cell := 0, field := 0, old := one, new := one } [] (L b fr [rf0] 1 one) (Y [cl] [rf0] (c + 1) (κ + 1) []) := by kernel_rfl
    rw [e] at h
    exact h
  · injection he with _ _ he _
    subst he
    simp [L]
/-- applies, its second access. -/
theorem ap1 (fr : List Fr) (hd : List Int) (hc : 0 ≤ c ∧ c ≤ 1000) (hk : 0 ≤ κ ∧ κ ≤ 3000) (w : World) (FT G : List Nat) (hs : Sit k w (L b fr [rf0] 1 one) (Y [cl] [rf0] c κ hd) FT G) :
    Calls Tryz.prog 83 #[.pointer (some ⟨k.T, 0, none⟩), toyV k.H, .int .i64 ((0 : Nat) : Int)] w (ApP k w FT G true (.did { what := 1, cell := 0, field := 1, old := nil1, new := nil1 } [] (L b fr [rf0, nil1] 2 one) (Y [cl] [rf0] (c + 1) (κ + 1) []))) := by
  refine applies1_any hs _ 0 (by simp [L]) (by simp [L]) (fun W F2 G2 h2 => ?_) true (fun ev l th2 t2 he => ?_)
  · have h := enters_any h2 (Y_fine _ _ (by decide) hc hk) rf0 rf0_in 0 one_in (by simp [L]) (by simp [Y]; omega)
    have e : entersM rf0 0 (L b fr [rf0] 1 one) (Y [cl] [rf0] c κ hd) = .did { what := 1, cell := 0, field := 1, old := nil1, new := nil1 } [] (L b fr [rf0, nil1] 2 one) (Y [cl] [rf0] (c + 1) (κ + 1) []) := by
      cases b <;> kernel_rfl
    rw [e] at h
    exact h
  · injection he with _ _ he _
    subst he
    simp [L]

/-- A call's first access; its second. -/
theorem mCall0 (hp : f.proc < 2) (ha : f.at_ < ((loopC b).procs.getD f.proc ⟨0, []⟩).code.length) (hi : ((loopC b).procs.getD f.proc ⟨0, []⟩).code.getD f.at_ ⟨0, 0⟩ = ⟨10, 0⟩) (hc : 0 ≤ c ∧ c ≤ 1000) (hk : 0 ≤ κ ∧ κ ≤ 2000) (hnm : 0 ≤ nm ∧ nm < 18446744073709551616) (hl : l.length < 63) :
    Meets k (L b (l ++ [f]) [rf0] 0 nm) (Y [cl] [rf0] c κ []) (.did { what := 1, cell := 0, field := 0, old := one, new := one } [] (L b (l ++ [f]) [rf0] 1 one) (Y [cl] [rf0] (c + 1) (κ + 1 + 1) [])) := by
  obtain ⟨h1, h2, h3⟩ := place (l := l) (st := [rf0]) (ph := 0) (nm := nm) hp ha
  refine Meets.of (op := 10) (a := 0) (ne_snoc l f) h1 h2 (h3.trans hi) (by decide) rfl (fun w FT G hs => ?_)
  have h := call_any hs (Y_fine _ _ (by decide) hc (by omega)) (.did { what := 1, cell := 0, field := 0, old := one, new := one } [] (L b (l ++ [f]) [rf0] 1 one) (Y [cl] [rf0] (c + 1) (κ + 1 + 1) [])) false 0 (by simp [L]) rf0_in (by simp [L]; omega) (fun W F2 G2 h2 => ap0 rfl hnm (l ++ [f]) [] hc (by omega) W F2 G2 h2) (fun _ _ => by simp) (fun h => by cases h)
  have e : callM 0 (L b (l ++ [f]) [rf0] 0 nm) (Y [cl] [rf0] c κ []) (.did { what := 1, cell := 0, field := 0, old := one, new := one } [] (L b (l ++ [f]) [rf0] 1 one) (Y [cl] [rf0] (c + 1) (κ + 1 + 1) [])) false = .did { what := 1, cell := 0, field := 0, old := one, new := one } [] (L b (l ++ [f]) [rf0] 1 one) (Y [cl] [rf0] (c + 1) (κ + 1 + 1) []) := by
    unfold callM
    rw [if_pos (show (L b (l ++ [f]) [rf0] 0 nm).phase = 0 from rfl), if_pos (show (Y [cl] [rf0] c κ []).kinded ((L b (l ++ [f]) [rf0] 0 nm).at 0) 3 = true from by kernel_rfl), if_pos (show (L b (l ++ [f]) [rf0] 0 nm).fr.length < 64 from by simp [L]; omega)]
    rfl
  rw [e] at h
  exact h
/-- Too many frames. -/
theorem mCallF (hp : f.proc < 2) (ha : f.at_ < ((loopC b).procs.getD f.proc ⟨0, []⟩).code.length) (hi : ((loopC b).procs.getD f.proc ⟨0, []⟩).code.getD f.at_ ⟨0, 0⟩ = ⟨10, 0⟩) (hc : 0 ≤ c ∧ c ≤ 1000) (hk : 0 ≤ κ ∧ κ ≤ 2000) (hnm : 0 ≤ nm ∧ nm < 18446744073709551616) (hl : 63 ≤ l.length) (hl2 : l.length ≤ 1000) :
    Meets k (L b (l ++ [f]) [rf0] 0 nm) (Y [cl] [rf0] c κ []) (.fail 181 (L b (l ++ [f]) [rf0] 0 nm) (Y [cl] [rf0] c (κ + 1) [])) := by
  obtain ⟨h1, h2, h3⟩ := place (l := l) (st := [rf0]) (ph := 0) (nm := nm) hp ha
  refine Meets.of (op := 10) (a := 0) (ne_snoc l f) h1 h2 (h3.trans hi) (by decide) rfl (fun w FT G hs => ?_)
  have h := call_any hs (Y_fine _ _ (by decide) hc (by omega)) (.did { what := 1, cell := 0, field := 0, old := one, new := one } [] (L b (l ++ [f]) [rf0] 1 one) (Y [cl] [rf0] (c + 1) (κ + 1 + 1) [])) false 0 (by simp [L]) rf0_in (by simp [L]; omega) (fun W F2 G2 h2 => ap0 rfl hnm (l ++ [f]) [] hc (by omega) W F2 G2 h2) (fun _ _ => by simp) (fun h => by cases h)
  have e : callM 0 (L b (l ++ [f]) [rf0] 0 nm) (Y [cl] [rf0] c κ []) (.did { what := 1, cell := 0, field := 0, old := one, new := one } [] (L b (l ++ [f]) [rf0] 1 one) (Y [cl] [rf0] (c + 1) (κ + 1 + 1) [])) false = .fail 181 (L b (l ++ [f]) [rf0] 0 nm) (Y [cl] [rf0] c (κ + 1) []) := by
    unfold callM
    rw [if_pos (show (L b (l ++ [f]) [rf0] 0 nm).phase = 0 from rfl), if_pos (show (Y [cl] [rf0] c κ []).kinded ((L b (l ++ [f]) [rf0] 0 nm).at 0) 3 = true from by kernel_rfl), if_neg (show ¬ (L b (l ++ [f]) [rf0] 0 nm).fr.length < 64 from by simp [L]; omega)]
    kernel_rfl
  rw [e] at h
  exact h
theorem mCall1 (hp : f.proc < 2) (ha : f.at_ < ((loopC b).procs.getD f.proc ⟨0, []⟩).code.length) (hi : ((loopC b).procs.getD f.proc ⟨0, []⟩).code.getD f.at_ ⟨0, 0⟩ = ⟨10, 0⟩) (hc : 0 ≤ c ∧ c ≤ 1000) (hk : 0 ≤ κ ∧ κ ≤ 2000) (hl : l.length ≤ 1000) (hat : f.at_ ≤ 1000) :
    Meets k (L b (l ++ [f]) [rf0] 1 one) (Y [cl] [rf0] c κ []) (.did { what := 1, cell := 0, field := 1, old := nil1, new := nil1 } [] (L b ((l ++ [{ f with at_ := f.at_ + 1 }]) ++ [F1 0]) [] 0 one) (Y [cl] [rf0] (c + 1) (κ + 1) [])) := by
  obtain ⟨h1, h2, h3⟩ := place (l := l) (st := [rf0]) (ph := 1) (nm := one) hp ha
  refine Meets.of (op := 10) (a := 0) (ne_snoc l f) h1 h2 (h3.trans hi) (by decide) rfl (fun w FT G hs => ?_)
  have h := call_any hs (Y_fine _ _ (by decide) hc (by omega)) (.did { what := 1, cell := 0, field := 1, old := nil1, new := nil1 } [] (L b (l ++ [f]) [rf0, nil1] 2 one) (Y [cl] [rf0] (c + 1) (κ + 1) [])) true 0 (by simp [L]) rf0_in (by simp [L]; omega) (fun W F2 G2 h2 => ap1 (l ++ [f]) [] hc (by omega) W F2 G2 h2) (fun _ _ => by simp) (fun _ ev l2 th2 t2 he => by
    injection he with _ _ he _
    subst he
    refine ⟨ne_snoc l f, by rw [show (L b (l ++ [f]) [rf0, nil1] 2 one).top = f from top_snoc l f]; omega, by simp [L], by simp [L], by simp [L]; omega, one_in, ?_⟩
    show 0 ≤ ofN' one
    decide)
  have e : callM 0 (L b (l ++ [f]) [rf0] 1 one) (Y [cl] [rf0] c κ []) (.did { what := 1, cell := 0, field := 1, old := nil1, new := nil1 } [] (L b (l ++ [f]) [rf0, nil1] 2 one) (Y [cl] [rf0] (c + 1) (κ + 1) [])) true = .did { what := 1, cell := 0, field := 1, old := nil1, new := nil1 } [] ((L b (l ++ [f]) [rf0, nil1] 2 one).called 0) (Y [cl] [rf0] (c + 1) (κ + 1) []) := rfl
  have e2 : (L b (l ++ [f]) [rf0, nil1] 2 one).called 0 = L b ((l ++ [{ f with at_ := f.at_ + 1 }]) ++ [F1 0]) [] 0 one := by
    unfold Th.called
    rw [show (L b (l ++ [f]) [rf0, nil1] 2 one).top = f from top_snoc l f, show (L b (l ++ [f]) [rf0, nil1] 2 one).goto (f.at_ + 1) = L b (l ++ [{ f with at_ := f.at_ + 1 }]) [rf0, nil1] 2 one from goto_snoc l f _]
    kernel_rfl
  rw [e, e2] at h
  exact h
theorem mTail0 (hp : f.proc < 2) (ha : f.at_ < ((loopC b).procs.getD f.proc ⟨0, []⟩).code.length) (hi : ((loopC b).procs.getD f.proc ⟨0, []⟩).code.getD f.at_ ⟨0, 0⟩ = ⟨11, 0⟩) (hc : 0 ≤ c ∧ c ≤ 1000) (hk : 0 ≤ κ ∧ κ ≤ 2000) (hnm : 0 ≤ nm ∧ nm < 18446744073709551616) :
    Meets k (L b (l ++ [f]) [rf0] 0 nm) (Y [cl] [rf0] c κ []) (.did { what := 1, cell := 0, field := 0, old := one, new := one } [] (L b (l ++ [f]) [rf0] 1 one) (Y [cl] [rf0] (c + 1) (κ + 1) [])) := by
  obtain ⟨h1, h2, h3⟩ := place (l := l) (st := [rf0]) (ph := 0) (nm := nm) hp ha
  refine Meets.of (op := 11) (a := 0) (ne_snoc l f) h1 h2 (h3.trans hi) (by decide) rfl (fun w FT G hs => ?_)
  exact tail_any hs (.did { what := 1, cell := 0, field := 0, old := one, new := one } [] (L b (l ++ [f]) [rf0] 1 one) (Y [cl] [rf0] (c + 1) (κ + 1) [])) false 0 (fun W F2 G2 h2 => ap0 rfl hnm (l ++ [f]) [] hc (by omega) W F2 G2 h2) (fun _ _ => by simp) (fun h => by cases h)
theorem mTail1 (hp : f.proc < 2) (ha : f.at_ < ((loopC b).procs.getD f.proc ⟨0, []⟩).code.length) (hi : ((loopC b).procs.getD f.proc ⟨0, []⟩).code.getD f.at_ ⟨0, 0⟩ = ⟨11, 0⟩) (hc : 0 ≤ c ∧ c ≤ 1000) (hk : 0 ≤ κ ∧ κ ≤ 2000) (hl : l.length ≤ 1000) (hb : f.base = 0) :
    Meets k (L b (l ++ [f]) [rf0] 1 one) (Y [cl] [rf0] c κ []) (.did { what := 1, cell := 0, field := 1, old := nil1, new := nil1 } [] (L b (l ++ [F1 0]) [] 0 one) (Y [cl] [rf0] (c + 1) (κ + 1) [])) := by
  obtain ⟨h1, h2, h3⟩ := place (l := l) (st := [rf0]) (ph := 1) (nm := one) hp ha
  refine Meets.of (op := 11) (a := 0) (ne_snoc l f) h1 h2 (h3.trans hi) (by decide) rfl (fun w FT G hs => ?_)
  have h := tail_any hs (.did { what := 1, cell := 0, field := 1, old := nil1, new := nil1 } [] (L b (l ++ [f]) [rf0, nil1] 2 one) (Y [cl] [rf0] (c + 1) (κ + 1) [])) true 0 (fun W F2 G2 h2 => ap1 (l ++ [f]) [] hc (by omega) W F2 G2 h2) (fun _ _ => by simp) (fun _ ev l2 th2 t2 he => by
    injection he with _ _ he _
    subst he
    refine ⟨ne_snoc l f, by simp [L], by rw [show (L b (l ++ [f]) [rf0, nil1] 2 one).top = f from top_snoc l f, hb]; exact Nat.zero_le _, by simp [L]; omega, one_in, ?_⟩
    show 0 ≤ ofN' one
    decide)
  have e2 : (L b (l ++ [f]) [rf0, nil1] 2 one).tailed = L b (l ++ [F1 0]) [] 0 one := by
    unfold Th.tailed
    rw [show (L b (l ++ [f]) [rf0, nil1] 2 one).top = f from top_snoc l f, hb]
    have : (l ++ [f]).take ((l ++ [f]).length - 1) = l := by simp
    show ({ L b (l ++ [f]) [rf0, nil1] 2 one with fr := (l ++ [f]).take ((l ++ [f]).length - 1) } : Th).begin 0 = _
    rw [this]
    kernel_rfl
  unfold tailO at h
  simp only [if_true] at h
  rw [e2] at h
  exact h

/-- The first five steps. -/
def u0 (b : Bool) : Th := L b [F0 0] [] 0 0
def u1 (b : Bool) : Th := L b [F0 1] [rf0] 0 0
def u2 (b : Bool) : Th := L b [F0 2] [non] 0 0
def u3 (b : Bool) : Th := L b [F0 3] [] 0 0
def v0 : Toy := Y [] [non] 0 0 []
def v1 : Toy := Y [cl] [non] 1 0 [one, nil1]
def v2 : Toy := Y [cl] [rf0] 2 0 [rf0]
theorem v0_fine : v0.Fine := Y_fine _ _ (by decide) (by decide) (by decide)
theorem v1_fine : v1.Fine := Y_fine _ _ (by decide) (by decide) (by decide)
theorem in5 (x : Int) (h : x = rf0 ∨ x = non) : 0 ≤ x ∧ x < 18446744073709551616 := by rcases h with rfl | rfl <;> exact mkW_in _ _

theorem n0 : Meets k (u0 b) v0 (.did { what := 5, cell := 0, old := one, new := nil1 } [] (u1 b) v1) := Meets.of (op := 6) (a := 1) (by simp [u0, L]) (by simp [u0, L, Th.top, F0, loopC]) (by simp [u0, L, Th.top, F0, loopC]) rfl (by decide) rfl (fun w FT G hs => by
  have h := closure_any hs v0_fine 1 (by unfold in64; omega) (by rw [show (u0 b).top.env = nil1 from rfl]; exact mkW_in _ _) (by simp [u0, L]) (by simp [u0, L]) (by simp [u0, L, Th.top, F0])
  have e : closureM 1 (u0 b) v0 = .did { what := 5, cell := 0, old := one, new := nil1 } [] (u1 b) v1 := by kernel_rfl
  rw [e] at h
  exact h)
theorem n1 : Meets k (u1 b) v1 (.did { what := 8, other := 0, old := non, new := rf0 } [0] (u2 b) v2) := Meets.of (op := 5) (a := 0) (by simp [u1, L]) (by simp [u1, L, Th.top, F0, loopC]) (by simp [u1, L, Th.top, F0, loopC]) rfl (by decide) rfl (fun w FT G hs => by
  have h := setGlobal_any hs v1_fine 0 (by simp [v1, Y]) (by simp [u1, L]) rf0_in (in5 _ (.inr rfl)) (by simp [u1, L]) (by simp [u1, L]) (by simp [u1, L, Th.top, F0])
  have e : setGlobalM 0 (u1 b) v1 = .did { what := 8, other := 0, old := non, new := rf0 } [0] (u2 b) v2 := by kernel_rfl
  rw [e] at h
  exact h)
theorem n2 : Meets k (u2 b) v2 (.quiet (u3 b) v2) := Meets.of (op := 7) (a := 0) (by simp [u2, L]) (by simp [u2, L, Th.top, F0, loopC]) (by simp [u2, L, Th.top, F0, loopC]) rfl (by decide) rfl (fun w FT G hs => by
  have h := pop_any hs (by simp [u2, L]) (by simp [u2, L]) (by simp [u2, L, Th.top, F0]) (toyV k.H) 0
  have e : popM (u2 b) v2 = .quiet (u3 b) v2 := by kernel_rfl
  rw [e] at h
  exact h)

/-- What a step of the law's program does: told by its number. -/
inductive Is (b : Bool) : Nat → Th → Toy → Prop
  | s0 : Is b 0 (u0 b) v0
  | s1 : Is b 1 (u1 b) v1
  | s2 : Is b 2 (u2 b) v2
  | s3 : Is b 3 (L b ([] ++ [F0 4]) [rf0] 0 0) (Y [cl] [rf0] 3 0 [])
  | s4 : Is b 4 (L b ([] ++ [F0 4]) [rf0] 1 one) (Y [cl] [rf0] 4 2 [])
  | c0 (j : Nat) (l : List Fr) (κ : Int) (hj : b = false → j ≤ 62) (hl : l.length = if b then 1 else j + 1) (hk : 0 ≤ κ ∧ κ ≤ 3 * (5 + 3 * j)) : Is b (5 + 3 * j) (L b (l ++ [F1 0]) [] 0 one) (Y [cl] [rf0] ((5 + 3 * j : Nat) : Int) κ [])
  | c1 (j : Nat) (l : List Fr) (κ : Int) (hj : b = false → j ≤ 62) (hl : l.length = if b then 1 else j + 1) (hk : 0 ≤ κ ∧ κ ≤ 3 * (5 + 3 * j)) : Is b (5 + 3 * j + 1) (L b (l ++ [F1 1]) [rf0] 0 one) (Y [cl] [rf0] ((5 + 3 * j + 1 : Nat) : Int) κ [])
  | c2 (j : Nat) (l : List Fr) (κ : Int) (hj : b = false → j ≤ 61) (hl : l.length = if b then 1 else j + 1) (hk : 0 ≤ κ ∧ κ ≤ 3 * (5 + 3 * j) + 2) : Is b (5 + 3 * j + 2) (L b (l ++ [F1 1]) [rf0] 1 one) (Y [cl] [rf0] ((5 + 3 * j + 2 : Nat) : Int) κ [])
  | over (i : Nat) (th : Th) (κ : Int) (hb : b = false) (hi : 193 ≤ i) (h1 : th.ended = true) (h2 : th.word = 0) (h3 : th.err = 181) : Is b i th (Y [cl] [rf0] 192 κ [])

set_option maxHeartbeats 4000000 in
set_option maxRecDepth 100000 in
/-- A thread that has ended does nothing. -/
theorem step_ended (h : Sit k w th t FT G) (he : th.ended = true) :
    Calls Tryz.prog 13 #[.pointer (some ⟨k.T, 0, none⟩), toyV k.H] w fun e w' => e = .returned (.agg (evC {} (.slice none 0 0)).toArray) ∧ Lf k w FT G th t [] (.slice none 0 0) w' := by
  obtain ⟨fv, sv, rv, q⟩ := h.vt.th
  have t10 : w.cell? ⟨k.T, 10, none⟩ = some (.bool true) := by rw [← he]; exact q.b.cell 10
  have tz := q.b.lt
  have HB := Lib.hid (VB.open_ h)
  unfold toyV at *
  clear h he q
  go_enter_defers Tryz.func13, Tryz.ntmps13
  go_wp2_with fail
  obtain ⟨wa, hwa⟩ : ∃ wa, wa = w.alloc (.cells #[.pointer (some ⟨k.T, 0, none⟩)] 35) := ⟨_, rfl⟩
  rw [← hwa]
  have hz : wa.heap.size = w.heap.size + 1 := by rw [hwa]; simp
  have hb : Blk (wa.alloc (.cells #[.int .i64 0, .int .u8 0, .int .i64 0, .int .i64 0, .int .u64 0, .int .u64 0, .slice none 0 0, .int .i64 0, .bool false, .int .i64 0] 44)) (w.heap.size + 1) 44 zeros := Ck.blk_at' hz.symm
  have hs : Same [] w (wa.alloc (.cells #[.int .i64 0, .int .u8 0, .int .i64 0, .int .i64 0, .int .u64 0, .int .u64 0, .slice none 0 0, .int .i64 0, .bool false, .int .i64 0] 44)) := by rw [hwa]; exact ((Same.refl _ _).alloc _).alloc _
  obtain ⟨wb, hwb⟩ : ∃ wb, wb = wa.alloc (.cells #[.int .i64 0, .int .u8 0, .int .i64 0, .int .i64 0, .int .u64 0, .int .u64 0, .slice none 0 0, .int .i64 0, .bool false, .int .i64 0] 44) := ⟨_, rfl⟩
  rw [← hwb] at hb hs ⊢
  have r0 := hb.cell 0
  have r1 := hb.cell 1
  have r2 := hb.cell 2
  have r3 := hb.cell 3
  have r4 := hb.cell 4
  have r5 := hb.cell 5
  have r6 := hb.cell 6
  have r7 := hb.cell 7
  have r8 := hb.cell 8
  have r9 := hb.cell 9
  simp only [zeros, List.getElem?_cons_zero, List.getElem?_cons_succ] at r0 r1 r2 r3 r4 r5 r6 r7 r8 r9
  exact ⟨.agg (evC {} (.slice none 0 0)).toArray, by simp [results, Tryz.results13, go_sem, evC, r0, r1, r2, r3, r4, r5, r6, r7, r8, r9], rfl, (HB.out.same hs).lf⟩

def Stp (th : Th) (t : Toy) (ev : Ev) (l : List Int) (th' : Th) (t' : Toy) : Prop := ∀ (k : Kx) w FT G, Sit k w th t FT G → Calls Tryz.prog 13 #[.pointer (some ⟨k.T, 0, none⟩), toyV k.H] w fun e w' => ∃ v, e = .returned (.agg (evC ev v).toArray) ∧ Lf k w FT G th' t' l v w'
theorem Stp.did {ev : Ev} {ls : List Int} (h : ∀ k, Meets k th t (.did ev ls th' t')) (he : th.ended = false) (hr : th.refused = false) : Stp th t ev ls th' t' := fun k _ _ _ hs => step_any hs he hr (.did ev ls th' t') (.did (h k))

theorem code10 : (loopC b).procs.getD 1 ⟨0, []⟩ = ⟨0, if b then [⟨4, 0⟩, ⟨11, 0⟩] else [⟨4, 0⟩, ⟨10, 0⟩, ⟨12, 0⟩]⟩ := rfl
theorem nxt {i : Nat} (h : Is b i th t) (hi : i < 600) : ∃ ev ls th' t', Is b (i + 1) th' t' ∧ Stp th t ev ls th' t' ∧ (b = false → i = 192 → ev.what = 17) ∧ (b = false → 193 ≤ i → ev.what = 0) := by
  cases h with
  | s0 => exact ⟨_, _, _, _, .s1, Stp.did (fun k => n0) rfl rfl, (fun _ h => by omega), (fun _ h => by omega)⟩
  | s1 => exact ⟨_, _, _, _, .s2, Stp.did (fun k => n1) rfl rfl, (fun _ h => by omega), (fun _ h => by omega)⟩
  | s2 => exact ⟨_, _, _, _, .s3, fun k w FT G hs => step_any hs rfl rfl _ (.more n2 (.did (mGlobal (l := []) (f := F0 3) (c := 2) (κ := 0) (hd := [rf0]) (by decide) (by cases b <;> decide) (by cases b <;> rfl) (by decide) (by decide) (by decide)))), (fun _ h => by omega), (fun _ h => by omega)⟩
  | s3 => exact ⟨_, _, _, _, .s4, Stp.did (fun k => mCall0 (l := []) (f := F0 4) (c := 3) (κ := 0) (nm := 0) (by decide) (by cases b <;> decide) (by cases b <;> rfl) (by decide) (by decide) (by decide) (by decide)) rfl rfl, (fun _ h => by omega), (fun _ h => by omega)⟩
  | s4 => exact ⟨_, _, _, _, .c0 0 [F0 5] 3 (fun _ => by decide) (by cases b <;> rfl) (by decide), Stp.did (fun k => mCall1 (l := []) (f := F0 4) (c := 4) (κ := 2) (by decide) (by cases b <;> decide) (by cases b <;> rfl) (by decide) (by decide) (by decide) (by decide)) rfl rfl, (fun _ h => by omega), (fun _ h => by omega)⟩
  | c0 j l κ hj hl hk =>
    refine ⟨_, _, _, _, .c1 j l κ hj hl (by omega), Stp.did (fun k => mGlobal (l := l) (f := F1 0) (c := ((5 + 3 * j : Nat) : Int)) (κ := κ) (by decide) (by cases b <;> decide) (by cases b <;> rfl) (by omega) (by omega) [] (by decide)) rfl rfl, (fun hb h => ?_), (fun hb h => ?_)⟩
    · have := hj hb; omega
    · have := hj hb; omega
  | c1 j l κ hj hl hk =>
    cases b with
    | true =>
      exact ⟨_, _, _, _, .c2 j l (κ + 1) (fun h => by cases h) hl (by omega), Stp.did (fun k => mTail0 (l := l) (f := F1 1) (c := ((5 + 3 * j + 1 : Nat) : Int)) (κ := κ) (nm := one) (by decide) (by decide) rfl (by omega) (by omega) one_in) rfl rfl, (fun hb => by cases hb), (fun hb => by cases hb)⟩
    | false =>
      simp only [Bool.false_eq_true, if_false] at hl
      have hj2 := hj rfl
      by_cases hlt : l.length < 63
      · refine ⟨_, _, _, _, .c2 j l (κ + 1 + 1) (fun _ => by omega) (by simpa using hl) (by omega), Stp.did (fun k => mCall0 (l := l) (f := F1 1) (c := ((5 + 3 * j + 1 : Nat) : Int)) (κ := κ) (nm := one) (by decide) (by decide) rfl (by omega) (by omega) one_in hlt) rfl rfl, (fun _ h => ?_), (fun _ h => ?_)⟩
        · omega
        · omega
      · obtain rfl : j = 62 := by omega
        exact ⟨_, _, _, _, .over _ _ (κ + 1) rfl (by omega) rfl rfl rfl, fun k w FT G hs => (step_any hs rfl rfl _ (.fail (mCallF (l := l) (f := F1 1) (c := ((5 + 3 * 62 + 1 : Nat) : Int)) (κ := κ) (nm := one) (by decide) (by decide) rfl (by omega) (by omega) one_in (by omega) (by omega)))).mono (fun e w' h => ⟨_, h⟩), (fun _ _ => rfl), (fun _ h => by omega)⟩
  | c2 j l κ hj hl hk =>
    cases b with
    | true =>
      exact ⟨_, _, _, _, .c0 (j + 1) l (κ + 1) (fun h => by cases h) hl (by omega), Stp.did (fun k => mTail1 (l := l) (f := F1 1) (c := ((5 + 3 * j + 2 : Nat) : Int)) (κ := κ) (by decide) (by decide) rfl (by omega) (by omega) (by simp at hl; omega) rfl) rfl rfl, (fun hb => by cases hb), (fun hb => by cases hb)⟩
    | false =>
      simp only [Bool.false_eq_true, if_false] at hl
      have hj2 := hj rfl
      refine ⟨_, _, _, _, .c0 (j + 1) (l ++ [F1 2]) (κ + 1) (fun _ => by omega) (by simp; omega) (by omega), Stp.did (fun k => mCall1 (l := l) (f := F1 1) (c := ((5 + 3 * j + 2 : Nat) : Int)) (κ := κ) (by decide) (by decide) rfl (by omega) (by omega) (by omega) (by decide)) rfl rfl, (fun _ h => ?_), (fun _ h => ?_)⟩
      · omega
      · omega
  | over _ _ κ hb h193 h1 h2 h3 =>
    exact ⟨{}, [], th, _, .over _ _ κ hb (by omega) h1 h2 h3, fun k w FT G hs => (step_ended hs h1).mono (fun e w' h => ⟨_, h⟩), (fun _ h => by omega), (fun _ _ => rfl)⟩
end Vm
end Go.Proofs.YtkepcdbogeineaaGreatDoor
