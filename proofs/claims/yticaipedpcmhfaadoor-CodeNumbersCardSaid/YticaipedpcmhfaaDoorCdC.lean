/- Layer 8, the plain side: what is known of code that Check takes; how long its text is. -/
import Derived.Test.YticaipedpcmhfaaDoorCdB
import Derived.Test.YticaipedpcmhfaaDoorCdT
import Derived.Test.YticaipedpcmhfaaDoorCdS
import Derived.Lib.ItoaLen
namespace Go.Proofs.YticaipedpcmhfaaDoor
namespace Cd

theorem badAt_cases (c : Co) (p : Pr) : (badAt c p).1 = 2 ∨ (badAt c p).1 = 80 ∨ badAt c p = (0, 0) := by
  unfold badAt
  split
  · exact .inl rfl
  · split
    · exact .inr (.inl rfl)
    · split
      · exact .inr (.inl rfl)
      · dsimp only
        split
        · exact .inr (.inl rfl)
        · split
          · exact .inr (.inl rfl)
          · exact .inr (.inr rfl)

/-- A procedure in which nothing is wrong. -/
structure GoodP (c : Co) (p : Pr) : Prop where
  len : p.code.length ≤ 4096
  params : 0 ≤ p.params ∧ p.params ≤ 256
  some : p.code ≠ []
  fit : ∀ j, j < p.code.length → fits c p.code.length (p.code.getD j ⟨0, 0⟩) = true
  last : (p.code.getLastD ⟨0, 0⟩).op = 12 ∨ (p.code.getLastD ⟨0, 0⟩).op = 11 ∨ (p.code.getLastD ⟨0, 0⟩).op = 8
  deep : ∀ j, j < p.code.length → badD p.code j = false

theorem goodP_of {c : Co} {p : Pr} (h : (badAt c p).1 = 0) : GoodP c p := by
  unfold badAt at h
  by_cases h1 : 4096 < p.code.length
  · rw [if_pos h1] at h; cases h
  · rw [if_neg h1] at h
    by_cases h2 : p.params < 0 ∨ 256 < p.params ∨ p.code = []
    · rw [if_pos h2] at h; cases h
    · rw [if_neg h2] at h
      cases h3 : p.code.findIdx? (fun i => !fits c p.code.length i) with
      | some k => rw [h3] at h; cases h
      | none =>
        rw [h3] at h
        dsimp only at h
        by_cases h4 : (p.code.getLastD ⟨0, 0⟩).op ≠ 12 ∧ (p.code.getLastD ⟨0, 0⟩).op ≠ 11 ∧ (p.code.getLastD ⟨0, 0⟩).op ≠ 8
        · rw [if_pos h4] at h; cases h
        · rw [if_neg h4] at h
          have h5 : (List.range p.code.length).find? (badD p.code) = none := by
            cases h6 : (List.range p.code.length).find? (badD p.code) with
            | none => rfl
            | some k =>
              unfold badD at h6
              rw [h6] at h; cases h
          refine ⟨by omega, by omega, fun e => h2 (.inr (.inr e)), fun j hj => ?_, by omega, fun j hj => ?_⟩
          · have := (List.findIdx?_eq_none_iff).1 h3 (p.code.getD j ⟨0, 0⟩) (getD_mem p.code j hj)
            simpa using this
          · have := List.find?_eq_none.1 h5 j (List.mem_range.2 hj)
            simpa using this

theorem GoodP.fitAll {c : Co} {p : Pr} (hc : c.consts.length ≤ 1024 ∧ c.globals.length ≤ 64 ∧ c.procs.length ≤ 256) (h : GoodP c p) : ∀ i ∈ p.code, Fit p.code.length i := fit_of hc h.len h.fit

/-- Code that Check takes. -/
structure GoodC (c : Co) : Prop where
  lens : c.consts.length ≤ 1024 ∧ c.globals.length ≤ 64 ∧ c.procs.length ≤ 256
  some : c.procs ≠ []
  consts : ∀ x ∈ c.consts, isWord x = true ∧ wordT x ≠ 8
  globals : ∀ s ∈ c.globals, sym s = true
  apart : ∀ i, i < c.globals.length → Lib.containsS (c.globals.take i) (c.globals.getD i ByteArray.empty) = false
  procs : ∀ p ∈ c.procs, GoodP c p

theorem goodC_of {c : Co} (h : (check sym c).1 = 0) : GoodC c := by
  unfold check at h
  by_cases h1 : 256 < c.procs.length ∨ 1024 < c.consts.length ∨ 64 < c.globals.length
  · rw [if_pos h1] at h; cases h
  · rw [if_neg h1] at h
    by_cases h2 : c.procs = [] ∨ named sym c = false
    · rw [if_pos h2] at h; cases h
    · rw [if_neg h2] at h
      have hn : named sym c = true := by
        cases e : named sym c with
        | true => rfl
        | false => exact absurd (.inr e) h2
      unfold named at hn
      simp only [Bool.and_eq_true] at hn
      obtain ⟨⟨n1, n2⟩, n3⟩ := hn
      refine ⟨by omega, fun e => h2 (.inl e), fun x hx => ?_, fun s hs => List.all_eq_true.1 n2 s hs, fun i hi => ?_, fun p hp => ?_⟩
      · have := List.all_eq_true.1 n1 x hx
        rw [Bool.and_eq_true] at this
        exact ⟨this.1, by simpa using this.2⟩
      · have := List.all_eq_true.1 n3 i (List.mem_range.2 hi)
        simpa using this
      · obtain ⟨k, hk, rfl⟩ := List.getElem_of_mem hp
        cases h3 : (List.range c.procs.length).find? (fun k => (badAt c (c.procs.getD k ⟨0, []⟩)).1 != 0) with
        | some j =>
          rw [h3] at h
          have := List.find?_some h3
          dsimp only at h
          rw [h] at this
          cases this
        | none =>
          have := List.find?_eq_none.1 h3 k (List.mem_range.2 hk)
          rw [List.getD, List.getElem?_eq_getElem hk] at this
          exact goodP_of (by simpa using this)

theorem sym_short {s : ByteArray} (h : sym s = true) : s.data.toList.length ≤ 32 := by
  unfold sym isSym wordSym at h
  simp only [Bool.and_eq_true, Bool.not_eq_true', Bool.or_eq_false_iff, decide_eq_false_iff_not] at h
  omega

theorem joinL_app (a b : List (List UInt8)) : joinL (a ++ b) = joinL a ++ joinL b := by simp [joinL]
theorem joinL_one (l : List UInt8) : joinL [l] = l ++ [10] := by simp [joinL]
theorem joinL_le (ls : List (List UInt8)) (m : Nat) (h : ∀ x ∈ ls, x.length ≤ m) : (joinL ls).length ≤ (m + 1) * ls.length := by
  induction ls with
  | nil => simp [joinL]
  | cons a l ih =>
    have h1 := ih (fun x hx => h x (List.mem_cons_of_mem _ hx))
    have h2 := h a (List.mem_cons_self ..)
    have e : (joinL (a :: l)).length = a.length + 1 + (joinL l).length := by simp [joinL]; omega
    rw [e, List.length_cons, Nat.mul_add]; omega

theorem numd_le (s : List UInt8) (n : Int) (h : -9223372036854775808 ≤ n ∧ n ≤ 9223372036854775807) : (numd s n).length ≤ s.length + 21 := by
  unfold numd
  split
  · rw [List.length_append]; have := Lib.itoa_length_le n h.1 h.2; omega
  · omega
theorem name_short (o : Nat) : (calledL.getD o []).length ≤ 11 := by
  rcases Nat.lt_or_ge o calledL.length with h | h
  · have : ∀ x ∈ calledL, x.length ≤ 11 := by decide
    rw [List.getD, List.getElem?_eq_getElem h]; exact this _ (List.getElem_mem _)
  · rw [List.getD, List.getElem?_eq_none h]; simp
theorem nameT_short (o : Nat) : (tagL.getD o []).length ≤ 11 := by
  rcases Nat.lt_or_ge o tagL.length with h | h
  · have : ∀ x ∈ tagL, x.length ≤ 11 := by decide
    rw [List.getD, List.getElem?_eq_getElem h]; exact this _ (List.getElem_mem _)
  · rw [List.getD, List.getElem?_eq_none h]; simp
theorem instrT_le (i : In) (h : -9223372036854775808 ≤ i.a ∧ i.a ≤ 9223372036854775807) : (instrT i).length ≤ 33 := by
  have := numd_le (32 :: nameI i.op) i.a h
  have h1 := name_short i.op.toNat
  unfold instrT
  unfold nameI at *
  rw [List.length_cons] at this
  omega
theorem wordN_in (x : Int) (hx : 0 ≤ x ∧ x < 18446744073709551616) : -9223372036854775808 ≤ wordN x ∧ wordN x ≤ 9223372036854775807 := by
  have : wordN x = signed x / 16 := rfl
  rw [this]
  unfold signed
  split <;> omega
theorem constT_le (x : Int) (hx : 0 ≤ x ∧ x < 18446744073709551616) : (constT x).length ≤ 39 := by
  have := numd_le (constB ++ nameT (wordT x)) (wordN x) (wordN_in x hx)
  have h1 := nameT_short (wordT x).toNat
  have h2 : constB.length = 6 := rfl
  unfold constT
  unfold nameT at *
  rw [List.length_append] at this
  omega
theorem globalT_le {s : ByteArray} (h : sym s = true) : (globalT s).length ≤ 39 := by
  have := sym_short h
  have h2 : globalB.length = 7 := rfl
  unfold globalT
  rw [List.length_append]; omega
theorem headT_le (p : Pr) (h : -9223372036854775808 ≤ p.params ∧ p.params ≤ 9223372036854775807) : (headT p).length ≤ 26 := by
  have h2 : procB.length = 5 := rfl
  have := Lib.itoa_length_le p.params h.1 h.2
  unfold headT
  rw [List.length_append]; omega
end Cd
end Go.Proofs.YticaipedpcmhfaaDoor
