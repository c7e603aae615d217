/- Own, of a book that holds lists of numbers alone. -/
import Derived.Test.YtkfdoocmapjkbaaDoorLdN
namespace Go.Proofs.YtkfdoocmapjkbaaDoor
open Go.RowKit Hp
namespace Lk
variable {w w' W : World} {D : Nat} {ls : List (List Int)} {V : List Nat}

set_option maxHeartbeats 3200000 in
set_option maxRecDepth 100000 in
theorem own_book (h : Ib W D ls V) (hD : D ∉ V) (hn : ls.length ≤ 1000000) (hl : ∀ l ∈ ls, l.length ≤ 900) : Calls Tryd.prog 24 #[.pointer (some ⟨D, 0, none⟩)] W fun e w' => e = .returned (.bool true) ∧ Same V W w' := by
  obtain ⟨ro, rvs, hb, hll⟩ := h
  have hf := Fam.of (k := .i64) hll
  have hV := hll.lt
  have hlen : ∀ i, i < ls.length → (ls.getD i []).length ≤ 900 := fun i hi => hl _ (by
    rw [List.getD_eq_getElem?_getD, List.getElem?_eq_getElem hi]; simp)
  have HI := Lib.hid (fun w1 (hs : Same [] W w1) => ownInts_any (hf.frame hs (by simp)) (fun x hx => Nat.lt_of_lt_of_le (hV x hx) hs.size) hn hlen)
  obtain ⟨oa, oc, rfl, -, -, -⟩ := hll.top.form
  have HB := Lib.hid hb
  have HD := Lib.hid hD
  clear hf hV hlen hll hb hD hl
  have q0 : W.cell? ⟨D, 0, none⟩ = some (.slice none 0 0) := HB.out.cell 0
  have S0 : Hid (Same V W W) := Lib.hid (Same.refl _ _)
  go_enter Tryd.func24, Tryd.ntmps24
  go_wp2_with fail
  refine (own_nil51 (w := W)).mono ?_
  rintro en w1 ⟨rfl, hs⟩
  have S1 : Hid (Same V W w1) := Lib.hid (S0.out.trans' hs (by simp))
  have N1 : Hid (Same [] W w1) := Lib.hid (hs)
  clear hs q0
  have q1 : w1.cell? ⟨D, 1, none⟩ = some (.slice none 0 0) := (HB.out.frame S1.out HD.out).cell 1
  go_wp2_with fail
  refine (own_nil52 (w := w1)).mono ?_
  rintro en w2 ⟨rfl, hs⟩
  have S2 : Hid (Same V W w2) := Lib.hid (S1.out.trans' hs (by simp))
  have N2 : Hid (Same [] W w2) := Lib.hid (N1.out.trans hs)
  clear hs q1
  have q2 : w2.cell? ⟨D, 2, none⟩ = some (.slice oa ls.length oc) := (HB.out.frame S2.out HD.out).cell 2
  go_wp2_with fail
  refine (HI.out w2 N2.out).mono ?_
  rintro en w3 ⟨rfl, hs⟩
  have S3 : Hid (Same V W w3) := Lib.hid (S2.out.trans hs)
  clear hs q2
  have q3 : w3.cell? ⟨D, 3, none⟩ = some (.slice none 0 0) := (HB.out.frame S3.out HD.out).cell 3
  go_wp2_with fail
  refine (own_nil54 (w := w3)).mono ?_
  rintro en w4 ⟨rfl, hs⟩
  have S4 : Hid (Same V W w4) := Lib.hid (S3.out.trans' hs (by simp))
  clear hs q3
  have q4 : w4.cell? ⟨D, 4, none⟩ = some (.slice none 0 0) := (HB.out.frame S4.out HD.out).cell 4
  go_wp2_with fail
  refine (own_nil55 (w := w4)).mono ?_
  rintro en w5 ⟨rfl, hs⟩
  have S5 : Hid (Same V W w5) := Lib.hid (S4.out.trans' hs (by simp))
  clear hs q4
  have q5 : w5.cell? ⟨D, 5, none⟩ = some (.slice none 0 0) := (HB.out.frame S5.out HD.out).cell 5
  go_wp2_with fail
  refine (own_nil56 (w := w5)).mono ?_
  rintro en w6 ⟨rfl, hs⟩
  have S6 : Hid (Same V W w6) := Lib.hid (S5.out.trans' hs (by simp))
  clear hs q5
  have q6 : w6.cell? ⟨D, 6, none⟩ = some (.slice none 0 0) := (HB.out.frame S6.out HD.out).cell 6
  go_wp2_with fail
  refine (own_nil57 (w := w6)).mono ?_
  rintro en w7 ⟨rfl, hs⟩
  have S7 : Hid (Same V W w7) := Lib.hid (S6.out.trans' hs (by simp))
  clear hs q6
  have q7 : w7.cell? ⟨D, 7, none⟩ = some (.slice none 0 0) := (HB.out.frame S7.out HD.out).cell 7
  go_wp2_with fail
  refine (own_nil58 (w := w7)).mono ?_
  rintro en w8 ⟨rfl, hs⟩
  have S8 : Hid (Same V W w8) := Lib.hid (S7.out.trans' hs (by simp))
  clear hs q7
  have q8 : w8.cell? ⟨D, 8, none⟩ = some (.slice none 0 0) := (HB.out.frame S8.out HD.out).cell 8
  go_wp2_with fail
  refine (own_nil59 (w := w8)).mono ?_
  rintro en w9 ⟨rfl, hs⟩
  have S9 : Hid (Same V W w9) := Lib.hid (S8.out.trans' hs (by simp))
  clear hs q8
  have q9 : w9.cell? ⟨D, 9, none⟩ = some (.slice none 0 0) := (HB.out.frame S9.out HD.out).cell 9
  go_wp2_with fail
  refine (own_nil60 (w := w9)).mono ?_
  rintro en w10 ⟨rfl, hs⟩
  have S10 : Hid (Same V W w10) := Lib.hid (S9.out.trans' hs (by simp))
  clear hs q9
  have q10 : w10.cell? ⟨D, 10, none⟩ = some (.slice none 0 0) := (HB.out.frame S10.out HD.out).cell 10
  go_wp2_with fail
  refine (own_nil61 (w := w10)).mono ?_
  rintro en w11 ⟨rfl, hs⟩
  have S11 : Hid (Same V W w11) := Lib.hid (S10.out.trans' hs (by simp))
  clear hs q10
  have q11 : w11.cell? ⟨D, 11, none⟩ = some (.slice none 0 0) := (HB.out.frame S11.out HD.out).cell 11
  go_wp2_with fail
  refine (own_nil62 (w := w11)).mono ?_
  rintro en w12 ⟨rfl, hs⟩
  have S12 : Hid (Same V W w12) := Lib.hid (S11.out.trans' hs (by simp))
  clear hs q11
  have q12 : w12.cell? ⟨D, 16, none⟩ = some (.slice none 0 0) := (HB.out.frame S12.out HD.out).cell 16
  go_wp2_with fail
  refine (own_nil63 (w := w12)).mono ?_
  rintro en w13 ⟨rfl, hs⟩
  have S13 : Hid (Same V W w13) := Lib.hid (S12.out.trans' hs (by simp))
  clear hs q12
  have q13 : w13.cell? ⟨D, 12, none⟩ = some (.slice none 0 0) := (HB.out.frame S13.out HD.out).cell 12
  go_wp2_with fail
  refine (own_nil64 (w := w13)).mono ?_
  rintro en w14 ⟨rfl, hs⟩
  have S14 : Hid (Same V W w14) := Lib.hid (S13.out.trans' hs (by simp))
  clear hs q13
  have q14 : w14.cell? ⟨D, 13, none⟩ = some (.slice none 0 0) := (HB.out.frame S14.out HD.out).cell 13
  go_wp2_with fail
  refine (own_nil65 (w := w14)).mono ?_
  rintro en w15 ⟨rfl, hs⟩
  have S15 : Hid (Same V W w15) := Lib.hid (S14.out.trans' hs (by simp))
  clear hs q14
  have q15 : w15.cell? ⟨D, 14, none⟩ = some (.slice none 0 0) := (HB.out.frame S15.out HD.out).cell 14
  go_wp2_with fail
  refine (own_nil66 (w := w15)).mono ?_
  rintro en w16 ⟨rfl, hs⟩
  have S16 : Hid (Same V W w16) := Lib.hid (S15.out.trans' hs (by simp))
  clear hs q15
  have q16 : w16.cell? ⟨D, 15, none⟩ = some (.slice none 0 0) := (HB.out.frame S16.out HD.out).cell 15
  go_wp2_with fail
  refine (own_nil67 (w := w16)).mono ?_
  rintro en w17 ⟨rfl, hs⟩
  have S17 : Hid (Same V W w17) := Lib.hid (S16.out.trans' hs (by simp))
  clear hs q16
  go_wp2
  go_ret
  exact ⟨rfl, S17.out⟩
end Lk
end Go.Proofs.YtkfdoocmapjkbaaDoor
