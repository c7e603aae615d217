/- Own, of a book of texts, words, instructions, procedures: each list is its owner's. -/
import Derived.Test.YticaipedpcmhfaaGreatDoorCkG5
import Derived.Test.YticaipedpcmhfaaGreatDoorCkG2
import Derived.Test.YticaipedpcmhfaaGreatDoorCkG6
namespace Go.Proofs.YticaipedpcmhfaaGreatDoor
open Go.RowKit Hp
namespace Ck
variable {w w' W w1 : World} {D : Nat} {to_ wo io po : Value} {tl wl il pl : List (Value × List (List Value))}

/-- Not so many lists, not so long ones. -/
def Few (ls : List (Value × List (List Value))) : Prop := ls.length ≤ 6000 ∧ ∀ p ∈ ls, p.2.length ≤ 100000
theorem Few.at_ {ls : List (Value × List (List Value))} (h : Few ls) : ∀ i, i < ls.length → (ls.getD i (undef, [])).2.length ≤ 100000 := fun i hi => by
  rw [List.getD_eq_getElem?_getD, List.getElem?_eq_getElem hi]
  exact h.2 _ (List.getElem_mem hi)

set_option maxHeartbeats 3200000 in
set_option maxRecDepth 100000 in
theorem own_any (h : BkAt W D to_ wo io po tl wl il pl) (h1 : Few tl) (h2 : Few wl) (h3 : Few il) (h4 : Few pl) : Calls Tryz.prog 21 #[.pointer (some ⟨D, 0, none⟩)] W fun e w' => e = .returned (.bool true) ∧ Same (famB to_ tl ++ famB wo wl ++ famB io il ++ famB po pl) W w' := by
  obtain ⟨to_a, to_c, rfl, -, -, -⟩ := h.ft.top.form
  obtain ⟨woa, woc, rfl, -, -, -⟩ := h.fw.top.form
  obtain ⟨ioa, ioc, rfl, -, -, -⟩ := h.fi.top.form
  obtain ⟨poa, poc, rfl, -, -, -⟩ := h.fp.top.form
  have H := Lib.hid h
  have D0 : Hid (D ∉ famB (.slice to_a tl.length to_c) tl) := Lib.hid (h.ft.off_blk h.b (by decide) (by decide))
  have D1 : Hid (D ∉ famB (.slice woa wl.length woc) wl) := Lib.hid (h.fw.off_blk h.b (by decide) (by decide))
  have D2 : Hid (D ∉ famB (.slice ioa il.length ioc) il) := Lib.hid (h.fi.off_blk h.b (by decide) (by decide))
  have D3 : Hid (D ∉ famB (.slice poa pl.length poc) pl) := Lib.hid (h.fp.off_blk h.b (by decide) (by decide))
  have L0 := Lib.hid h1
  have L1 := Lib.hid h2
  have L2 := Lib.hid h3
  have L3 := Lib.hid h4
  clear h h1 h2 h3 h4
  have S0 : Hid (Same [] W W) := Lib.hid (Same.refl _ _)
  have q0 : W.cell? ⟨D, 0, none⟩ = some (.slice none 0 0) := H.out.b.cell 0
  go_enter Tryz.func21, Tryz.ntmps21
  go_wp2_with fail
  refine (ownNil_Bytes (w := W)).mono ?_
  rintro en w1 ⟨rfl, hs⟩
  have S1 : Hid (Same ([]) W w1) := Lib.hid (S0.out.trans' hs (by simp))
  clear hs q0
  have q1 : w1.cell? ⟨D, 1, none⟩ = some (.slice to_a tl.length to_c) := (H.out.b.frame S1.out (by simp)).cell 1
  have f1 := H.out.ft.frame S1.out (by simp)
  have C1 := Lib.hid (ownTexts_any f1.fam f1.lt L0.out.1 L0.out.at_)
  clear f1
  go_wp2_with fail
  refine C1.out.mono ?_
  rintro en w2 ⟨rfl, hs⟩
  have S2 : Hid (Same (famB (.slice to_a tl.length to_c) tl) W w2) := Lib.hid ((S1.out.mono (by simp)).trans hs)
  clear C1
  clear hs q1
  have q2 : w2.cell? ⟨D, 2, none⟩ = some (.slice none 0 0) := (H.out.b.frame S2.out D0.out).cell 2
  go_wp2_with fail
  refine (ownNil_Ints (w := w2)).mono ?_
  rintro en w3 ⟨rfl, hs⟩
  have S3 : Hid (Same (famB (.slice to_a tl.length to_c) tl) W w3) := Lib.hid (S2.out.trans' hs (by simp))
  clear hs q2
  have q3 : w3.cell? ⟨D, 3, none⟩ = some (.slice none 0 0) := (H.out.b.frame S3.out D0.out).cell 3
  go_wp2_with fail
  refine (ownNil_Longs (w := w3)).mono ?_
  rintro en w4 ⟨rfl, hs⟩
  have S4 : Hid (Same (famB (.slice to_a tl.length to_c) tl) W w4) := Lib.hid (S3.out.trans' hs (by simp))
  clear hs q3
  have q4 : w4.cell? ⟨D, 4, none⟩ = some (.slice none 0 0) := (H.out.b.frame S4.out D0.out).cell 4
  go_wp2_with fail
  refine (ownNil_Numbers (w := w4)).mono ?_
  rintro en w5 ⟨rfl, hs⟩
  have S5 : Hid (Same (famB (.slice to_a tl.length to_c) tl) W w5) := Lib.hid (S4.out.trans' hs (by simp))
  clear hs q4
  have q5 : w5.cell? ⟨D, 5, none⟩ = some (.slice woa wl.length woc) := (H.out.b.frame S5.out D0.out).cell 5
  have f5 := H.out.fw.frame S5.out (fun x hx hm => H.out.fw.off H.out.ft (by decide) (by decide) (by decide) (by decide) x hx hm)
  have C5 := Lib.hid (ownWords_any f5.fam f5.lt L1.out.1 L1.out.at_)
  clear f5
  go_wp2_with fail
  refine C5.out.mono ?_
  rintro en w6 ⟨rfl, hs⟩
  have S6 : Hid (Same (famB (.slice to_a tl.length to_c) tl ++ famB (.slice woa wl.length woc) wl) W w6) := Lib.hid ((S5.out.mono (fun x hx => .inl (List.mem_append_left _ hx))).trans (hs.mono (fun x hx => .inl (List.mem_append_right _ hx))))
  clear C5
  clear hs q5
  have q6 : w6.cell? ⟨D, 6, none⟩ = some (.slice none 0 0) := (H.out.b.frame S6.out (by simp only [List.mem_append, not_or]; exact ⟨D0.out, D1.out⟩)).cell 6
  go_wp2_with fail
  refine (ownNil_Cells (w := w6)).mono ?_
  rintro en w7 ⟨rfl, hs⟩
  have S7 : Hid (Same (famB (.slice to_a tl.length to_c) tl ++ famB (.slice woa wl.length woc) wl) W w7) := Lib.hid (S6.out.trans' hs (by simp))
  clear hs q6
  have q7 : w7.cell? ⟨D, 7, none⟩ = some (.slice ioa il.length ioc) := (H.out.b.frame S7.out (by simp only [List.mem_append, not_or]; exact ⟨D0.out, D1.out⟩)).cell 7
  have f7 := H.out.fi.frame S7.out (fun x hx hm => by
      simp only [List.mem_append] at hm
      rcases hm with hm | hm
      · exact H.out.fi.off H.out.ft (by decide) (by decide) (by decide) (by decide) x hx hm
      · exact H.out.fi.off H.out.fw (by decide) (by decide) (by decide) (by decide) x hx hm)
  have C7 := Lib.hid (ownInstrs_any f7.fam f7.lt L2.out.1 L2.out.at_)
  clear f7
  go_wp2_with fail
  refine C7.out.mono ?_
  rintro en w8 ⟨rfl, hs⟩
  have S8 : Hid (Same (famB (.slice to_a tl.length to_c) tl ++ famB (.slice woa wl.length woc) wl ++ famB (.slice ioa il.length ioc) il) W w8) := Lib.hid ((S7.out.mono (fun x hx => .inl (List.mem_append_left _ hx))).trans (hs.mono (fun x hx => .inl (List.mem_append_right _ hx))))
  clear C7
  clear hs q7
  have q8 : w8.cell? ⟨D, 8, none⟩ = some (.slice none 0 0) := (H.out.b.frame S8.out (by simp only [List.mem_append, not_or]; exact ⟨⟨D0.out, D1.out⟩, D2.out⟩)).cell 8
  go_wp2_with fail
  refine (ownNil_Tokens (w := w8)).mono ?_
  rintro en w9 ⟨rfl, hs⟩
  have S9 : Hid (Same (famB (.slice to_a tl.length to_c) tl ++ famB (.slice woa wl.length woc) wl ++ famB (.slice ioa il.length ioc) il) W w9) := Lib.hid (S8.out.trans' hs (by simp))
  clear hs q8
  have q9 : w9.cell? ⟨D, 9, none⟩ = some (.slice none 0 0) := (H.out.b.frame S9.out (by simp only [List.mem_append, not_or]; exact ⟨⟨D0.out, D1.out⟩, D2.out⟩)).cell 9
  go_wp2_with fail
  refine (ownNil_Waiters (w := w9)).mono ?_
  rintro en w10 ⟨rfl, hs⟩
  have S10 : Hid (Same (famB (.slice to_a tl.length to_c) tl ++ famB (.slice woa wl.length woc) wl ++ famB (.slice ioa il.length ioc) il) W w10) := Lib.hid (S9.out.trans' hs (by simp))
  clear hs q9
  have q10 : w10.cell? ⟨D, 10, none⟩ = some (.slice none 0 0) := (H.out.b.frame S10.out (by simp only [List.mem_append, not_or]; exact ⟨⟨D0.out, D1.out⟩, D2.out⟩)).cell 10
  go_wp2_with fail
  refine (ownNil_Endeds (w := w10)).mono ?_
  rintro en w11 ⟨rfl, hs⟩
  have S11 : Hid (Same (famB (.slice to_a tl.length to_c) tl ++ famB (.slice woa wl.length woc) wl ++ famB (.slice ioa il.length ioc) il) W w11) := Lib.hid (S10.out.trans' hs (by simp))
  clear hs q10
  have q11 : w11.cell? ⟨D, 11, none⟩ = some (.slice none 0 0) := (H.out.b.frame S11.out (by simp only [List.mem_append, not_or]; exact ⟨⟨D0.out, D1.out⟩, D2.out⟩)).cell 11
  go_wp2_with fail
  refine (ownNil_Errs (w := w11)).mono ?_
  rintro en w12 ⟨rfl, hs⟩
  have S12 : Hid (Same (famB (.slice to_a tl.length to_c) tl ++ famB (.slice woa wl.length woc) wl ++ famB (.slice ioa il.length ioc) il) W w12) := Lib.hid (S11.out.trans' hs (by simp))
  clear hs q11
  have q12 : w12.cell? ⟨D, 16, none⟩ = some (.slice none 0 0) := (H.out.b.frame S12.out (by simp only [List.mem_append, not_or]; exact ⟨⟨D0.out, D1.out⟩, D2.out⟩)).cell 16
  go_wp2_with fail
  refine (ownNil_Bools (w := w12)).mono ?_
  rintro en w13 ⟨rfl, hs⟩
  have S13 : Hid (Same (famB (.slice to_a tl.length to_c) tl ++ famB (.slice woa wl.length woc) wl ++ famB (.slice ioa il.length ioc) il) W w13) := Lib.hid (S12.out.trans' hs (by simp))
  clear hs q12
  have q13 : w13.cell? ⟨D, 12, none⟩ = some (.slice none 0 0) := (H.out.b.frame S13.out (by simp only [List.mem_append, not_or]; exact ⟨⟨D0.out, D1.out⟩, D2.out⟩)).cell 12
  go_wp2_with fail
  refine (ownNil_Data (w := w13)).mono ?_
  rintro en w14 ⟨rfl, hs⟩
  have S14 : Hid (Same (famB (.slice to_a tl.length to_c) tl ++ famB (.slice woa wl.length woc) wl ++ famB (.slice ioa il.length ioc) il) W w14) := Lib.hid (S13.out.trans' hs (by simp))
  clear hs q13
  have q14 : w14.cell? ⟨D, 13, none⟩ = some (.slice none 0 0) := (H.out.b.frame S14.out (by simp only [List.mem_append, not_or]; exact ⟨⟨D0.out, D1.out⟩, D2.out⟩)).cell 13
  go_wp2_with fail
  refine (ownNil_Forms (w := w14)).mono ?_
  rintro en w15 ⟨rfl, hs⟩
  have S15 : Hid (Same (famB (.slice to_a tl.length to_c) tl ++ famB (.slice woa wl.length woc) wl ++ famB (.slice ioa il.length ioc) il) W w15) := Lib.hid (S14.out.trans' hs (by simp))
  clear hs q14
  have q15 : w15.cell? ⟨D, 14, none⟩ = some (.slice poa pl.length poc) := (H.out.b.frame S15.out (by simp only [List.mem_append, not_or]; exact ⟨⟨D0.out, D1.out⟩, D2.out⟩)).cell 14
  have f15 := H.out.fp.frame S15.out (fun x hx hm => by
      simp only [List.mem_append] at hm
      rcases hm with (hm | hm) | hm
      · exact H.out.fp.off H.out.ft (by decide) (by decide) (by decide) (by decide) x hx hm
      · exact H.out.fp.off H.out.fw (by decide) (by decide) (by decide) (by decide) x hx hm
      · exact H.out.fp.off H.out.fi (by decide) (by decide) (by decide) (by decide) x hx hm)
  have C15 := Lib.hid (ownProcs_any f15.fam f15.lt L3.out.1 L3.out.at_)
  clear f15
  go_wp2_with fail
  refine C15.out.mono ?_
  rintro en w16 ⟨rfl, hs⟩
  have S16 : Hid (Same (famB (.slice to_a tl.length to_c) tl ++ famB (.slice woa wl.length woc) wl ++ famB (.slice ioa il.length ioc) il ++ famB (.slice poa pl.length poc) pl) W w16) := Lib.hid ((S15.out.mono (fun x hx => .inl (List.mem_append_left _ hx))).trans (hs.mono (fun x hx => .inl (List.mem_append_right _ hx))))
  clear C15
  clear hs q15
  have q16 : w16.cell? ⟨D, 15, none⟩ = some (.slice none 0 0) := (H.out.b.frame S16.out (by simp only [List.mem_append, not_or]; exact ⟨⟨⟨D0.out, D1.out⟩, D2.out⟩, D3.out⟩)).cell 15
  go_wp2_with fail
  refine (ownNil_Lanes (w := w16)).mono ?_
  rintro en w17 ⟨rfl, hs⟩
  have S17 : Hid (Same (famB (.slice to_a tl.length to_c) tl ++ famB (.slice woa wl.length woc) wl ++ famB (.slice ioa il.length ioc) il ++ famB (.slice poa pl.length poc) pl) W w17) := Lib.hid (S16.out.trans' hs (by simp))
  clear hs q16
  go_wp2
  go_ret
  exact ⟨rfl, S17.out⟩
end Ck
end Go.Proofs.YticaipedpcmhfaaGreatDoor
