/- Layer 19, the document's answer: next, Stuck. -/
import Derived.Test.YtkfdoocmapjkbaaDoorLrW3
namespace Go.Proofs.YtkfdoocmapjkbaaDoor
open Go.RowKit Hp
namespace Lk
variable {w w' : World} {B : Nat} {m : Bk} {gs : List Int} {F : List Nat} {tv lv gv : Value} {rvs : List Value}

set_option maxHeartbeats 800000 in
set_option maxRecDepth 100000 in
theorem r_next (n : Int) (h : Rr w B m F) (ok : Ok m) (hn : m.is n = true) :
    Calls Tryd.prog 76 #[.pointer (some ⟨B, 0, none⟩), .int .i64 n] w fun e w' => e = .returned (.int .i64 (next m n)) ∧ Same [] w w' := by
  obtain ⟨gs, tv, lv, gv, rvs, h⟩ := h
  have hnt := ok.nt
  have hnl := ok.nl
  have hlk := ok.lk n hn
  clear ok
  obtain ⟨gt, ot, ct, rfl⟩ := h.tlit hn
  obtain ⟨htlt, -, -, t0, ⟨fr, t1, g0, hfr⟩, t2, t3, t4, -, -, -⟩ := h.thr n hn
  have b0 := h.b0
  have hB := h.book.lt
  unfold next
  by_cases hl0 : (m.th n).lk = 0
  · have e0 : ((m.th n).lk != 0) = false := by simp [hl0]
    rw [e0]
    rw [is_iff] at hn
    obtain ⟨hn1, hn2⟩ := hn
    by_cases hf : (m.th n).fin = 0
    · have ew : wtOf (m.th n) = 0 := by simp [wtOf, hl0, hf]
      rw [ew] at t0
      rw [hf]
      clear h hlk hl0 e0 ew hfr hf
      go_enter Tryd.func76, Tryd.ntmps76
      go_wp2
      go_ret
      exact ⟨rfl, by repeat (first | exact Same.refl _ _ | refine Same.setCell ?_ (.inr (by simp)) _ | refine Same.alloc ?_ _ | refine Same.drew ?_)⟩
    · have ew : wtOf (m.th n) = 1 := by simp [wtOf, hl0, hf]
      have ef : fr = (m.th n).fin := by rw [hfr]; simp [frOf, hl0, hf]
      rw [ew] at t0
      rw [ef] at t1
      clear h hlk hl0 e0 ew hfr hf ef
      generalize (m.th n).fin = f at *
      go_enter Tryd.func76, Tryd.ntmps76
      go_wp2
      go_ret
      exact ⟨rfl, by repeat (first | exact Same.refl _ _ | refine Same.setCell ?_ (.inr (by simp)) _ | refine Same.alloc ?_ _ | refine Same.drew ?_)⟩
  · obtain ⟨hil, -, -, -⟩ := hlk.resolve_left hl0
    have e0 : ((m.th n).lk != 0) = true := by simpa using hl0
    rw [e0]
    have ew : wtOf (m.th n) = 2 := by simp [wtOf, hl0]
    have ef : fr = (m.th n).lk - 1 := by rw [hfr]; simp [frOf, hl0]
    rw [ew] at t0
    rw [ef] at t1
    obtain ⟨gl, ol, cl, rfl⟩ := h.llit hil
    have b1 := h.b1
    obtain ⟨hllt, -, -, -, -, l0, -⟩ := h.lok _ hil
    rw [is_iff] at hn
    rw [isL_iff] at hil
    obtain ⟨hn1, hn2⟩ := hn
    obtain ⟨hl1, hl2⟩ := hil
    clear h hlk hl0 hfr ef ew e0
    simp only [if_true]
    generalize (m.lo ((m.th n).lk - 1)).ho = ho at *
    generalize (m.th n).lk - 1 = lk at *
    go_enter Tryd.func76, Tryd.ntmps76
    go_wp2
    go_region
    go_wp2
    go_ret
    exact ⟨rfl, by repeat (first | exact Same.refl _ _ | refine Same.setCell ?_ (.inr (by simp)) _ | refine Same.alloc ?_ _ | refine Same.drew ?_)⟩

set_option maxHeartbeats 1600000 in
set_option maxRecDepth 100000 in
theorem r_stuck (h : Rr w B m F) (ok : Ok m) (hb0 : B < w.heap.size) :
    Calls Tryd.prog 49 #[.pointer (some ⟨B, 0, none⟩)] w fun e w' => ∃ v, e = .returned v ∧ Row w' 3 1 v (stuckF m).length ((stuckF m).flatMap (nE .i64)) ∧ Same [] w w' ∧ ∀ k ∈ blk v, w.heap.size ≤ k := by
  have HR := Lib.hid h
  have HO := Lib.hid ok
  have hnt := ok.nt
  obtain ⟨gs, tv, lv, gv, rvs, h⟩ := h
  obtain ⟨at_, ct, rfl⟩ := h.tform
  have b0 := h.b0
  have b0' : ∀ w1, Same [] w w1 → w1.cell? ⟨B, 0, none⟩ = some (.slice at_ m.ths.length ct) := fun w1 hs => (hs.cell hb0 (by simp)).trans b0
  have HB0 := Lib.hid b0'
  clear h ok b0'
  have HN := Lib.hid (rfl : m.ths.length = m.ths.length)
  obtain ⟨nt, hnt'⟩ : ∃ nt, nt = m.ths.length := ⟨_, rfl⟩
  have HT := Lib.hid hnt'
  rw [← hnt'] at b0 hnt HB0
  clear hnt' HN
  go_enter Tryd.func49, Tryd.ntmps49
  go_wp2
  go_loopw [3, 4] (fun out c wr => ∃ (k : Nat), k ≤ nt ∧ c = .int .i64 ((k : Int) + 1) ∧ Row wr 3 1 out (stuckTo m k).length ((stuckTo m k).flatMap (nE .i64)) ∧ Same [] w wr ∧ (∀ x ∈ blk out, w.heap.size ≤ x))
    (fun _ c _ => nt + 1 - (intOf c).toNat)
  case atStart => exact ⟨0, Nat.zero_le _, by simp, Row.nil _ _ _, Same.refl _ _, by simp [blk]⟩
  case round =>
    obtain ⟨k, hk, rfl, hrow, hs, hout⟩ := hrel
    obtain ⟨oa, oc, rfl, hol, hom, -⟩ := hrow.form
    have hsl := stuckTo_len m k
    by_cases hlt : k < nt
    · have hlt' : (k : Int) + 1 ≤ (nt : Int) := by omega
      have c0 := HB0.out wr hs
      have hrep : Rr wr B m F := HR.out.frame hs (by simp)
      have hval : m.is ((k : Int) + 1) = true := by rw [is_iff, ← HT.out]; omega
      have HNX := Lib.hid (r_next ((k : Int) + 1) hrep HO.out hval)
      have HS := Lib.hid hs
      have HROW := Lib.hid hrow
      have HOUT := Lib.hid hout
      have HVAL := Lib.hid hval
      clear hs hrow hout hrep hval
      go_wp2_with fail
      refine HNX.out.mono ?_
      rintro e w1 ⟨rfl, hs1⟩
      have c1 := HB0.out w1 (HS.out.trans hs1)
      have HS1 := Lib.hid hs1
      clear hs1
      obtain ⟨a0, ha0⟩ : ∃ a, a = next m ((k : Int) + 1) := ⟨_, rfl⟩
      rw [← ha0]
      have HA0 := Lib.hid ha0
      have hav : a0 = 0 ∨ m.is a0 = true := by rw [ha0]; exact next_valid HO.out _ HVAL.out
      have HAV := Lib.hid hav
      clear ha0 hav
      go_wp2
      obtain ⟨wo, rfl⟩ : ∃ wo : World, wo = wr := ⟨_, rfl⟩
      go_loopw [5, 6] (fun at_ c wr => ∃ (j : Nat) (a : Int), j ≤ nt ∧ c = .int .i64 j ∧ at_ = .int .i64 a ∧ (a = 0 ∨ m.is a = true) ∧ chase m ((k : Int) + 1) (nt - j) a = chase m ((k : Int) + 1) nt a0 ∧ Same [] wo wr)
        (fun _ c _ => nt - (intOf c).toNat)
      case atStart => exact ⟨0, a0, Nat.zero_le _, rfl, rfl, HAV.out, rfl, HS1.out⟩
      case round =>
        obtain ⟨j, a, hj, rfl, rfl, hav, hch, hs2⟩ := hrel
        have HCH := Lib.hid hch
        have HAV2 := Lib.hid hav
        have HS2 := Lib.hid hs2
        have hsw := HS.out.trans hs2
        have HSW := Lib.hid hsw
        have d0 := HB0.out wr hsw
        have HR2 : Hid (Row wr 3 1 (.slice oa (stuckTo m k).length oc) (stuckTo m k).length ((stuckTo m k).flatMap (nE .i64))) := Lib.hid (HROW.out.frame hs2 (by simp))
        clear hch hav hs2 hsw
        by_cases hgo : j < nt ∧ ¬ (a = 0 ∨ a = (k : Int) + 1)
        · obtain ⟨hjn, hna⟩ := hgo
          have ha1 : (a != 0) = true := by simpa using fun e => hna (.inl e)
          have ha2 : (a != (k : Int) + 1) = true := by simpa using fun e => hna (.inr e)
          have hva := HAV2.out.resolve_left (fun e => hna (.inl e))
          have HN2 := Lib.hid (r_next a (HR.out.frame HSW.out (by simp)) HO.out hva)
          have hnv := next_valid HO.out a hva
          have HNV := Lib.hid hnv
          have HC2 : Hid (chase m ((k : Int) + 1) (nt - (j + 1)) (next m a) = chase m ((k : Int) + 1) nt a0) := by
            have := HCH.out
            rw [show nt - j = (nt - (j + 1)) + 1 from by omega, chase_step _ _ _ _ hna] at this
            exact this
          clear hna hva hnv
          go_wp2_with fail
          refine HN2.out.mono ?_
          rintro e w2 ⟨rfl, hs3⟩
          go_wp2
          go_roundw
          case rel => exact ⟨j + 1, _, by omega, by go_num, rfl, HNV.out, HC2.out, HS2.out.trans hs3⟩
          case measure => simp [intOf]; omega
        · have hfin : a = chase m ((k : Int) + 1) nt a0 := by
            rw [← HCH.out]
            by_cases hz : a = 0 ∨ a = (k : Int) + 1
            · rw [chase_stop _ _ _ _ hz]
            · have : nt - j = 0 := by
                have : ¬ j < nt := fun h => hgo ⟨h, hz⟩
                omega
              rw [this]; rfl
          have hst : stuckI m ((k : Int) + 1) = (a == (k : Int) + 1) := by
            unfold stuckI
            rw [← HT.out, ← HA0.out, ← hfin]
          have hsucc := stuckTo_succ m k
          rw [hst] at hsucc
          have HSU := Lib.hid hsucc
          clear hfin hst hsucc
          by_cases hak : a = (k : Int) + 1
          · subst hak
            have hsu : stuckTo m (k + 1) = stuckTo m k ++ [(k : Int) + 1] := by rw [HSU.out]; simp
            have HSU2 := Lib.hid hsu
            have e1 : ((k : Int) + 1 != 0) = true := by simp; omega
            have e2 : ((k : Int) + 1 != (k : Int) + 1) = false := by simp
            have e3 : ((k : Int) + 1 == (k : Int) + 1) = true := by simp
            clear hsu HSU
            have hjj : (j < nt) ∨ (j = nt) := by omega
            clear hgo
            have HHY : True := trivial
            rcases hjj with hj1 | rfl
            all_goals
              go_wp2_with (at_builtin; refine wpList_append_row _ rfl (.tmp 43) (.tmp 45) 29 rfl 3 (.int .i64 0) 1 8 Tryd.underlying29 info3 rfl (by decide) (.slice oa (stuckTo m k).length oc) (stuckTo m k).length ((stuckTo m k).flatMap (nE .i64)) rfl ?hrow1 ⟨wr.heap.size, 0, none⟩ 1 1 [.int .i64 ((k : Int) + 1)] rfl rfl ?c1 ?c2 ?b1 ?b2 ?K)
              case hrow1 => exact HR2.out.alloc _
              case c1 => exact cell_one_new wr (.int .i64 ((k : Int) + 1)) 3
              case c2 => intro u hu; simp at hu; subst hu; rfl
              case b1 => unfold maxLen; omega
              case b2 => omega
              case K =>
                intro v' w' hrow' hsm hbk
                have hfin1 : Row w' 3 1 v' (stuckTo m (k + 1)).length ((stuckTo m (k + 1)).flatMap (nE .i64)) := by
                  rw [HSU2.out]; simpa [nE] using hrow'
                have hsame : Same [] w w' := by
                  refine (HSW.out.trans' ((Same.refl (blk (.slice oa (stuckTo m k).length oc)) wr).alloc (.cells #[.int .i64 ((k : Int) + 1)] 3)) ?_).trans' hsm ?_
                  · intro x hx; exact .inr (HOUT.out x hx)
                  · intro x hx; exact .inr (HOUT.out x hx)
                have hblk : ∀ x ∈ blk v', w.heap.size ≤ x := fun x hx => by
                  rcases hbk x hx with h1 | h1
                  · exact HOUT.out x h1
                  · have := HSW.out.size
                    have : (wr.alloc (.cells #[.int .i64 ((k : Int) + 1)] 3)).heap.size = wr.heap.size + 1 := by simp
                    omega
                have HF1 := Lib.hid hfin1
                have HF2 := Lib.hid hsame
                have HF3 := Lib.hid hblk
                clear hrow' hsm hbk hfin1 hsame hblk
                go_wp2
                go_roundw
                case rel => exact ⟨k + 1, by omega, by go_num, HF1.out, HF2.out, HF3.out⟩
                case measure => simp [intOf]; omega
          · have e2 : (a == (k : Int) + 1) = false := by simpa using hak
            have hsu : stuckTo m (k + 1) = stuckTo m k := by rw [HSU.out, e2]; simp
            have HSU2 := Lib.hid hsu
            clear hsu HSU
            have hjj : (j < nt ∧ a = 0) ∨ (j = nt) := by omega
            clear hgo hak
            rcases hjj with ⟨hj1, rfl⟩ | rfl
            all_goals
              go_wp2
              go_roundw
              case rel => exact ⟨k + 1, by omega, by go_num, by rw [HSU2.out]; exact HR2.out, HSW.out, HOUT.out⟩
              case measure => simp [intOf]; omega
    · have hkn : k = nt := by omega
      have hlt' : (nt : Int) < (k : Int) + 1 := by omega
      have c0 := HB0.out wr hs
      have HE : Hid (stuckTo m k = stuckF m) := Lib.hid (by unfold stuckF stuckTo; rw [hkn, HT.out])
      have HS := Lib.hid hs
      have HROW := Lib.hid hrow
      have HOUT := Lib.hid hout
      clear hs hrow hout hkn
      go_wp2
      go_ret
      exact ⟨_, rfl, by rw [← HE.out]; exact HROW.out, HS.out, HOUT.out⟩

end Lk
end Go.Proofs.YtkfdoocmapjkbaaDoor
