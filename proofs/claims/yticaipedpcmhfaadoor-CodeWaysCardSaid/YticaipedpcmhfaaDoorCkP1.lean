/- Layer 8, package code: long, place, Make. -/
import Derived.Test.YticaipedpcmhfaaDoorCkT1
import Derived.Lib.ParseIntBTie
import Derived.Lib.AtoiErrMem
import Derived.WalkSpells
namespace Go.Proofs.YticaipedpcmhfaaDoor
open Go.RowKit Hp
namespace Ck
variable {w w' : World}

/-- What long, place, readConst, readInstr answer: whether it is; if it is, what. -/
def Got {α : Type} (f : Option α) (enc : α → Value) (P : Value → Prop) (w : World) (e : Ending) (w' : World) : Prop := ∃ v, e = .returned (.tuple #[v, .bool f.isSome]) ∧ P v ∧ (∀ x, f = some x → v = enc x) ∧ Same [] w w'
def isInt64 (v : Value) : Prop := ∃ n : Int, v = .int .i64 n ∧ in64 n

theorem longT_ok {s : List UInt8} {v : Int} (h : Lib.parseIntB 64 s = .ok v) : Cd.longT s = if Lib.itoa v = s then some v else none := by unfold Cd.longT; rw [h]
theorem parse_in {s : List UInt8} {v : Int} (h : Lib.parseIntB 64 s = .ok v) : in64 v := by
  have := Lib.parseIntB_bounds h
  unfold in64
  have e : ((2 ^ (64 - 1) : Nat) : Int) = 9223372036854775808 := by decide
  rw [e] at this
  omega

theorem ret_vb {v : Value} {a b : Bool} (h : a = b) : Ending.returned (.tuple #[v, .bool a]) = .returned (.tuple #[v, .bool b]) := by rw [h]
theorem longT_no {s : List UInt8} (h : ∀ v, Lib.parseIntB 64 s ≠ .ok v) : Cd.longT s = none := by
  unfold Cd.longT
  cases hp : Lib.parseIntB 64 s with
  | ok v => exact absurd hp (h v)
  | _ => rfl

set_option maxHeartbeats 1000000 in
set_option maxRecDepth 100000 in
theorem long_any (s : ByteArray) (hs : s.size ≤ 281474976710656) (h : Vars w) : Calls Tryd.prog 62 #[.string s] w (Got (Cd.longT s.data.toList) (fun n => .int .i64 n) isInt64 w) := by
  cases hp : Lib.parseIntB 64 s.data.toList with
  | ok v =>
    have hv := parse_in hp
    obtain ⟨t, ht⟩ : ∃ t, bs (Lib.itoa v) = t := ⟨_, rfl⟩
    have htl : t.data.toList = Lib.itoa v := by rw [← ht]; rfl
    have HPI := Lib.hid (Tryd.strconv_ParseInt_10_at64_ok s (by omega) v hp w)
    have HF : ∀ w2, Same [] w w2 → Hid (Calls Tryd.prog 45 #[.int .i64 v, .int .i64 10] w2 fun e w' => e = .returned (.string t) ∧ Same [] w2 w') := fun w2 hs2 => Lib.hid (format_str v hv t ht (h.frame hs2 (by simp)))
    have HL := Lib.hid (longT_ok hp)
    have HV := Lib.hid hv
    have HTL := Lib.hid htl
    clear hp hv ht htl
    go_enter Tryd.func62, Tryd.ntmps62
    go_wp2_with fail
    refine HPI.out.mono ?_
    rintro e w2 ⟨rfl, hw2⟩
    have hs2 : Same [] w w2 := by
      rcases hw2 with rfl | ⟨t2, rfl⟩
      · exact Same.refl _ _
      · exact Same.of_below (Lib.bytesWorld_below w _ _)
    have HF2 := HF w2 hs2
    have HS2 := Lib.hid hs2
    clear hs2 HF hw2
    go_wp2_with fail
    refine HF2.out.mono ?_
    rintro e w3 ⟨rfl, hs3⟩
    have HS3 := Lib.hid (HS2.out.trans hs3)
    clear hs3
    go_wp2_with fail
    go_ret2
    refine ⟨.int .i64 v, ret_vb ?_, ⟨v, rfl, HV.out⟩, fun x hx => ?_, HS3.out⟩
    · rw [HL.out, Lib.toList_data, Lib.toList_data, HTL.out]
      by_cases hq : Lib.itoa v = s.data.toList
      · rw [if_pos hq, hq]; simp
      · rw [if_neg hq]
        simpa using hq
    · rw [HL.out] at hx
      by_cases hq : Lib.itoa v = s.data.toList
      · rw [if_pos hq] at hx; injection hx with hx; rw [hx]
      · rw [if_neg hq] at hx; cases hx
  | range =>
    obtain ⟨te, pe, hev⟩ := h.eran
    have HPI := Lib.hid (Tryd.strconv_ParseInt_10_at64_range s hs hp (.iface te pe) w hev (.inr ⟨te, pe, rfl⟩))
    have HL := Lib.hid (longT_no (fun v hv => by rw [hp] at hv; cases hv))
    clear hp h hev
    go_enter Tryd.func62, Tryd.ntmps62
    go_wp2_with fail
    refine HPI.out.mono ?_
    rintro e w2 ⟨N, rfl, _, _, hb⟩
    have HB := Lib.hid hb
    clear hb
    go_wp2_with fail
    go_ret2
    refine ⟨.int .i64 (Lib.intSat 64 s.data.toList), ret_vb (by rw [HL.out]; rfl), ⟨_, rfl, ?_⟩, fun x hx => by rw [HL.out] at hx; (cases hx), Same.of_below HB.out⟩
    unfold in64 Lib.intSat
    split <;> decide
  | _ =>
    obtain ⟨te, pe, hev⟩ := h.esyn
    have HPI := Lib.hid (Tryd.strconv_ParseInt_10_at64_syntax s hs hp (.iface te pe) w hev (.inr ⟨te, pe, rfl⟩))
    have HL := Lib.hid (longT_no (fun v hv => by rw [hp] at hv; cases hv))
    clear hp h hev
    go_enter Tryd.func62, Tryd.ntmps62
    go_wp2_with fail
    refine HPI.out.mono ?_
    rintro e w2 ⟨N, rfl, _, _, hb⟩
    have HB := Lib.hid hb
    clear hb
    go_wp2_with fail
    go_ret2
    exact ⟨.int .i64 0, ret_vb (by rw [HL.out]; rfl), ⟨0, rfl, by unfold in64; omega⟩, fun x hx => by rw [HL.out] at hx; (cases hx), Same.of_below HB.out⟩

set_option maxHeartbeats 1000000 in
theorem place_any (s : ByteArray) (hs : s.size ≤ 281474976710656) (h : Vars w) : Calls Tryd.prog 52 #[.string s] w (Got (Cd.placeT s.data.toList) (fun n => .int .i64 n) isInt64 w) := by
  have HLN := Lib.hid (long_any s hs h)
  unfold Got at HLN
  cases hl : Cd.longT s.data.toList with
  | none =>
    rw [hl] at HLN
    have HP : Hid (Cd.placeT s.data.toList = none) := Lib.hid (by unfold Cd.placeT; rw [hl])
    clear hl h
    go_enter Tryd.func52, Tryd.ntmps52
    go_wp2_with fail
    refine HLN.out.mono ?_
    rintro e w2 ⟨v, rfl, ⟨n, rfl, hn⟩, _, hs2⟩
    have HS2 := Lib.hid hs2
    have HN := Lib.hid hn
    obtain ⟨hn1, hn2⟩ := hn
    clear hs2
    go_wp2_with fail
    go_ret2
    exact ⟨.int .i64 n, ret_vb (by rw [HP.out]; rfl), ⟨_, rfl, HN.out⟩, fun x hx => by rw [HP.out] at hx; (cases hx), HS2.out⟩
  | some m =>
    rw [hl] at HLN
    have HP : Hid (Cd.placeT s.data.toList = if 0 ≤ m ∧ m ≤ 2147483647 then some m else none) := Lib.hid (by unfold Cd.placeT; rw [hl])
    clear hl h
    go_enter Tryd.func52, Tryd.ntmps52
    go_wp2_with fail
    refine HLN.out.mono ?_
    rintro e w2 ⟨v, rfl, ⟨n, rfl, hn⟩, hv, hs2⟩
    have hv' := hv m rfl
    injection hv' with _ hv'
    subst hv'
    have HS2 := Lib.hid hs2
    have HN := Lib.hid hn
    obtain ⟨hn1, hn2⟩ := hn
    clear hs2 hv
    by_cases q1 : 0 ≤ n
    · by_cases q2 : n ≤ 2147483647
      · have HP2 : Hid (Cd.placeT s.data.toList = some n) := Lib.hid (by rw [HP.out, if_pos ⟨q1, q2⟩])
        go_wp2_with fail
        go_ret2
        exact ⟨.int .i64 n, by rw [HP2.out]; simp, ⟨_, rfl, HN.out⟩, fun x hx => by rw [HP2.out] at hx; injection hx with hx; rw [hx], HS2.out⟩
      · have q2' : 2147483647 < n := by omega
        have HP2 : Hid (Cd.placeT s.data.toList = none) := Lib.hid (by rw [HP.out, if_neg (fun h => q2 h.2)])
        clear q2
        go_wp2_with fail
        go_ret2
        exact ⟨.int .i64 n, by rw [HP2.out]; first | (simp; done) | (simp; omega), ⟨_, rfl, HN.out⟩, fun x hx => by rw [HP2.out] at hx; (cases hx), HS2.out⟩
    · have q1' : n < 0 := by omega
      have HP2 : Hid (Cd.placeT s.data.toList = none) := Lib.hid (by rw [HP.out, if_neg (fun h => q1 h.1)])
      clear q1
      go_wp2_with fail
      go_ret2
      exact ⟨.int .i64 n, by rw [HP2.out]; first | (simp; done) | (simp; omega), ⟨_, rfl, HN.out⟩, fun x hx => by rw [HP2.out] at hx; (cases hx), HS2.out⟩
end Ck
end Go.Proofs.YticaipedpcmhfaaDoor
