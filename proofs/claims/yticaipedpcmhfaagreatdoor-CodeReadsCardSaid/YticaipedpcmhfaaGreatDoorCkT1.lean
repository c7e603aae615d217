/- Layer 8, package code: a constant's line, an instruction's line. -/
import Derived.Test.YticaipedpcmhfaaGreatDoorCkW1
import Derived.Test.YticaipedpcmhfaaGreatDoorShelfD
import Derived.Lib.SmallJoins
import Derived.Outline
import Derived.Lib.ItoaLen
namespace Go.Proofs.YticaipedpcmhfaaGreatDoor
open Go.RowKit Hp
namespace Ck
variable {w w' : World}

def bs (l : List UInt8) : ByteArray := ⟨l.toArray⟩
theorem bs_list (l : List UInt8) : (bs l).data.toList = l := rfl
theorem bs_of (s : ByteArray) : bs s.data.toList = s := rfl
theorem bs_app (a b : ByteArray) : a ++ b = bs (a.data.toList ++ b.data.toList) := by
  apply WideShapes.bytes_inj
  rw [Joins.data_append]; rfl
theorem bs_size (l : List UInt8) : (bs l).size = l.length := by simp [bs, ByteArray.size]
theorem ret_str {a b : ByteArray} (h : a.data.toList = b.data.toList) : Ending.returned (.string a) = .returned (.string b) := by rw [WideShapes.bytes_inj h]

theorem called_short (o : Nat) : (Cd.calledL.getD o []).length ≤ 11 := by
  rcases Nat.lt_or_ge o Cd.calledL.length with h | h
  · have : ∀ x ∈ Cd.calledL, x.length ≤ 11 := by decide
    rw [List.getD, List.getElem?_eq_getElem h]; exact this _ (List.getElem_mem _)
  · rw [List.getD, List.getElem?_eq_none h]; simp
theorem tag_short (t : Nat) : (Cd.tagL.getD t []).length ≤ 11 := by
  rcases Nat.lt_or_ge t Cd.tagL.length with h | h
  · have : ∀ x ∈ Cd.tagL, x.length ≤ 11 := by decide
    rw [List.getD, List.getElem?_eq_getElem h]; exact this _ (List.getElem_mem _)
  · rw [List.getD, List.getElem?_eq_none h]; simp

/-- strings.HasSuffix at a blank. -/
theorem suffix_sp (s : ByteArray) (hs : s.size ≤ 9223372036854775807) (x : Bool) (hx : Cd.sp s.data.toList = x) : ∀ w, Calls Tryz.prog 98 #[.string s, .string ⟨#[32]⟩] w fun e w' => e = .returned (.bool x) ∧ w' = w := fun w => by
  have := Tryz.strings_HasSuffix s ⟨#[32]⟩ w hs
  rw [show (⟨#[32]⟩ : ByteArray).data.toList = [32] from rfl] at this
  unfold Cd.sp at hx
  rw [hx] at this
  exact this

theorem itoa_str (a : Int) (ha : in64 a) (t : ByteArray) (ht : bs (Lib.itoa a) = t) (h : Vars w) : Calls Tryz.prog 42 #[.int .i64 a] w fun e w' => e = .returned (.string t) ∧ Same [] w w' :=
  (Tryz.strconv_Itoa a ha.1 ha.2 w h.pow).mono fun e w' ⟨he, k, os, hg⟩ => ⟨by rw [he, ← ht]; rfl, Same.grown hg⟩
theorem format_str (a : Int) (ha : in64 a) (t : ByteArray) (ht : bs (Lib.itoa a) = t) (h : Vars w) : Calls Tryz.prog 99 #[.int .i64 a, .int .i64 10] w fun e w' => e = .returned (.string t) ∧ Same [] w w' :=
  (Tryz.strconv_FormatInt_10 a ha.1 ha.2 w h.pow).mono fun e w' ⟨he, k, os, hg⟩ => ⟨by rw [he, ← ht]; rfl, Same.grown hg⟩

theorem list_size (s : ByteArray) {l : List UInt8} (h : s.data.toList = l) : s.size = l.length := by
  rw [← h]; simp

set_option maxHeartbeats 1000000 in
theorem instr_any (i : Cd.In) (hop : 1 ≤ i.op ∧ i.op ≤ 18) (ha : in64 i.a) (h : Vars w) : Calls Tryz.prog 43 #[.agg #[.int .u8 i.op, .int .i64 i.a]] w fun e w' => e = .returned (.string (bs (Cd.instrT i))) ∧ Same [] w w' := by
  obtain ⟨op, a⟩ := i
  dsimp only at *
  obtain ⟨o, rfl⟩ : ∃ o : Nat, op = o := ⟨op.toNat, by omega⟩
  have hc := h.called o (by omega)
  have hz : 1 < w.heap.size := Nat.lt_of_lt_of_le (by decide) h.size
  obtain ⟨s, hs⟩ : ∃ s : ByteArray, (⟨#[32]⟩ : ByteArray) ++ callS o = s := ⟨_, rfl⟩
  have hsl : s.data.toList = 32 :: Cd.calledL.getD o [] := by rw [← hs, Joins.data_append]; rfl
  have hsz : s.size ≤ 12 := by rw [list_size s hsl, List.length_cons]; have := called_short o; omega
  have hq : ¬ 9223372036854775807 < 1 + (callS o).size := by
    have := called_short o
    rw [list_size (callS o) (l := Cd.calledL.getD o []) rfl]; omega
  obtain ⟨t, ht⟩ : ∃ t, bs (Lib.itoa a) = t := ⟨_, rfl⟩
  have htl : t.data.toList = Lib.itoa a := by rw [← ht]; rfl
  have htz : t.size ≤ 21 := by rw [list_size t htl]; exact Lib.itoa_length_le a ha.1 ha.2
  have hq2 : ¬ 9223372036854775807 < s.size + t.size := by omega
  have HIT := Lib.hid (itoa_str (w := w.alloc (.cells #[.int .u8 o, .int .i64 a] 82)) a ha t ht (h.frame ((Same.refl [] w).alloc _) (by simp)))
  have HT : Hid (∀ x, Cd.sp s.data.toList = x → Cd.instrT ⟨o, a⟩ = if x = true then s.data.toList ++ t.data.toList else s.data.toList) := Lib.hid (fun x hx => by
    unfold Cd.instrT Cd.numd Cd.nameI
    rw [← hx, htl, hsl]; rfl)
  clear h hsl ht htl
  cases hb : Cd.sp s.data.toList
  · have hsuf := suffix_sp s (by omega) _ hb
    have HB := Lib.hid hb
    clear hb
    go_enter Tryz.func43, Tryz.ntmps43
    go_wp2_with (go_at_call 98; refine (hsuf _).mono ?_; rintro e w' ⟨rfl, rfl⟩)
    go_ret
    refine ⟨ret_str ?_, (Same.refl _ _).alloc _⟩
    rw [HT.out _ HB.out]; rfl
  · have hsuf := suffix_sp s (by omega) _ hb
    have HB := Lib.hid hb
    clear hb
    go_enter Tryz.func43, Tryz.ntmps43
    go_wp2_with (first
      | (go_at_call 98; refine (hsuf _).mono ?_; rintro e w' ⟨rfl, rfl⟩)
      | (go_at_call 42; refine HIT.out.mono ?_; rintro e w2 ⟨rfl, hs2⟩; have HS2 := Lib.hid hs2; clear hs2))
    go_ret
    refine ⟨ret_str ?_, ((Same.refl _ _).alloc _).trans HS2.out⟩
    rw [HT.out _ HB.out, if_pos rfl, bs_list, Joins.data_append]

set_option maxHeartbeats 1000000 in
theorem constant_any (x : Int) (hx : 0 ≤ x ∧ x < 18446744073709551616) (hw : Cd.isWord x = true) (h8 : Cd.wordT x ≤ 7) (h : Vars w) : Calls Tryz.prog 41 #[.int .u64 x] w fun e w' => e = .returned (.string (bs (Cd.constT x))) ∧ Same [] w w' := by
  have hof := of_any (w := w) x hx h
  rw [hw, if_pos rfl] at hof
  have ht1 : 1 ≤ Cd.wordT x := by
    unfold Cd.isWord at hw
    rw [Bool.and_eq_true, decide_eq_true_eq] at hw
    exact hw.1.1
  have hn : in64 (Cd.wordN x) := by
    have : Cd.wordN x = Cd.signed x / 16 := rfl
    unfold in64
    rw [this]
    unfold Cd.signed
    split <;> omega
  obtain ⟨o, ho⟩ : ∃ o : Nat, Cd.wordT x = o := ⟨(Cd.wordT x).toNat, by omega⟩
  obtain ⟨a, haE⟩ : ∃ a, Cd.wordN x = a := ⟨_, rfl⟩
  rw [ho, haE] at hof
  rw [haE] at hn
  have hc := h.tags o (by omega)
  have hz : 0 < w.heap.size := Nat.lt_of_lt_of_le (by decide) h.size
  obtain ⟨s, hs⟩ : ∃ s : ByteArray, (⟨#[99, 111, 110, 115, 116, 32]⟩ : ByteArray) ++ tagS o = s := ⟨_, rfl⟩
  have hsl : s.data.toList = Cd.constB ++ Cd.tagL.getD o [] := by rw [← hs, Joins.data_append]; rfl
  have hsz : s.size ≤ 18 := by rw [list_size s hsl, List.length_append]; have := tag_short o; have : Cd.constB.length = 6 := rfl; omega
  have hq : ¬ 9223372036854775807 < 6 + (tagS o).size := by
    have := tag_short o
    rw [list_size (tagS o) (l := Cd.tagL.getD o []) rfl]; omega
  obtain ⟨t, ht⟩ : ∃ t, bs (Lib.itoa a) = t := ⟨_, rfl⟩
  have htl : t.data.toList = Lib.itoa a := by rw [← ht]; rfl
  have htz : t.size ≤ 21 := by rw [list_size t htl]; exact Lib.itoa_length_le a hn.1 hn.2
  have hq2 : ¬ 9223372036854775807 < s.size + t.size := by omega
  have HIT := Lib.hid (format_str (w := w) a hn t ht h)
  have HT : Hid (∀ y, Cd.sp s.data.toList = y → Cd.constT x = if y = true then s.data.toList ++ t.data.toList else s.data.toList) := Lib.hid (fun y hy => by
    unfold Cd.constT Cd.numd Cd.nameT
    rw [ho, haE, ← hy, htl, hsl]; rfl)
  have HOF := Lib.hid hof
  have ho7 : o ≤ 7 := by omega
  clear h hsl ht htl hof hw h8 ht1 ho haE hn hx
  cases hb : Cd.sp s.data.toList
  · have hsuf := suffix_sp s (by omega) _ hb
    have HB := Lib.hid hb
    clear hb
    go_enter Tryz.func41, Tryz.ntmps41
    go_wp2_with (first
      | (go_at_call 91; refine HOF.out.mono ?_; rintro e w' ⟨rfl, rfl⟩)
      | (go_at_call 98; refine (hsuf _).mono ?_; rintro e w' ⟨rfl, rfl⟩))
    go_ret
    refine ⟨ret_str ?_, Same.refl _ _⟩
    rw [HT.out _ HB.out]; rfl
  · have hsuf := suffix_sp s (by omega) _ hb
    have HB := Lib.hid hb
    clear hb
    go_enter Tryz.func41, Tryz.ntmps41
    go_wp2_with (first
      | (go_at_call 91; refine HOF.out.mono ?_; rintro e w' ⟨rfl, rfl⟩)
      | (go_at_call 98; refine (hsuf _).mono ?_; rintro e w' ⟨rfl, rfl⟩)
      | (go_at_call 99; refine HIT.out.mono ?_; rintro e w2 ⟨rfl, hs2⟩; have HS2 := Lib.hid hs2; clear hs2))
    go_ret
    refine ⟨ret_str ?_, HS2.out⟩
    rw [HT.out _ HB.out, if_pos rfl, bs_list, Joins.data_append]
end Ck
end Go.Proofs.YticaipedpcmhfaaGreatDoor
