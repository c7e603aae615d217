/- A thread's calls: value; what is over. -/
import Derived.Test.YtkepcdbogeineaaGreatDoorVmF
namespace Go.Proofs.YtkepcdbogeineaaGreatDoor
open Go.RowKit Hp Ck
namespace Vm
variable {w w' w1 W W' : World} {T M : Nat} {cv pv gv fv sv rv : Value} {kvs : List Value} {th th' : Th} {FC FT FT1 : List Nat}

theorem Gs.of (h : ThAt w' T M cv pv gv fv sv rv kvs th' FC FT) (hs : Same FT w w') : Gs w T M cv pv gv kvs th' FC FT w' := ⟨fv, sv, rv, FT, h, hs, fun _ hb => .inl hb⟩
theorem Gs.trans (hs : Same FT w w1) (hF : ∀ b ∈ FT1, b ∈ FT ∨ w.heap.size ≤ b) (h : Gs w1 T M cv pv gv kvs th' FC FT1 w') : Gs w T M cv pv gv kvs th' FC FT w' := by
  obtain ⟨fv, sv, rv, F2, h1, h2, h3⟩ := h
  refine ⟨fv, sv, rv, F2, h1, hs.trans' h2 hF, fun b hb => ?_⟩
  rcases h3 b hb with h4 | h4
  · exact hF b h4
  · exact .inr (Nat.le_trans hs.size h4)
theorem Gs.drew (h : Gs w T M cv pv gv kvs th' FC FT w') : Gs w T M cv pv gv kvs th' FC FT w'.drew := by
  obtain ⟨fv, sv, rv, F2, h1, h2, h3⟩ := h
  exact ⟨fv, sv, rv, F2, h1.frame0 ((Same.refl [] _).drew), h2.drew, h3⟩

/-- Words let go, one pushed, on to the next instruction. -/
def Th.value (th : Th) (n : Nat) (x : Int) : Th := ({ th with st := th.st.take (th.st.length - n) ++ [x] } : Th).next

set_option maxHeartbeats 2000000 in
set_option maxRecDepth 100000 in
theorem value_any (h : ThAt w T M cv pv gv fv sv rv kvs th FC FT) (n : Nat) (hn : n ≤ th.st.length) (hl : th.st.length ≤ 1000000) (x : Int) (hf : th.fr ≠ []) (ha : th.top.at_ ≤ 1000000) :
    Calls Tryz.prog 73 #[.pointer (some ⟨T, 0, none⟩), .int .i64 n, .int .u64 x] w fun e w' => e = .returned (.tuple #[]) ∧ Gs w T M cv pv gv kvs (th.value n x) FC FT w' := by
  have HD := Lib.hid (drop_any h n hn)
  obtain ⟨i0, hi1, hz0, hz1, hz2⟩ := info_parts infoV_W
  have HI0 := Lib.hid (And.intro hi1 (And.intro hz0 (And.intro hz1 hz2)))
  clear h hi1 hz0 hz1 hz2
  go_enter Tryz.func73, Tryz.ntmps73
  go_wp2_with fail
  refine HD.out.mono ?_
  rintro e w1 ⟨sv1, rfl, h1, hs1⟩
  obtain ⟨th1, hth1⟩ : ∃ t, t = ({ th with st := th.st.take (th.st.length - n) } : Th) := ⟨_, rfl⟩
  rw [← hth1] at h1
  have hl1 : th1.st.length ≤ 1000000 := by rw [hth1]; simp only [List.length_take]; omega
  obtain ⟨A, C, rfl⟩ := st_lit h1
  have c5 : w1.cell? ⟨T, 5, none⟩ = some (.slice A th1.st.length C) := h1.b.cell 5
  have tz := h1.b.lt
  have tf := h1.b.frozen
  have H1 := Lib.hid h1
  have HS1 := Lib.hid hs1
  have HT1 := Lib.hid hth1
  have HT : Hid (T ∉ (Value.slice A th1.st.length C).ownBlock.toList) := Lib.hid (fun hm => h1.sne T (by simpa using hm) (by simp))
  clear h1 hs1 hth1 HD
  go_wp2_with (at_builtin; refine wpList_append_lies _ rfl (.tmp 13) (.tmp 15) 23 rfl 0 30 i0 _ 1 8 Tryz.underlying23 HI0.out.1 HI0.out.2.1 HI0.out.2.2.1 HI0.out.2.2.2 rfl (by decide) (.slice A th1.st.length C) th1.st.length (th1.st.map (Value.int .u64)) rfl (H1.out.st.frame ((Same.refl [] w1).alloc _) (by simp)) _ 1 1 [.int .u64 x] rfl rfl (cells1_new _ _ _) (by intro u hu; simp at hu; subst hu; rfl) (by omega) (by unfold maxLen; omega) (by omega) (Nat.zero_le _) _ rfl ?_)
  intro g C' w5 hown hgrow hat hlt
  have hsA : Same (Value.slice A th1.st.length C).ownBlock.toList w1 w5 := ((Same.refl _ w1).alloc _).trans (Same.of_grown hgrow)
  have hx1 := (hsA.cell tz HT.out).trans c5
  have hx2 : ∀ j, w5.frozen? ⟨T, j, none⟩ = false := (fun j => (hsA.frozen tz HT.out).trans (tf j))
  have HG := Lib.hid (H1.out.pushed (x := x) hown hsA (by
    rcases hat with h | h
    · exact .inl h
    · right; rw [h]; simp) hlt)
  clear hown hgrow hat hlt hsA c5 tf
  go_wp2_with fail
  obtain ⟨fv2, sv2, rv2, F2, h2, hs2, hF2⟩ := HG.out
  have HN := Lib.hid (next_any h2 (by rw [HT1.out]; exact hf) (by rw [HT1.out]; exact ha))
  have HS2 := Lib.hid hs2
  have HF2 := Lib.hid hF2
  clear h2 hs2 hF2 HG hx1 hx2
  refine HN.out.mono ?_
  rintro e w6 ⟨rfl, hg⟩
  have HG6 := Lib.hid hg
  clear hg
  go_wp2_with fail
  go_end0
  refine ⟨rfl, ?_⟩
  have h7 := Gs.trans HS1.out (fun b hb => .inl hb) (Gs.trans HS2.out HF2.out HG6.out)
  rw [HT1.out] at h7
  exact h7

set_option maxHeartbeats 2000000 in
set_option maxRecDepth 100000 in
theorem over_any (h : ThAt w T M cv pv gv fv sv rv kvs th FC FT) (er : Int) :
    Calls Tryz.prog 32 #[.pointer (some ⟨T, 0, none⟩), .int .i64 er] w fun e w' => e = .returned (.tuple #[]) ∧ Gs w T M cv pv gv kvs { th with ended := true, word := 0, err := er } FC FT w' := by
  have t10 : w.cell? ⟨T, 10, none⟩ = some (.bool th.ended) := h.b.cell 10
  have t11 : w.cell? ⟨T, 11, none⟩ = some (.int .u64 th.word) := h.b.cell 11
  have t12 : w.cell? ⟨T, 12, none⟩ = some (.int .i64 th.err) := h.b.cell 12
  have tf := h.b.frozen
  have tz := h.b.lt
  have h1 := h.scal (th' := { th with ended := true }) 10 (.bool true) rfl rfl rfl rfl rfl
  have h2 := h1.scal (th' := { th with ended := true, word := 0 }) 11 (.int .u64 0) rfl rfl rfl rfl rfl
  have h3 := h2.scal (th' := { th with ended := true, word := 0, err := er }) 12 (.int .i64 er) rfl rfl rfl rfl rfl
  have H := Lib.hid (Gs.of h3 ((((Same.refl FT w).setCell (.inl h.inT) _).setCell (.inl h.inT) _).setCell (.inl h.inT) _))
  clear h h1 h2 h3
  go_enter Tryz.func32, Tryz.ntmps32
  go_wp2_with fail
  go_end0
  exact ⟨rfl, H.out⟩
end Vm
end Go.Proofs.YtkepcdbogeineaaGreatDoor
