/- A thread's stack: room, push, top, drop, value. -/
import Derived.Test.YtkepcdbogeineaaGreatDoorVmE
import Derived.Deep.AppendLies
import Derived.Deep.RegionLaw
namespace Go.Proofs.YtkepcdbogeineaaGreatDoor
open Go.RowKit Hp Ck
namespace Vm
variable {w w' W W' : World} {T M : Nat} {cv pv gv fv sv rv : Value} {kvs : List Value} {th th' : Th} {FC FT : List Nat}

theorem st_lit (h : ThAt w T M cv pv gv fv sv rv kvs th FC FT) : ∃ A C, sv = .slice A th.st.length C := own_lit h.st

set_option maxHeartbeats 2000000 in
set_option maxRecDepth 100000 in
theorem room_yes (h : ThAt w T M cv pv gv fv sv rv kvs th FC FT) (hl : th.st.length < 256) : Calls Tryz.prog 76 #[.pointer (some ⟨T, 0, none⟩)] w fun e w' => e = .returned (.tuple #[]) ∧ w = w' := by
  obtain ⟨A, C, rfl⟩ := st_lit h
  obtain ⟨n, hn⟩ : ∃ n, n = th.st.length := ⟨_, rfl⟩
  have c5 : w.cell? ⟨T, 5, none⟩ = some (.slice A n C) := by rw [hn]; exact h.b.cell 5
  rw [← hn] at hl
  clear h hn
  have hl' : (n : Int) < 256 := by omega
  have hd : decide ((n : Int) < 256) = true := decide_eq_true hl'
  go_enter Tryz.func76, Tryz.ntmps76
  go_wp2_with fail
  refine (need_yes 180).mono ?_
  rintro e w2 ⟨rfl, rfl⟩
  go_wp2_with fail
  go_end0
  exact ⟨rfl, rfl⟩
set_option maxHeartbeats 2000000 in
set_option maxRecDepth 100000 in
theorem room_no (h : ThAt w T M cv pv gv fv sv rv kvs th FC FT) (hl : 256 ≤ th.st.length) : Calls Tryz.prog 76 #[.pointer (some ⟨T, 0, none⟩)] w fun e w' => e = .panicked [{ v := .iface 88 (.agg #[.int .i64 180]), recovered := false }] ∧ w = w' := by
  obtain ⟨A, C, rfl⟩ := st_lit h
  obtain ⟨n, hn⟩ : ∃ n, n = th.st.length := ⟨_, rfl⟩
  have c5 : w.cell? ⟨T, 5, none⟩ = some (.slice A n C) := by rw [hn]; exact h.b.cell 5
  rw [← hn] at hl
  clear h hn
  have hl' : ¬ (n : Int) < 256 := by omega
  have hd : decide ((n : Int) < 256) = false := decide_eq_false hl'
  go_enter Tryz.func76, Tryz.ntmps76
  go_wp2_with fail
  refine (need_no 180).mono ?_
  rintro e w2 ⟨rfl, rfl⟩
  exact ⟨rfl, rfl, rfl⟩

theorem infoV_W : (Tryz.prog.info? 30).map (fun i => (i.zero, i.size, i.bytes)) = some (some (.int .u64 0), 1, 8) := by kernel_rfl

/-- A word more on the stack. -/
theorem ThAt.pushed {A : Option Addr} {C g C' : Nat} {x : Int} {w5 : World} (h : ThAt w T M cv pv gv fv (.slice A th.st.length C) rv kvs th FC FT)
    (hown : Ow w5 30 1 (.slice (some ⟨g, 0, none⟩) (th.st.length + 1) C') (th.st.length + 1) (th.st.map (Value.int .u64) ++ [.int .u64 x])) (hs : Same (Value.slice A th.st.length C).ownBlock.toList w w5) (hat : (Value.slice A th.st.length C).ownBlock = some g ∨ w.heap.size ≤ g) (hlt : g < w5.heap.size) :
    Gs w T M cv pv gv kvs { th with st := th.st ++ [x] } FC FT (w5.setCell ⟨T, 5, none⟩ (.slice (some ⟨g, 0, none⟩) (th.st.length + 1) C')) := by
  have hsF : Same FT w w5 := hs.mono (fun y hy => .inl (h.inS y (by simpa using hy)))
  have hb5 : Blk w5 T 84 (thC M cv pv gv fv (.slice A th.st.length C) rv th) := Blk.frame h.b hs (fun hm => h.sne T (by simpa using hm) (by simp))
  have hgT : g ≠ T := fun e => by
    rcases hat with h1 | h1
    · exact h.sne g h1 (by rw [e]; simp)
    · have := h.b.lt; omega
  have hS : Same FT w (w5.setCell ⟨T, 5, none⟩ (.slice (some ⟨g, 0, none⟩) (th.st.length + 1) C')) := hsF.setCell (.inl h.inT) _
  have hS1 : Same [T] w5 (w5.setCell ⟨T, 5, none⟩ (.slice (some ⟨g, 0, none⟩) (th.st.length + 1) C')) := (Same.refl _ _).setCell (by simp) _
  refine ⟨fv, .slice (some ⟨g, 0, none⟩) (th.st.length + 1) C', rv, g :: FT, h.upd (th' := { th with st := th.st ++ [x] }) hS ?_ rfl ?_ ?_ ?_ (List.mem_cons_of_mem _ h.inT) (fun b hb => List.mem_cons_of_mem _ (h.inF b hb)) (fun b hb => ?_) (fun b hb => List.mem_cons_of_mem _ (h.inR b hb)) (fun b hb hr => ?_) (fun b hb => ?_) (fun b hb => ?_), hS, fun b hb => ?_⟩
  · exact Blk.set hb5 5 _
  · exact (h.fr.frame hs (fun b hb hm => h.fr.ne h.st (by decide) hb (by simpa using hm))).frame hS1 h.fne
  · have h2 := hown.frame hS1 (fun b hb hm => hgT (by cases hb; simpa using hm))
    simpa using h2
  · refine (h.rq.frame hs (fun b hb hm => h.srd b (by simpa using hm) hb)).frame hS1 h.rne
  · cases hb; simp
  · have hbg : b = g := by cases hb; rfl
    subst hbg
    rcases hat with h1 | h1
    · exact h.srd b h1 hr
    · obtain ⟨n, xs, ho⟩ := h.rq.type
      have := ho.lt hr; omega
  · rcases List.mem_cons.1 hb with h1 | h1
    · subst h1
      rcases hat with h2 | h2
      · exact .inl (h.inS b h2)
      · exact .inr h2
    · exact .inl h1
  · rcases List.mem_cons.1 hb with h1 | h1
    · subst h1; simpa using hlt
    · exact Nat.lt_of_lt_of_le (h.tl b h1) hS.size
  · rcases List.mem_cons.1 hb with h1 | h1
    · subst h1
      rcases hat with h2 | h2
      · exact .inl (h.inS b h2)
      · exact .inr h2
    · exact .inl h1

set_option maxHeartbeats 2000000 in
set_option maxRecDepth 100000 in
theorem push_any (h : ThAt w T M cv pv gv fv sv rv kvs th FC FT) (hl : th.st.length < 256) (x : Int) : Calls Tryz.prog 68 #[.pointer (some ⟨T, 0, none⟩), .int .u64 x] w fun e w' => e = .returned (.tuple #[]) ∧ Gs w T M cv pv gv kvs { th with st := th.st ++ [x] } FC FT w' := by
  have HR := Lib.hid (room_yes h hl)
  obtain ⟨A, C, rfl⟩ := st_lit h
  obtain ⟨i0, hi1, hz0, hz1, hz2⟩ := info_parts infoV_W
  have HI0 := Lib.hid (And.intro hi1 (And.intro hz0 (And.intro hz1 hz2)))
  have c5 : w.cell? ⟨T, 5, none⟩ = some (.slice A th.st.length C) := h.b.cell 5
  have tz := h.b.lt
  have tf := h.b.frozen
  have H := Lib.hid h
  have HT : Hid (T ∉ (Value.slice A th.st.length C).ownBlock.toList) := Lib.hid (fun hm => h.sne T (by simpa using hm) (by simp))
  clear h hi1 hz0 hz1 hz2
  go_enter Tryz.func68, Tryz.ntmps68
  go_wp2_with fail
  refine HR.out.mono ?_
  rintro e w2 ⟨rfl, rfl⟩
  go_wp2_with (at_builtin; refine wpList_append_lies _ rfl (.tmp 10) (.tmp 12) 23 rfl 0 30 i0 _ 1 8 Tryz.underlying23 HI0.out.1 HI0.out.2.1 HI0.out.2.2.1 HI0.out.2.2.2 rfl (by decide) (.slice A th.st.length C) th.st.length (th.st.map (Value.int .u64)) rfl (H.out.st.frame ((Same.refl [] w).alloc _) (by simp)) _ 1 1 [.int .u64 x] rfl rfl (cells1_new _ _ _) (by intro u hu; simp at hu; subst hu; rfl) (by omega) (by unfold maxLen; omega) (by omega) (Nat.zero_le _) _ rfl ?_)
  intro g C' w5 hown hgrow hat hlt
  have hsA : Same (Value.slice A th.st.length C).ownBlock.toList w w5 := ((Same.refl _ w).alloc _).trans (Same.of_grown hgrow)
  have hx1 := (hsA.cell tz HT.out).trans c5
  have hx2 : ∀ j, w5.frozen? ⟨T, j, none⟩ = false := (fun j => (hsA.frozen tz HT.out).trans (tf j))
  have HG := Lib.hid (H.out.pushed (x := x) hown hsA (by
    rcases hat with h | h
    · exact .inl h
    · right; rw [h]; simp) hlt)
  clear hown hgrow hat hlt hsA
  go_wp2_with fail
  go_end0
  exact ⟨rfl, HG.out⟩
/-- The word so far from the top. -/
def Th.at (th : Th) (n : Nat) : Int := th.st.getD (th.st.length - 1 - n) 0

theorem cap_le (h : ThAt w T M cv pv gv fv sv rv kvs th FC FT) {A : Option Addr} {C : Nat} (e : sv = .slice A th.st.length C) : th.st.length ≤ C ∧ C ≤ 9223372036854775807 := by
  have hs := h.st.2
  rcases hs with ⟨e1, h0⟩ | ⟨g, cap, cur, e1, _, _, h1, h2, _⟩
  · rw [e1] at e
    injection e with _ e2 e3
    omega
  · rw [e1] at e
    injection e with _ _ e3
    unfold maxLen at h2
    omega

set_option maxHeartbeats 2000000 in
set_option maxRecDepth 100000 in
theorem top_any (h : ThAt w T M cv pv gv fv sv rv kvs th FC FT) (n : Nat) (hn : n < th.st.length) : Calls Tryz.prog 75 #[.pointer (some ⟨T, 0, none⟩), .int .i64 n] w fun e w' => ∃ g C, sv = .slice (some ⟨g, 0, none⟩) th.st.length C ∧ e = .returned (.pointer (some ⟨g, th.st.length - 1 - n, none⟩)) ∧ w.cell? ⟨g, th.st.length - 1 - n, none⟩ = some (.int .u64 (th.at n)) ∧ w.frozen? ⟨g, th.st.length - 1 - n, none⟩ = false ∧ g < w.heap.size ∧ g ∈ FT ∧ Same [] w w' := by
  obtain ⟨g, C, rfl⟩ : ∃ g C, sv = .slice (some ⟨g, 0, none⟩) th.st.length C := by
    rcases h.st.2 with ⟨_, h0⟩ | ⟨g, cap, cur, e, _⟩
    · omega
    · exact ⟨g, cap, e⟩
  obtain ⟨hc1, hc2⟩ := cap_le h rfl
  obtain ⟨k1, k2⟩ := own_cell h.st (th.st.length - 1 - n) (by omega)
  have hgz := h.st.lt (show (Value.slice (some ⟨g, 0, none⟩) th.st.length C).ownBlock = some g from rfl)
  have hgF := h.inS g rfl
  have k3 : (th.st.map (Value.int .u64))[th.st.length - 1 - n]? = some (.int .u64 (th.at n)) := by
    rw [List.getElem?_map, List.getElem?_eq_getElem (by omega)]
    unfold Th.at
    rw [List.getD_eq_getElem?_getD, List.getElem?_eq_getElem (by omega)]
    rfl
  have hcell := Lib.hid (k1.trans k3)
  have hfz := Lib.hid k2
  obtain ⟨l, hl⟩ : ∃ l, l = th.st.length := ⟨_, rfl⟩
  have c5 : w.cell? ⟨T, 5, none⟩ = some (.slice (some ⟨g, 0, none⟩) l C) := by rw [hl]; exact h.b.cell 5
  rw [← hl] at hcell hfz hn hc1 ⊢
  have e1 : IntKind.i64.wrap ((l : Int) - 1) = (l : Int) - 1 := by rw [IntKind.wrap_i64]; omega
  have e2 : IntKind.i64.wrap ((l : Int) - 1 - (n : Int)) = (l : Int) - 1 - (n : Int) := by rw [IntKind.wrap_i64]; omega
  have e3 : (0 : Int) ≤ (l : Int) - 1 - (n : Int) := by omega
  have e4 : ((l : Int) - 1 - (n : Int)) < (l : Int) := by omega
  have e5 : ((l : Int) - 1 - (n : Int)).toNat = l - 1 - n := by omega
  clear h hl k1 k2 k3
  go_enter Tryz.func75, Tryz.ntmps75
  go_wp2_with fail
  go_quiet (fail)
  go_wp2_with fail
  go_ret
  exact ⟨g, C, rfl, by simp, hcell.out, hfz.out, hgz, hgF, (Same.refl _ _).drewN _⟩

/-- Words let go. -/
theorem ThAt.dropped {A : Option Addr} {C n : Nat} {w5 : World} (h : ThAt w T M cv pv gv fv (.slice A th.st.length C) rv kvs th FC FT) (hn : n ≤ th.st.length) (hs : Same [] w w5) :
    ThAt (w5.setCell ⟨T, 5, none⟩ (.slice A (th.st.length - n) C)) T M cv pv gv fv (.slice A (th.st.length - n) C) rv kvs { th with st := th.st.take (th.st.length - n) } FC FT := by
  have h5 := h.frame0 hs
  have hb : ∀ b, (Value.slice A (th.st.length - n) C).ownBlock = some b → (Value.slice A th.st.length C).ownBlock = some b := fun b hb => by
    rcases A with _ | ⟨g, o, s⟩
    · cases hb
    · simpa [Value.ownBlock] using hb
  have hS : Same FT w5 (w5.setCell ⟨T, 5, none⟩ (.slice A (th.st.length - n) C)) := (Same.refl _ _).setCell (.inl h.inT) _
  have hS1 : Same [T] w5 (w5.setCell ⟨T, 5, none⟩ (.slice A (th.st.length - n) C)) := (Same.refl _ _).setCell (by simp) _
  have hpre : Ow w5 30 1 (.slice A (th.st.length - n) C) (th.st.length - n) ((th.st.take (th.st.length - n)).map (Value.int .u64)) := by
    have hr := (Row.of_own h5.st).pre (k := th.st.length - n) (by omega)
    rw [Nat.mul_one, ← List.map_take] at hr
    refine ⟨hr.1, ?_⟩
    rcases h5.st.2 with ⟨e1, h0⟩ | ⟨g, cap, cur, e1, g0, g1, g2, g3, g4, g5⟩
    · injection e1 with q1 q2 q3
      subst q1 q3
      exact .inl ⟨by rw [show th.st.length - n = 0 from by omega], by omega⟩
    · injection e1 with q1 q2 q3
      subst q1 q3
      refine .inr ⟨g, C, cur, rfl, g0, g1, by omega, g3, g4, ?_⟩
      rw [List.map_take, ← g5, List.take_take]
      congr 1
      omega
  refine h5.upd hS ?_ rfl ?_ ?_ ?_ h.inT h.inF (fun b hb' => h.inS b (hb b hb')) h.inR (fun b hb' => h.srd b (hb b hb')) (fun b hb => .inl hb) (fun b hb => Nat.lt_of_lt_of_le (h5.tl b hb) hS.size)
  · exact Blk.set h5.b 5 _
  · exact h5.fr.frame hS1 h5.fne
  · have hl : (th.st.take (th.st.length - n)).length = th.st.length - n := by rw [List.length_take]; omega
    show Ow _ _ 1 _ (th.st.take (th.st.length - n)).length _
    rw [hl]
    exact hpre.frame hS1 (fun b hb' => h5.sne b (hb b hb'))
  · exact h5.rq.frame hS1 h5.rne

set_option maxHeartbeats 2000000 in
set_option maxRecDepth 100000 in
theorem drop_any (h : ThAt w T M cv pv gv fv sv rv kvs th FC FT) (n : Nat) (hn : n ≤ th.st.length) : Calls Tryz.prog 80 #[.pointer (some ⟨T, 0, none⟩), .int .i64 n] w fun e w' => ∃ sv', e = .returned (.tuple #[]) ∧ ThAt w' T M cv pv gv fv sv' rv kvs { th with st := th.st.take (th.st.length - n) } FC FT ∧ Same FT w w' := by
  obtain ⟨A, C, rfl⟩ := st_lit h
  obtain ⟨hc1, hc2⟩ := cap_le h rfl
  have H := Lib.hid h
  obtain ⟨l, hl⟩ : ∃ l, l = th.st.length := ⟨_, rfl⟩
  have c5 : w.cell? ⟨T, 5, none⟩ = some (.slice A l C) := by rw [hl]; exact h.b.cell 5
  have tf := h.b.frozen
  have hA : A = none → l = 0 ∧ C = 0 := fun e => by
    subst e
    rcases h.st.2 with ⟨e1, h0⟩ | ⟨g, cap, cur, e1, _⟩
    · injection e1 with _ q2 q3
      exact ⟨by omega, q3⟩
    · cases e1
  have HL := Lib.hid hl
  rw [← hl] at hn hc1
  have e1 : IntKind.i64.wrap ((l : Int) - (n : Int)) = (l : Int) - (n : Int) := by rw [IntKind.wrap_i64]; omega
  have e3 : (0 : Int) ≤ (l : Int) - (n : Int) := by omega
  have e4 : ((l : Int) - (n : Int)) ≤ (C : Int) := by omega
  have e5 : ((l : Int) - (n : Int)).toNat = l - n := by omega
  clear h hl
  cases A with
  | none =>
    obtain ⟨rfl, rfl⟩ := hA rfl
    obtain rfl : n = 0 := by omega
    go_enter Tryz.func80, Tryz.ntmps80
    go_wp2_with fail
    go_region
    all_goals
      go_wp2_with fail
      go_end0
      have hd := (H.out.dropped (n := 0) (Nat.zero_le _) (Same.refl [] w)).frame0 ((Same.refl [] _).drew)
      rw [← HL.out] at hd
      exact ⟨.slice none 0 0, rfl, by rw [← HL.out]; exact hd, ((Same.refl FT w).setCell (.inl H.out.inT) _).drew⟩
  | some ad =>
    clear hA
    go_enter Tryz.func80, Tryz.ntmps80
    go_wp2_with fail
    go_region
    all_goals
      go_wp2_with fail
      go_end0
      have hl := HL.out
      subst hl
      exact ⟨.slice (some ad) (th.st.length - n) C, rfl, (H.out.dropped hn (Same.refl [] w)).frame0 ((Same.refl [] _).drew), ((Same.refl FT w).setCell (.inl H.out.inT) _).drew⟩
end Vm
end Go.Proofs.YtkepcdbogeineaaGreatDoor
