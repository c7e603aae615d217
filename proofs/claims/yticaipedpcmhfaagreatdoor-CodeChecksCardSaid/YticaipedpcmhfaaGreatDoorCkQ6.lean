/- Layer 8, package code: read: lines of procedures; lines that are none. -/
import Derived.Test.YticaipedpcmhfaaGreatDoorCkQ4
namespace Go.Proofs.YticaipedpcmhfaaGreatDoor
open Go.RowKit Hp
namespace Ck
variable {w w' : World}

set_option maxHeartbeats 8000000 in
set_option maxRecDepth 100000 in
theorem read_none (s : ByteArray) (_hs : s.size ≤ 281474976710656) (cb : Nat) (c : Cd.Co) (F : List Nat)
    (hp0 : Lib.hasPrefix s.data.toList [32] = false) (hp1 : Lib.hasPrefix s.data.toList Cd.constB = false) (hp2 : Lib.hasPrefix s.data.toList Cd.globalB = false) (hp3 : Lib.hasPrefix s.data.toList Cd.procB = false) : Calls Tryz.prog 54 #[.pointer (some ⟨cb, 0, none⟩), .string s] w (ReadP cb F (Cd.lineR c s.data.toList) w) := by
  obtain ⟨r0, hr0⟩ : ∃ r, bs (Lib.trimPrefix s.data.toList [32]) = r := ⟨_, rfl⟩
  have hcut0 := cut_pre s ⟨#[32]⟩ false hp0 r0 hr0
  obtain ⟨r1, hr1⟩ : ∃ r, bs (Lib.trimPrefix s.data.toList Cd.constB) = r := ⟨_, rfl⟩
  have hcut1 := cut_pre s ⟨#[99, 111, 110, 115, 116, 32]⟩ false hp1 r1 hr1
  obtain ⟨r2, hr2⟩ : ∃ r, bs (Lib.trimPrefix s.data.toList Cd.globalB) = r := ⟨_, rfl⟩
  have hcut2 := cut_pre s ⟨#[103, 108, 111, 98, 97, 108, 32]⟩ false hp2 r2 hr2
  obtain ⟨r3, hr3⟩ : ∃ r, bs (Lib.trimPrefix s.data.toList Cd.procB) = r := ⟨_, rfl⟩
  have hcut3 := cut_pre s ⟨#[112, 114, 111, 99, 32]⟩ false hp3 r3 hr3
  have hL : Cd.lineR c s.data.toList = none := by
    unfold Cd.lineR; rw [if_neg (by rw [hp0]; simp), if_neg (by rw [hp1]; simp), if_neg (by rw [hp2]; simp), if_neg (by rw [hp3]; simp)]
  have HL := Lib.hid hL
  clear hL hp0 hp1 hp2 hp3 hr0 hr1 hr2 hr3
  go_enter Tryz.func54, Tryz.ntmps54
  go_wp2_with fail
  refine (hcut0 _).mono ?_
  rintro e w' ⟨rfl, rfl⟩
  go_wp2_with fail
  refine (hcut1 _).mono ?_
  rintro e w' ⟨rfl, rfl⟩
  go_wp2_with fail
  refine (hcut2 _).mono ?_
  rintro e w' ⟨rfl, rfl⟩
  go_wp2_with fail
  refine (hcut3 _).mono ?_
  rintro e w' ⟨rfl, rfl⟩
  go_wp2_with fail
  go_ret
  exact ⟨by rw [HL.out]; rfl, Same.refl _ _, fun d hd => by rw [HL.out] at hd; cases hd⟩

set_option maxHeartbeats 8000000 in
set_option maxRecDepth 100000 in
theorem read_proc (s : ByteArray) (hs : s.size ≤ 281474976710656) (h : Vars w) (cb : Nat) (cv pv gv : Value) (kvs : List Value) (c : Cd.Co) (F : List Nat) (ho : OC w cb cv pv gv kvs c F) (hsm : Small c 100000000)
    (hp0 : Lib.hasPrefix s.data.toList [32] = false) (hp1 : Lib.hasPrefix s.data.toList Cd.constB = false) (hp2 : Lib.hasPrefix s.data.toList Cd.globalB = false) (hp : Lib.hasPrefix s.data.toList Cd.procB = true) : Calls Tryz.prog 54 #[.pointer (some ⟨cb, 0, none⟩), .string s] w (ReadP cb F (Cd.lineR c s.data.toList) w) := by
  obtain ⟨r0, hr0⟩ : ∃ r, bs (Lib.trimPrefix s.data.toList [32]) = r := ⟨_, rfl⟩
  have hcut0 := cut_pre s ⟨#[32]⟩ false hp0 r0 hr0
  obtain ⟨r1, hr1⟩ : ∃ r, bs (Lib.trimPrefix s.data.toList Cd.constB) = r := ⟨_, rfl⟩
  have hcut1 := cut_pre s ⟨#[99, 111, 110, 115, 116, 32]⟩ false hp1 r1 hr1
  obtain ⟨r2, hr2⟩ : ∃ r, bs (Lib.trimPrefix s.data.toList Cd.globalB) = r := ⟨_, rfl⟩
  have hcut2 := cut_pre s ⟨#[103, 108, 111, 98, 97, 108, 32]⟩ false hp2 r2 hr2
  obtain ⟨r, hr⟩ : ∃ r, bs (Lib.trimPrefix s.data.toList Cd.procB) = r := ⟨_, rfl⟩
  have hcut := cut_pre s ⟨#[112, 114, 111, 99, 32]⟩ true hp r hr
  have hrl : r.data.toList = s.data.toList.drop Cd.procB.length := by rw [← hr, bs_list, trim_drop _ _ hp]
  have hrz : r.size ≤ 281474976710656 := Nat.le_trans (tp_size s ⟨#[112, 114, 111, 99, 32]⟩ r hr) hs
  have HPL := Lib.hid (place_any r hrz h)
  unfold Got at HPL
  rw [hrl] at HPL
  have hL : Cd.lineR c s.data.toList = match Cd.placeT (s.data.toList.drop Cd.procB.length) with | some n => some { c with procs := c.procs ++ [⟨n, []⟩] } | none => none := by
    unfold Cd.lineR; rw [if_neg (by rw [hp0]; simp), if_neg (by rw [hp1]; simp), if_neg (by rw [hp2]; simp), if_pos hp]; cases Cd.placeT (s.data.toList.drop Cd.procB.length) <;> rfl
  obtain ⟨A1, C1, hcv⟩ := ho.own.cr.lit
  obtain ⟨A2, C2, hpv⟩ := ho.own.pr.lit
  obtain ⟨A3, C3, hgv⟩ := ho.own.gr.lit
  subst hcv hpv hgv
  have b1 := ho.box.cell 1
  have bz := ho.box.lt
  have HO := Lib.hid ho
  have hpl : c.procs.length ≤ 100000000 := hsm.sc
  obtain ⟨i0, hi1, hz0, hz1, hz2⟩ := info_parts infoP
  have HI0 := Lib.hid (And.intro hi1 (And.intro hz0 (And.intro hz1 hz2)))
  have HL := Lib.hid hL
  clear ho hsm h hp hp0 hp1 hp2 hrl hr hr0 hr1 hr2 hL hi1 hz0 hz1 hz2
  go_enter Tryz.func54, Tryz.ntmps54
  go_wp2_with fail
  refine (hcut0 _).mono ?_
  rintro e w' ⟨rfl, rfl⟩
  go_wp2_with fail
  refine (hcut1 _).mono ?_
  rintro e w' ⟨rfl, rfl⟩
  go_wp2_with fail
  refine (hcut2 _).mono ?_
  rintro e w' ⟨rfl, rfl⟩
  go_wp2_with fail
  refine (hcut _).mono ?_
  rintro e w' ⟨rfl, rfl⟩
  go_wp2_with fail
  refine HPL.out.mono ?_
  rintro e w2 ⟨v, rfl, ⟨n, rfl, hn⟩, hv, hs2⟩
  have b1' := (hs2.cell bz (by simp)).trans b1
  have bz' := Nat.lt_of_lt_of_le bz hs2.size
  have HV := Lib.hid hv
  have ho2 := HO.out.own.frame hs2 (by simp)
  have HO2 := Lib.hid ho2
  have HBX := Lib.hid (HO.out.box.frame hs2 (by simp))
  have HS2 := Lib.hid hs2
  clear hs2 hv hn ho2 b1 bz
  go_wp2_with (at_builtin; refine wpList_append_lies _ rfl (.tmp 138) (.tmp 141) 23 rfl 0 68 i0 _ 2 32 Tryz.underlying23 HI0.out.1 HI0.out.2.1 HI0.out.2.2.1 HI0.out.2.2.2 rfl (by decide) (.slice A2 c.procs.length C2) c.procs.length (flatP c.procs kvs) rfl (HO2.out.pr.alloc _) _ 1 1 [.int .i64 n, .slice none 0 0] rfl rfl (news2 (blk_at rfl)) (one2 rfl rfl) (by omega) (by unfold maxLen; omega) (by omega) (Nat.zero_le _) _ rfl ?_)
  intro g C w5 hown hgrow hat hlt
  have hsA : Same (Value.slice A2 c.procs.length C2).ownBlock.toList w2 w5 := ((Same.refl _ w2).alloc _).trans (Same.of_grown hgrow)
  have hncb : cb ∉ (Value.slice A2 c.procs.length C2).ownBlock.toList := fun hm => (HO2.out.box_ne HBX.out).2.2.1 (by simpa using hm)
  have hbx5 := HBX.out.frame hsA hncb
  have x1 := hbx5.cell 1
  have xz := hbx5.lt
  have xf := hbx5.frozen
  have HB5 := Lib.hid hbx5
  have HA := Lib.hid hsA
  have HOWN := Lib.hid hown
  have HAT := Lib.hid hat
  clear hown hgrow hat hsA hncb hbx5 b1' bz'
  obtain ⟨ok, hok⟩ : ∃ ok, (Cd.placeT (s.data.toList.drop Cd.procB.length)).isSome = ok := ⟨_, rfl⟩
  rw [hok]
  have HOK := Lib.hid hok
  clear hok
  go_wp2_with fail
  go_ret
  have hat' : ∀ b, (Value.slice (some ⟨g, 0, none⟩) (c.procs.length + 1) C).ownBlock = some b → (Value.slice A2 c.procs.length C2).ownBlock = some b ∨ w2.heap.size ≤ b := fun b hb => by
    cases hb
    rcases HAT.out with h | h
    · exact .inl h
    · right; rw [h]; simp; try omega
  have hcf : ∀ b, (Value.slice A2 c.procs.length C2).ownBlock = some b → b ∈ F := fun b hb => HO.out.own.pf b hb
  have hsF : Same F w (w5.setCell ⟨cb, 1, none⟩ (.slice (some ⟨g, 0, none⟩) (c.procs.length + 1) C)) :=
    ((HS2.out.mono (fun x hx => by cases hx)).trans' HA.out (fun x hx => .inl (hcf x (by simpa using hx)))).setCell (.inl HO.out.mem) _
  have hfin := HO2.out.addProc ⟨n, []⟩ (.slice none 0 0) (v2 := .slice (some ⟨g, 0, none⟩) (c.procs.length + 1) C) (w' := w5) ⟨HA.out, hat'⟩ HOWN.out (World.ownsRow_nil _ _ _ _) (fun b hb => by cases hb)
  refine ⟨?_, hsF, fun d hd => ?_⟩
  · have e : ok = (Cd.lineR c s.data.toList).isSome := by
      rw [HL.out, ← HOK.out]
      cases Cd.placeT (s.data.toList.drop Cd.procB.length) <;> rfl
    rw [← e]
    rfl
  · rw [HL.out] at hd
    have hd' : d = { c with procs := c.procs ++ [⟨n, []⟩] } := by
      cases hpt : Cd.placeT (s.data.toList.drop Cd.procB.length) with
      | none => rw [hpt] at hd; cases hd
      | some m =>
        rw [hpt] at hd
        have hm := HV.out m hpt
        injection hm with _ hm
        subst hm
        injection hd with hd
        exact hd.symm
    rw [hd']
    have hst := hfin.setBox (i := 1) HB5.out (.slice (some ⟨g, 0, none⟩) (c.procs.length + 1) C)
    have hbox := HB5.out.set 1 (.slice (some ⟨g, 0, none⟩) (c.procs.length + 1) C)
    refine ⟨_, _, _, _, _, ⟨hbox, hst, by simp [HO.out.mem], fun b hb => ?_⟩, fun b hb => ?_⟩
    · have hb' : b = g ∨ b ∈ F := by simpa [Value.ownBlock] using hb
      rcases hb' with hb | hb
      · subst hb
        simpa using hlt
      · exact Nat.lt_of_lt_of_le (HO.out.lt b hb) hsF.size
    · have hb' : b = g ∨ b ∈ F := by simpa [Value.ownBlock] using hb
      rcases hb' with hb | hb
      · subst hb
        rcases hat' b rfl with h | h
        · exact .inl (hcf b h)
        · exact .inr (Nat.le_trans HS2.out.size h)
      · exact .inl hb
end Ck
end Go.Proofs.YticaipedpcmhfaaGreatDoor
