/- Layer 8, package code: read: lines of constants. -/
import Derived.Test.YticaipedpcmhfaaGreatDoorCkQ3
namespace Go.Proofs.YticaipedpcmhfaaGreatDoor
open Go.RowKit Hp
namespace Ck
variable {w w' : World}

theorem tp_size (s p : ByteArray) (r : ByteArray) (hr : bs (Lib.trimPrefix s.data.toList p.data.toList) = r) : r.size ≤ s.size := by
  have := trim_len s.data.toList p.data.toList
  rw [← hr, bs_size, list_size s rfl]
  exact this

set_option maxHeartbeats 8000000 in
set_option maxRecDepth 100000 in
theorem read_const (s : ByteArray) (hs : s.size ≤ 281474976710656) (h : Vars w) (cb : Nat) (cv pv gv : Value) (kvs : List Value) (c : Cd.Co) (F : List Nat) (ho : OC w cb cv pv gv kvs c F) (hsm : Small c 100000000)
    (hp0 : Lib.hasPrefix s.data.toList [32] = false) (hp : Lib.hasPrefix s.data.toList Cd.constB = true) : Calls Tryz.prog 54 #[.pointer (some ⟨cb, 0, none⟩), .string s] w (ReadP cb F (Cd.lineR c s.data.toList) w) := by
  obtain ⟨r0, hr0⟩ : ∃ r, bs (Lib.trimPrefix s.data.toList [32]) = r := ⟨_, rfl⟩
  have hcut0 := cut_pre s ⟨#[32]⟩ false hp0 r0 hr0
  obtain ⟨r, hr⟩ : ∃ r, bs (Lib.trimPrefix s.data.toList Cd.constB) = r := ⟨_, rfl⟩
  have hcut := cut_pre s ⟨#[99, 111, 110, 115, 116, 32]⟩ true hp r hr
  have hrl : r.data.toList = s.data.toList.drop Cd.constB.length := by rw [← hr, bs_list, trim_drop _ _ hp]
  have hrz : r.size ≤ 281474976710656 := Nat.le_trans (tp_size s ⟨#[99, 111, 110, 115, 116, 32]⟩ r hr) hs
  have HRC := Lib.hid (readConst_any r hrz h)
  unfold Got at HRC
  rw [hrl] at HRC
  have hL : Cd.lineR c s.data.toList = match Cd.constR (s.data.toList.drop Cd.constB.length) with | some x => if c.globals = [] ∧ c.procs = [] then some { c with consts := c.consts ++ [x] } else none | none => none := by
    unfold Cd.lineR; rw [if_neg (by rw [hp0]; simp), if_pos hp]; cases Cd.constR (s.data.toList.drop Cd.constB.length) <;> rfl
  obtain ⟨A1, C1, hcv⟩ := ho.own.cr.lit
  obtain ⟨A2, C2, hpv⟩ := ho.own.pr.lit
  obtain ⟨A3, C3, hgv⟩ := ho.own.gr.lit
  subst hcv hpv hgv
  have b0 := ho.box.cell 0
  have b1 := ho.box.cell 1
  have b2 := ho.box.cell 2
  have bz := ho.box.lt
  have HO := Lib.hid ho
  have hcl : c.consts.length ≤ 100000000 := hsm.sa
  have hgl : c.globals.length ≤ 100000000 := hsm.sb
  have hpl : c.procs.length ≤ 100000000 := hsm.sc
  obtain ⟨i0, hi1, hz0, hz1, hz2⟩ := info_parts infoW
  have HI0 := Lib.hid (And.intro hi1 (And.intro hz0 (And.intro hz1 hz2)))
  have HL := Lib.hid hL
  clear ho hsm h hp hp0 hrl hr hr0 hL hi1 hz0 hz1 hz2
  go_enter Tryz.func54, Tryz.ntmps54
  go_wp2_with fail
  refine (hcut0 _).mono ?_
  rintro e w' ⟨rfl, rfl⟩
  go_wp2_with fail
  refine (hcut _).mono ?_
  rintro e w' ⟨rfl, rfl⟩
  go_wp2_with fail
  refine HRC.out.mono ?_
  rintro e w2 ⟨v, rfl, ⟨n, rfl, hn⟩, hv, hs2⟩
  have b0' := (hs2.cell bz (by simp)).trans b0
  have b1' := (hs2.cell bz (by simp)).trans b1
  have b2' := (hs2.cell bz (by simp)).trans b2
  have bz' := Nat.lt_of_lt_of_le bz hs2.size
  have HV := Lib.hid hv
  have ho2 := HO.out.own.frame hs2 (by simp)
  have HO2 := Lib.hid ho2
  have HBX := Lib.hid (HO.out.box.frame hs2 (by simp))
  have HS2 := Lib.hid hs2
  clear hs2 hv hn ho2 b0 b1 b2 bz
  go_wp2_with (at_builtin; refine wpList_append_lies _ rfl (.tmp 77) (.tmp 79) 22 rfl 0 74 i0 _ 1 8 Tryz.underlying22 HI0.out.1 HI0.out.2.1 HI0.out.2.2.1 HI0.out.2.2.2 rfl (by decide) (.slice A1 c.consts.length C1) c.consts.length (c.consts.map (Value.int .u64)) rfl (HO2.out.cr.alloc _) _ 1 1 [.int .u64 n] rfl rfl (news1 (blk_at rfl)) (one1 rfl) (by omega) (by unfold maxLen; omega) (by omega) (Nat.zero_le _) _ rfl ?_)
  intro g C w5 hown hgrow hat hlt
  have hsA : Same (Value.slice A1 c.consts.length C1).ownBlock.toList w2 w5 := ((Same.refl _ w2).alloc _).trans (Same.of_grown hgrow)
  have hncb : cb ∉ (Value.slice A1 c.consts.length C1).ownBlock.toList := fun hm => (HO2.out.box_ne HBX.out).1 (by simpa using hm)
  have hbx5 := HBX.out.frame hsA hncb
  have x0 := hbx5.cell 0
  have x1 := hbx5.cell 1
  have x2 := hbx5.cell 2
  have xz := hbx5.lt
  have xf := hbx5.frozen
  have HB5 := Lib.hid hbx5
  have HA := Lib.hid hsA
  have HOWN := Lib.hid hown
  have HAT := Lib.hid hat
  clear hown hgrow hat hsA hncb hbx5 b0' b1' b2' bz'
  have hat' : ∀ b, (Value.slice (some ⟨g, 0, none⟩) (c.consts.length + 1) C).ownBlock = some b → (Value.slice A1 c.consts.length C1).ownBlock = some b ∨ w2.heap.size ≤ b := fun b hb => by
    cases hb
    rcases HAT.out with h | h
    · exact .inl h
    · right; rw [h]; simp; try omega
  have HAT' := Lib.hid hat'
  have hcf : ∀ b, (Value.slice A1 c.consts.length C1).ownBlock = some b → b ∈ F := fun b hb => HO.out.own.cf b hb
  have hsF : Same F w (w5.setCell ⟨cb, 0, none⟩ (.slice (some ⟨g, 0, none⟩) (c.consts.length + 1) C)) :=
    ((HS2.out.mono (fun x hx => by cases hx)).trans' HA.out (fun x hx => .inl (hcf x (by simpa using hx)))).setCell (.inl HO.out.mem) _
  have hfin := HO2.out.addConst n (v2 := .slice (some ⟨g, 0, none⟩) (c.consts.length + 1) C) (w' := w5) ⟨HA.out, hat'⟩ HOWN.out
  have HSF := Lib.hid hsF
  have HFIN := Lib.hid hfin
  have HCF := Lib.hid hcf
  clear hat' hcf hsF hfin
  have key : ∀ f : Option Cd.Co, (∀ d, f = some d → d = { c with consts := c.consts ++ [n] }) → ReadP cb F f w (.returned (.bool f.isSome)) (w5.setCell ⟨cb, 0, none⟩ (.slice (some ⟨g, 0, none⟩) (c.consts.length + 1) C)) := fun f hf => by
    refine ⟨rfl, HSF.out, fun d hd => ?_⟩
    rw [hf d hd]
    have hst := HFIN.out.setBox (i := 0) HB5.out (.slice (some ⟨g, 0, none⟩) (c.consts.length + 1) C)
    have hbox := HB5.out.set 0 (.slice (some ⟨g, 0, none⟩) (c.consts.length + 1) C)
    refine ⟨_, _, _, _, _, ⟨hbox, hst, List.mem_append_right _ HO.out.mem, fun b hb => ?_⟩, fun b hb => ?_⟩
    · rcases List.mem_append.1 hb with hb | hb
      · have : b = g := by simpa [Value.ownBlock] using hb
        subst this
        simpa using hlt
      · exact Nat.lt_of_lt_of_le (HO.out.lt b hb) HSF.out.size
    · rcases List.mem_append.1 hb with hb | hb
      · have : (Value.slice (some ⟨g, 0, none⟩) (c.consts.length + 1) C).ownBlock = some b := by simpa using hb
        rcases HAT'.out b this with h | h
        · exact .inl (HCF.out b h)
        · exact .inr (Nat.le_trans HS2.out.size h)
      · exact .inl hb
  have HKEY := Lib.hid key
  clear key
  cases hc : Cd.constR (s.data.toList.drop Cd.constB.length) with
  | none =>
    have HN : Hid (Cd.lineR c s.data.toList = none) := Lib.hid (by rw [HL.out, hc])
    simp only [Option.isSome_none]
    go_wp2_with fail
    go_ret
    rw [HN.out]
    exact HKEY.out none (fun d hd => by cases hd)
  | some x =>
    have hn := HV.out x hc
    injection hn with _ hn
    subst hn
    simp only [Option.isSome_some]
    by_cases q1 : c.globals.length = 0
    · by_cases q2 : c.procs.length = 0
      · have HN : Hid (Cd.lineR c s.data.toList = some { c with consts := c.consts ++ [n] }) := Lib.hid (by rw [HL.out, hc]; dsimp only; rw [if_pos ⟨List.eq_nil_of_length_eq_zero q1, List.eq_nil_of_length_eq_zero q2⟩])
        have f1 : ((c.globals.length : Int) == 0) = true := by rw [q1]; rfl
        have f2 : ((c.procs.length : Int) == 0) = true := by rw [q2]; rfl
        clear q1 q2 hc
        go_wp2_with fail
        go_ret
        rw [HN.out]
        exact HKEY.out (some _) (fun d hd => by injection hd with hd; exact hd.symm)
      · have HN : Hid (Cd.lineR c s.data.toList = none) := Lib.hid (by rw [HL.out, hc]; dsimp only; rw [if_neg (fun h => q2 (by rw [h.2]; rfl))])
        have f1 : ((c.globals.length : Int) == 0) = true := by rw [q1]; rfl
        have f2 : ((c.procs.length : Int) == 0) = false := by rw [beq_eq_false_iff_ne]; omega
        clear q1 q2 hc
        go_wp2_with fail
        go_ret
        rw [HN.out]
        exact HKEY.out none (fun d hd => by cases hd)
    · have HN : Hid (Cd.lineR c s.data.toList = none) := Lib.hid (by rw [HL.out, hc]; dsimp only; rw [if_neg (fun h => q1 (by rw [h.1]; rfl))])
      have f1 : ((c.globals.length : Int) == 0) = false := by rw [beq_eq_false_iff_ne]; omega
      clear q1 hc
      go_wp2_with fail
      go_ret
      rw [HN.out]
      exact HKEY.out none (fun d hd => by cases hd)
end Ck
end Go.Proofs.YticaipedpcmhfaaGreatDoor
