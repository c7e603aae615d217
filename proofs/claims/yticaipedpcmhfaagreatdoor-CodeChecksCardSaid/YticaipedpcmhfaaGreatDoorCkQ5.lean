/- Layer 8, package code: read: lines of globals. -/
import Derived.Test.YticaipedpcmhfaaGreatDoorCkQ4
import Derived.Test.YticaipedpcmhfaaGreatDoorCkW2
namespace Go.Proofs.YticaipedpcmhfaaGreatDoor
open Go.RowKit Hp
namespace Ck
variable {w w' : World}

theorem clone_pre (s : ByteArray) (hs : s.size ≤ 281474976710656) : ∀ w, Calls Tryz.prog 110 #[.string s] w fun e w' => e = .returned (.string s) ∧ Same [] w w' := fun _ => clone_any s hs

set_option maxHeartbeats 8000000 in
set_option maxRecDepth 100000 in
theorem read_global (s : ByteArray) (hs : s.size ≤ 281474976710656) (_h : Vars w) (cb : Nat) (cv pv gv : Value) (kvs : List Value) (c : Cd.Co) (F : List Nat) (ho : OC w cb cv pv gv kvs c F) (hsm : Small c 100000000)
    (hp0 : Lib.hasPrefix s.data.toList [32] = false) (hp1 : Lib.hasPrefix s.data.toList Cd.constB = false) (hp : Lib.hasPrefix s.data.toList Cd.globalB = true) : Calls Tryz.prog 54 #[.pointer (some ⟨cb, 0, none⟩), .string s] w (ReadP cb F (Cd.lineR c s.data.toList) w) := by
  obtain ⟨r0, hr0⟩ : ∃ r, bs (Lib.trimPrefix s.data.toList [32]) = r := ⟨_, rfl⟩
  have hcut0 := cut_pre s ⟨#[32]⟩ false hp0 r0 hr0
  obtain ⟨r1, hr1⟩ : ∃ r, bs (Lib.trimPrefix s.data.toList Cd.constB) = r := ⟨_, rfl⟩
  have hcut1 := cut_pre s ⟨#[99, 111, 110, 115, 116, 32]⟩ false hp1 r1 hr1
  obtain ⟨r, hr⟩ : ∃ r, bs (Lib.trimPrefix s.data.toList Cd.globalB) = r := ⟨_, rfl⟩
  have hcut := cut_pre s ⟨#[103, 108, 111, 98, 97, 108, 32]⟩ true hp r hr
  have hrl : r = ⟨(s.data.toList.drop Cd.globalB.length).toArray⟩ := by rw [← hr, trim_drop _ _ hp]; rfl
  have hrz : r.size ≤ 281474976710656 := Nat.le_trans (tp_size s ⟨#[103, 108, 111, 98, 97, 108, 32]⟩ r hr) hs
  have hL : Cd.lineR c s.data.toList = if c.procs = [] then some { c with globals := c.globals ++ [r] } else none := by
    unfold Cd.lineR; rw [if_neg (by rw [hp0]; simp), if_neg (by rw [hp1]; simp), if_pos hp, hrl]
  obtain ⟨A1, C1, hcv⟩ := ho.own.cr.lit
  obtain ⟨A2, C2, hpv⟩ := ho.own.pr.lit
  obtain ⟨A3, C3, hgv⟩ := ho.own.gr.lit
  subst hcv hpv hgv
  have b1 := ho.box.cell 1
  have b2 := ho.box.cell 2
  have bz := ho.box.lt
  have HO := Lib.hid ho
  have hgl : c.globals.length ≤ 100000000 := hsm.sb
  have hpl : c.procs.length ≤ 100000000 := hsm.sc
  obtain ⟨i0, hi1, hz0, hz1, hz2⟩ := info_parts infoS
  have HI0 := Lib.hid (And.intro hi1 (And.intro hz0 (And.intro hz1 hz2)))
  have HL := Lib.hid hL
  have hclone := clone_pre r hrz
  have HGR : Hid (∀ W, Same [] w W → Ow W 9 1 (.slice A3 c.globals.length C3) c.globals.length (c.globals.map Value.string)) := Lib.hid (fun W hs => HO.out.own.gr.frame hs (by simp))
  have HNCB : Hid (cb ∉ (Value.slice A3 c.globals.length C3).ownBlock.toList) := Lib.hid (fun hm => (HO.out.own.box_ne HO.out.box).2.1 (by simpa using hm))
  clear ho hsm _h hp hp0 hp1 hrl hr hr0 hr1 hL hi1 hz0 hz1 hz2
  go_enter Tryz.func54, Tryz.ntmps54
  go_wp2_with fail
  refine (hcut0 _).mono ?_
  rintro e w' ⟨rfl, rfl⟩
  go_wp2_with fail
  refine (hcut1 _).mono ?_
  rintro e w' ⟨rfl, rfl⟩
  go_wp2_with fail
  refine (hcut _).mono ?_
  rintro e w' ⟨rfl, rfl⟩
  go_upto_region 16 with fail
  go_region_law (first
    | ((refine step_append_lies _ rfl (.tmp 110) (.tmp 113) 24 rfl 0 9 i0 _ 1 16 Tryz.underlying24 HI0.out.1 HI0.out.2.1 HI0.out.2.2.1 HI0.out.2.2.2 rfl (by decide) (.slice A3 c.globals.length C3) c.globals.length (c.globals.map Value.string) rfl (HGR.out _ (by repeat (first | exact HS2.out | refine Same.drew ?_ | refine Same.drewN ?_ _ | refine Same.alloc ?_ _))) _ 1 1 [.string r] rfl rfl (by first | exact news1 (blk_at (by simp)) | exact news1 (Blk.drew (blk_at (by simp)))) (one1 rfl) (by omega) (by unfold maxLen; omega) (by omega) (Nat.zero_le _) _ rfl ?_); (intro g C w5 hown hgrow hat hlt; have hsA : Same (Value.slice A3 c.globals.length C3).ownBlock.toList w2 w5 := Same.trans (by repeat (first | exact Same.refl _ _ | refine Same.drew ?_ | refine Same.drewN ?_ _ | refine Same.alloc ?_ _)) (Same.of_grown hgrow); have hx1 := (hsA.cell bz2 HNCB.out).trans b22; have hx4 := (hsA.cell bz2 HNCB.out).trans b21; have hx2 : ∀ j, w5.frozen? ⟨cb, j, none⟩ = false := (fun j => (hsA.frozen bz2 HNCB.out).trans (bf2 j)); have hx3 := Nat.lt_of_lt_of_le bz2 hsA.size; have HA := Lib.hid hsA; have HOWN := Lib.hid hown; have HAT := Lib.hid hat; clear hsA hown hgrow hat))
    | (go_simp; go_at_call 110; refine (hclone _).mono ?_; rintro e w2 ⟨rfl, hs2⟩; have HS2 : Hid (Same [] w w2) := Lib.hid (Same.trans (by repeat (first | exact Same.refl _ _ | refine Same.drew ?_ | refine Same.drewN ?_ _ | refine Same.alloc ?_ _)) hs2); clear hs2; have b21 := (HS2.out.cell bz (by simp)).trans b1; have b22 := (HS2.out.cell bz (by simp)).trans b2; have bz2 := Nat.lt_of_lt_of_le bz HS2.out.size; have bf2 : ∀ j, w2.frozen? ⟨cb, j, none⟩ = false := (HO.out.box.frame HS2.out (by simp)).frozen))
  all_goals
    obtain ⟨gq, hgq⟩ : ∃ gq, ((c.procs.length : Int) == 0) = gq := ⟨_, rfl⟩
    go_wp2_with fail
    go_ret
    have hat' : ∀ b, (Value.slice (some ⟨g, 0, none⟩) (c.globals.length + 1) C).ownBlock = some b → (Value.slice A3 c.globals.length C3).ownBlock = some b ∨ w2.heap.size ≤ b := fun b hb => by
      cases hb
      rcases HAT.out with h | h
      · exact .inl h
      · right; rw [h]; simp; try omega
    have hcf : ∀ b, (Value.slice A3 c.globals.length C3).ownBlock = some b → b ∈ F := fun b hb => HO.out.own.gf b hb
    have hsF : Same F w (w5.setCell ⟨cb, 2, none⟩ (.slice (some ⟨g, 0, none⟩) (c.globals.length + 1) C)) :=
      ((HS2.out.mono (fun x hx => by cases hx)).trans' HA.out (fun x hx => .inl (hcf x (by simpa using hx)))).setCell (.inl HO.out.mem) _
    have hfin := (HO.out.own.frame HS2.out (by simp)).addGlobal r (v2 := .slice (some ⟨g, 0, none⟩) (c.globals.length + 1) C) (w' := w5) ⟨HA.out, hat'⟩ HOWN.out
    have hb5 := (HO.out.box.frame HS2.out (by simp)).frame HA.out HNCB.out
    refine ⟨?_, hsF, fun d hd => ?_⟩
    · have e : gq = (Cd.lineR c s.data.toList).isSome := by
        rw [HL.out, ← hgq]
        by_cases q : c.procs = []
        · rw [if_pos q, q]; rfl
        · rw [if_neg q]
          have : c.procs.length ≠ 0 := fun e => q (List.eq_nil_of_length_eq_zero e)
          simpa using this
      rw [← e]
      rfl
    · rw [HL.out] at hd
      have hd' : d = { c with globals := c.globals ++ [r] } := by
        by_cases q : c.procs = []
        · rw [if_pos q] at hd; injection hd with hd; exact hd.symm
        · rw [if_neg q] at hd; cases hd
      rw [hd']
      have hst := hfin.setBox (i := 2) hb5 (.slice (some ⟨g, 0, none⟩) (c.globals.length + 1) C)
      have hbox := hb5.set 2 (.slice (some ⟨g, 0, none⟩) (c.globals.length + 1) C)
      refine ⟨_, _, _, _, _, ⟨hbox, hst, List.mem_append_right _ HO.out.mem, fun b hb => ?_⟩, fun b hb => ?_⟩
      · rcases List.mem_append.1 hb with hb | hb
        · have : b = g := by simpa [Value.ownBlock] using hb
          subst this
          simpa using hlt
        · exact Nat.lt_of_lt_of_le (HO.out.lt b hb) hsF.size
      · rcases List.mem_append.1 hb with hb | hb
        · have : (Value.slice (some ⟨g, 0, none⟩) (c.globals.length + 1) C).ownBlock = some b := by simpa using hb
          rcases hat' b this with h | h
          · exact .inl (hcf b h)
          · exact .inr (Nat.le_trans HS2.out.size h)
        · exact .inl hb
end Ck
end Go.Proofs.YticaipedpcmhfaaGreatDoor
