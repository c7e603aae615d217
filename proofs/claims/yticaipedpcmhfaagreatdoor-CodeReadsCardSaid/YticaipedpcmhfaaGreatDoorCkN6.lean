/- Layer 8, the document's answer: a line that is a global, a procedure, or none (printed by mkCkN6.py). -/
import Derived.Test.YticaipedpcmhfaaGreatDoorCkN5
import Derived.Test.YticaipedpcmhfaaGreatDoorCkQ6
namespace Go.Proofs.YticaipedpcmhfaaGreatDoor
open Go.RowKit Hp
namespace Ck
variable {w w' : World}

set_option maxHeartbeats 8000000 in
set_option maxRecDepth 100000 in
theorem line_globalR (s : ByteArray) (hs : s.size ≤ 281474976710656) (cv pv gv : Value) (kvs : List Value) (c : Cd.Co) (F : List Nat) (ho : OCo w cv pv gv kvs c F) (hF : ∀ b ∈ F, b < w.heap.size) (hsm : Small c 100000000)
    (hp : Lib.hasPrefix s.data.toList Cd.globalB = true) : Calls Tryz.prog 51 #[.agg #[cv, pv, gv], .string s] w (LineP F (Cd.lineR c s.data.toList) w) := by
  obtain ⟨t, et⟩ := pre_app hp
  have hp_b : Lib.hasPrefix s.data.toList [32] = false := by rw [et]; rfl
  have hp_c : Lib.hasPrefix s.data.toList Cd.constB = false := by rw [et]; rfl
  have hcut_c := fun W => cutR_any (w := W) s ⟨#[99, 111, 110, 115, 116, 32]⟩ hs false hp_c (by decide)
  rw [if_neg (by simp)] at hcut_c
  have hcut := fun W => cutR_any (w := W) s ⟨#[103, 108, 111, 98, 97, 108, 32]⟩ hs true hp (by decide)
  rw [if_pos rfl] at hcut
  obtain ⟨r, hr⟩ : ∃ r, bs (s.data.toList.drop (⟨#[103, 108, 111, 98, 97, 108, 32]⟩ : ByteArray).size) = r := ⟨_, rfl⟩
  have hrl : r.data.toList = s.data.toList.drop Cd.globalB.length := by rw [← hr, bs_list]; rfl
  have hrz : r.size ≤ 281474976710656 := by
    rw [list_size r hrl, List.length_drop]
    have h1 : s.data.toList.length = s.size := by simp
    omega
  rw [hr] at hcut
  have hL : Cd.lineR c s.data.toList = if c.procs = [] then some { c with globals := c.globals ++ [r] } else none := by
    unfold Cd.lineR
    rw [if_neg (by rw [hp_b]; simp), if_neg (by rw [hp_c]; simp), if_pos hp, ← hr]; rfl
  obtain ⟨A1, C1, hcv⟩ := ho.cr.lit
  obtain ⟨A2, C2, hpv⟩ := ho.pr.lit
  obtain ⟨A3, C3, hgv⟩ := ho.gr.lit
  subst hcv hpv hgv
  have HT2 := Lib.hid (two2_new w (.slice A1 c.consts.length C1) (.slice A2 c.procs.length C2) (.slice A3 c.globals.length C3))
  have HO := Lib.hid ho
  have HF := Lib.hid hF
  have hcl : c.consts.length ≤ 100000000 := hsm.sa
  have hgl : c.globals.length ≤ 100000000 := hsm.sb
  have hpl : c.procs.length ≤ 100000000 := hsm.sc
  obtain ⟨i0, hi1, hz0, hz1, hz2⟩ := info_parts infoS
  have HI0 := Lib.hid (And.intro hi1 (And.intro hz0 (And.intro hz1 hz2)))
  have HL := Lib.hid hL
  clear ho hF hsm hp et hrl hr hL hi1 hz0 hz1 hz2 hp_b hp_c
  go_enter Tryz.func51, Tryz.ntmps51
  go_wp2_with fail
  refine (hcut_c _).mono ?_
  rintro e w' ⟨rfl, rfl⟩
  go_wp2_with fail
  refine (hcut _).mono ?_
  rintro e w2 ⟨rfl, hw2⟩
  obtain ⟨hbx, hrx⟩ := HT2.out.frame (W' := w2) (F := []) (by rw [← hw2]; exact Same.refl _ _) (by simp)
  have HS2 : Hid (Same [] w w2) := Lib.hid (by rw [← hw2]; exact HT2.out.same)
  clear hw2
  have b0 := hbx.cell 0
  have b1 := hbx.cell 1
  have b2 := hbx.cell 2
  have bz := hbx.lt
  have ho2 := HO.out.frame HS2.out (by simp)
  have HO2 := Lib.hid ho2
  have HBX := Lib.hid hbx
  have HRX := Lib.hid hrx
  clear ho2 hbx hrx
  go_wp2_with (at_builtin; refine wpList_append_lies _ rfl (.tmp 53) (.tmp 55) 24 rfl 0 9 i0 _ 1 16 Tryz.underlying24 HI0.out.1 HI0.out.2.1 HI0.out.2.2.1 HI0.out.2.2.2 rfl (by decide) (.slice A3 c.globals.length C3) c.globals.length (c.globals.map Value.string) rfl (HO2.out.gr.alloc _) _ 1 1 [.string r] rfl rfl (news1 (blk_at rfl)) (one1 rfl) (by omega) (by unfold maxLen; omega) (by omega) (Nat.zero_le _) _ rfl ?_)
  intro g C w5 hown hgrow hat hlt
  have hsA : Same (Value.slice A3 c.globals.length C3).ownBlock.toList w2 w5 := ((Same.refl _ w2).alloc _).trans (Same.of_grown hgrow)
  have hcf : ∀ b, (Value.slice A3 c.globals.length C3).ownBlock = some b → b ∈ F := fun b hb => HO.out.gf b hb
  have hnb : ∀ b, (Value.slice A3 c.globals.length C3).ownBlock = some b → b < w.heap.size := fun b hb => HF.out b (hcf b hb)
  have hbx5 := HBX.out.frame hsA (fun hm => by have := hnb _ (by simpa using hm); omega)
  have hrx5 := HRX.out.frame hsA (fun hm => by have := hnb _ (by simpa using hm); omega)
  have x0 := hbx5.cell 0
  have x1 := hbx5.cell 1
  have x2 := hbx5.cell 2
  have xz := hbx5.lt
  have xf := hbx5.frozen
  have y0 := hrx5.cell 0
  have y1 := hrx5.cell 1
  have y2 := hrx5.cell 2
  have yz := hrx5.lt
  have yf := hrx5.frozen
  have HA := Lib.hid hsA
  have HOWN := Lib.hid hown
  have HAT := Lib.hid hat
  clear hown hgrow hat hsA hbx5 hrx5 b0 b1 b2 bz
  have hfin := HO2.out.addGlobal r (v2 := .slice (some ⟨g, 0, none⟩) (c.globals.length + 1) C) (w' := w5) ⟨HA.out, fun b hb => by
    cases hb
    rcases HAT.out with h | h
    · exact .inl h
    · right; rw [h]; simp; try omega⟩ HOWN.out 
  have hw2 : w.heap.size + 1 < w2.heap.size := HRX.out.lt
  have hg : g < w.heap.size ∧ g ∈ F ∨ w2.heap.size ≤ g := by
    rcases HAT.out with h | h
    · exact .inl ⟨hnb g h, hcf g h⟩
    · right; rw [h]; simp; try omega
  have hmem : ∀ b ∈ (Value.slice (some ⟨g, 0, none⟩) (c.globals.length + 1) C).ownBlock.toList ++ F, b = g ∨ b ∈ F := fun b hb => by simpa [Value.ownBlock] using hb
  have key : ∀ W, Same [w.heap.size, w.heap.size + 1] w5 W → ∀ (f : Option Cd.Co) (x : Bool), x = f.isSome → (∀ d, f = some d → d = { c with globals := c.globals ++ [r] }) → LineP F f w (.returned (.tuple #[.agg #[.slice A1 c.consts.length C1, .slice A2 c.procs.length C2, .slice (some ⟨g, 0, none⟩) (c.globals.length + 1) C], .bool x])) W := fun W hW f x hx hf => by
    refine ⟨_, _, _, _, _, _, _, _, _, by rw [hx], ?_, fun d hd => ?_⟩
    · refine ((HS2.out.mono (fun x hx => by cases hx)).trans' HA.out (fun x hx => .inl (hcf x (by simpa using hx)))).trans' hW (fun x hx => ?_)
      simp only [List.mem_cons, List.not_mem_nil, or_false] at hx
      omega
    · rw [hf d hd]
      refine ⟨_, _, hfin.frame hW (fun b hb hm => ?_), fun b hb => ?_, fun b hb => ?_⟩
      · have hm' : b = w.heap.size ∨ b = w.heap.size + 1 := by simpa using hm
        rcases hmem b hb with h | h
        · subst h; omega
        · have := HF.out b h; omega
      · rcases hmem b hb with h | h
        · subst h; have := hW.size; omega
        · have h1 := HF.out b h; have h2 := hW.size; have h3 := HS2.out.size; have h4 := HA.out.size; omega
      · rcases hmem b hb with h | h
        · subst h
          rcases hg with h | h
          · exact .inl h.2
          · right; omega
        · exact .inl h
  have HKEY := Lib.hid key
  clear key hfin hg hmem hcf hnb
  by_cases q2 : c.procs.length = 0
  · have HN : Hid (Cd.lineR c s.data.toList = some { c with globals := c.globals ++ [r] }) := Lib.hid (by rw [HL.out, if_pos (List.eq_nil_of_length_eq_zero q2)])
    have f2 : ((c.procs.length : Int) == 0) = true := by rw [q2]; rfl
    clear q2
    go_wp2_with fail
    go_region
    go_wp2_with fail
    refine bodyPost_ret (v := .tuple #[.agg #[.slice A1 c.consts.length C1, .slice A2 c.procs.length C2, .slice (some ⟨g, 0, none⟩) (c.globals.length + 1) C], .bool true]) (by simp [results, Tryz.results51, go_sem, y0, y1, y2, yf]) rfl ?_
    rw [HN.out]
    exact HKEY.out _ (by repeat (first | exact Same.refl _ _ | refine Same.setCell ?_ (.inl (by simp)) _ | refine Same.drew ?_)) (some _) true rfl (fun d hd => by injection hd with hd; exact hd.symm)
  · have HN : Hid (Cd.lineR c s.data.toList = none) := Lib.hid (by rw [HL.out, if_neg (fun h => q2 (by rw [h]; rfl))])
    have f2 : ((c.procs.length : Int) == 0) = false := by rw [beq_eq_false_iff_ne]; omega
    clear q2
    go_wp2_with fail
    go_region
    go_wp2_with fail
    refine bodyPost_ret (v := .tuple #[.agg #[.slice A1 c.consts.length C1, .slice A2 c.procs.length C2, .slice (some ⟨g, 0, none⟩) (c.globals.length + 1) C], .bool false]) (by simp [results, Tryz.results51, go_sem, y0, y1, y2, yf]) rfl ?_
    rw [HN.out]
    exact HKEY.out _ (by repeat (first | exact Same.refl _ _ | refine Same.setCell ?_ (.inl (by simp)) _ | refine Same.drew ?_)) none false rfl (fun d hd => by cases hd)

set_option maxHeartbeats 8000000 in
set_option maxRecDepth 100000 in
theorem line_procR (s : ByteArray) (hs : s.size ≤ 281474976710656) (cv pv gv : Value) (kvs : List Value) (c : Cd.Co) (F : List Nat) (ho : OCo w cv pv gv kvs c F) (hF : ∀ b ∈ F, b < w.heap.size) (hsm : Small c 100000000)
    (hp : Lib.hasPrefix s.data.toList Cd.procB = true) : Calls Tryz.prog 51 #[.agg #[cv, pv, gv], .string s] w (LineP F (Cd.lineR c s.data.toList) w) := by
  obtain ⟨t, et⟩ := pre_app hp
  have hp_b : Lib.hasPrefix s.data.toList [32] = false := by rw [et]; rfl
  have hp_c : Lib.hasPrefix s.data.toList Cd.constB = false := by rw [et]; rfl
  have hp_g : Lib.hasPrefix s.data.toList Cd.globalB = false := by rw [et]; rfl
  have hcut_c := fun W => cutR_any (w := W) s ⟨#[99, 111, 110, 115, 116, 32]⟩ hs false hp_c (by decide)
  rw [if_neg (by simp)] at hcut_c
  have hcut_g := fun W => cutR_any (w := W) s ⟨#[103, 108, 111, 98, 97, 108, 32]⟩ hs false hp_g (by decide)
  rw [if_neg (by simp)] at hcut_g
  have hcut := fun W => cutR_any (w := W) s ⟨#[112, 114, 111, 99, 32]⟩ hs true hp (by decide)
  rw [if_pos rfl] at hcut
  obtain ⟨r, hr⟩ : ∃ r, bs (s.data.toList.drop (⟨#[112, 114, 111, 99, 32]⟩ : ByteArray).size) = r := ⟨_, rfl⟩
  have hrl : r.data.toList = s.data.toList.drop Cd.procB.length := by rw [← hr, bs_list]; rfl
  have hrz : r.size ≤ 281474976710656 := by
    rw [list_size r hrl, List.length_drop]
    have h1 : s.data.toList.length = s.size := by simp
    omega
  rw [hr] at hcut
  have HPL := Lib.hid (fun W => smallR_any (w := W) r hrz)
  rw [hrl] at HPL
  have hL : Cd.lineR c s.data.toList = match Cd.placeT (s.data.toList.drop Cd.procB.length) with | some n => some { c with procs := c.procs ++ [⟨n, []⟩] } | none => none := by
    unfold Cd.lineR
    rw [if_neg (by rw [hp_b]; simp), if_neg (by rw [hp_c]; simp), if_neg (by rw [hp_g]; simp), if_pos hp]; cases Cd.placeT (s.data.toList.drop Cd.procB.length) <;> rfl
  obtain ⟨A1, C1, hcv⟩ := ho.cr.lit
  obtain ⟨A2, C2, hpv⟩ := ho.pr.lit
  obtain ⟨A3, C3, hgv⟩ := ho.gr.lit
  subst hcv hpv hgv
  have HT2 := Lib.hid (two2_new w (.slice A1 c.consts.length C1) (.slice A2 c.procs.length C2) (.slice A3 c.globals.length C3))
  have HO := Lib.hid ho
  have HF := Lib.hid hF
  have hcl : c.consts.length ≤ 100000000 := hsm.sa
  have hgl : c.globals.length ≤ 100000000 := hsm.sb
  have hpl : c.procs.length ≤ 100000000 := hsm.sc
  obtain ⟨i0, hi1, hz0, hz1, hz2⟩ := info_parts infoP
  have HI0 := Lib.hid (And.intro hi1 (And.intro hz0 (And.intro hz1 hz2)))
  have HL := Lib.hid hL
  clear ho hF hsm hp et hrl hr hL hi1 hz0 hz1 hz2 hp_b hp_c hp_g
  go_enter Tryz.func51, Tryz.ntmps51
  go_wp2_with fail
  refine (hcut_c _).mono ?_
  rintro e w' ⟨rfl, rfl⟩
  go_wp2_with fail
  refine (hcut_g _).mono ?_
  rintro e w' ⟨rfl, rfl⟩
  go_wp2_with fail
  refine (hcut _).mono ?_
  rintro e w' ⟨rfl, rfl⟩
  go_wp2_with fail
  refine (HPL.out _).mono ?_
  rintro e w2 ⟨v, rfl, ⟨n, rfl, hn, hv⟩, hw2⟩
  obtain ⟨hbx, hrx⟩ := HT2.out.frame (W' := w2) (F := []) (by rw [← hw2]; exact Same.refl _ _) (by simp)
  have HS2 : Hid (Same [] w w2) := Lib.hid (by rw [← hw2]; exact HT2.out.same)
  have HV := Lib.hid hv
  clear hw2 hv hn
  have b0 := hbx.cell 0
  have b1 := hbx.cell 1
  have b2 := hbx.cell 2
  have bz := hbx.lt
  have ho2 := HO.out.frame HS2.out (by simp)
  have HO2 := Lib.hid ho2
  have HBX := Lib.hid hbx
  have HRX := Lib.hid hrx
  clear ho2 hbx hrx
  go_wp2_with (at_builtin; refine wpList_append_lies _ rfl (.tmp 75) (.tmp 78) 23 rfl 0 68 i0 _ 2 32 Tryz.underlying23 HI0.out.1 HI0.out.2.1 HI0.out.2.2.1 HI0.out.2.2.2 rfl (by decide) (.slice A2 c.procs.length C2) c.procs.length (flatP c.procs kvs) rfl (HO2.out.pr.alloc _) _ 1 1 [.int .i64 n, .slice none 0 0] rfl rfl (news2 (blk_at rfl)) (one2 rfl rfl) (by omega) (by unfold maxLen; omega) (by omega) (Nat.zero_le _) _ rfl ?_)
  intro g C w5 hown hgrow hat hlt
  have hsA : Same (Value.slice A2 c.procs.length C2).ownBlock.toList w2 w5 := ((Same.refl _ w2).alloc _).trans (Same.of_grown hgrow)
  have hcf : ∀ b, (Value.slice A2 c.procs.length C2).ownBlock = some b → b ∈ F := fun b hb => HO.out.pf b hb
  have hnb : ∀ b, (Value.slice A2 c.procs.length C2).ownBlock = some b → b < w.heap.size := fun b hb => HF.out b (hcf b hb)
  have hbx5 := HBX.out.frame hsA (fun hm => by have := hnb _ (by simpa using hm); omega)
  have hrx5 := HRX.out.frame hsA (fun hm => by have := hnb _ (by simpa using hm); omega)
  have x0 := hbx5.cell 0
  have x1 := hbx5.cell 1
  have x2 := hbx5.cell 2
  have xz := hbx5.lt
  have xf := hbx5.frozen
  have y0 := hrx5.cell 0
  have y1 := hrx5.cell 1
  have y2 := hrx5.cell 2
  have yz := hrx5.lt
  have yf := hrx5.frozen
  have HA := Lib.hid hsA
  have HOWN := Lib.hid hown
  have HAT := Lib.hid hat
  clear hown hgrow hat hsA hbx5 hrx5 b0 b1 b2 bz
  have hfin := HO2.out.addProc ⟨n, []⟩ (.slice none 0 0) (v2 := .slice (some ⟨g, 0, none⟩) (c.procs.length + 1) C) (w' := w5) ⟨HA.out, fun b hb => by
    cases hb
    rcases HAT.out with h | h
    · exact .inl h
    · right; rw [h]; simp; try omega⟩ HOWN.out (World.ownsRow_nil _ _ _ _) (fun b hb => by cases hb)
  have hw2 : w.heap.size + 1 < w2.heap.size := HRX.out.lt
  have hg : g < w.heap.size ∧ g ∈ F ∨ w2.heap.size ≤ g := by
    rcases HAT.out with h | h
    · exact .inl ⟨hnb g h, hcf g h⟩
    · right; rw [h]; simp; try omega
  have hmem : ∀ b ∈ (Value.slice none 0 0).ownBlock.toList ++ ((Value.slice (some ⟨g, 0, none⟩) (c.procs.length + 1) C).ownBlock.toList ++ F), b = g ∨ b ∈ F := fun b hb => by simpa [Value.ownBlock] using hb
  have key : ∀ W, Same [w.heap.size, w.heap.size + 1] w5 W → ∀ (f : Option Cd.Co) (x : Bool), x = f.isSome → (∀ d, f = some d → d = { c with procs := c.procs ++ [⟨n, []⟩] }) → LineP F f w (.returned (.tuple #[.agg #[.slice A1 c.consts.length C1, .slice (some ⟨g, 0, none⟩) (c.procs.length + 1) C, .slice A3 c.globals.length C3], .bool x])) W := fun W hW f x hx hf => by
    refine ⟨_, _, _, _, _, _, _, _, _, by rw [hx], ?_, fun d hd => ?_⟩
    · refine ((HS2.out.mono (fun x hx => by cases hx)).trans' HA.out (fun x hx => .inl (hcf x (by simpa using hx)))).trans' hW (fun x hx => ?_)
      simp only [List.mem_cons, List.not_mem_nil, or_false] at hx
      omega
    · rw [hf d hd]
      refine ⟨_, _, hfin.frame hW (fun b hb hm => ?_), fun b hb => ?_, fun b hb => ?_⟩
      · have hm' : b = w.heap.size ∨ b = w.heap.size + 1 := by simpa using hm
        rcases hmem b hb with h | h
        · subst h; omega
        · have := HF.out b h; omega
      · rcases hmem b hb with h | h
        · subst h; have := hW.size; omega
        · have h1 := HF.out b h; have h2 := hW.size; have h3 := HS2.out.size; have h4 := HA.out.size; omega
      · rcases hmem b hb with h | h
        · subst h
          rcases hg with h | h
          · exact .inl h.2
          · right; omega
        · exact .inl h
  have HKEY := Lib.hid key
  clear key hfin hg hmem hcf hnb
  obtain ⟨o, ho⟩ : ∃ o, Cd.placeT (s.data.toList.drop Cd.procB.length) = o := ⟨_, rfl⟩
  rw [ho] at HV HL
  rw [ho]
  clear ho
  cases o with
  | none =>
    have HN : Hid (Cd.lineR c s.data.toList = none) := Lib.hid HL.out
    simp only [Option.isSome_none]
    go_wp2_with fail
    refine bodyPost_ret (v := .tuple #[.agg #[.slice A1 c.consts.length C1, .slice (some ⟨g, 0, none⟩) (c.procs.length + 1) C, .slice A3 c.globals.length C3], .bool false]) (by simp [results, Tryz.results51, go_sem, y0, y1, y2, yf]) rfl ?_
    rw [HN.out]
    exact HKEY.out _ (by repeat (first | exact Same.refl _ _ | refine Same.setCell ?_ (.inl (by simp)) _ | refine Same.drew ?_)) none false rfl (fun d hd => by cases hd)
  | some x =>
    obtain rfl := HV.out x rfl
    have HN : Hid (Cd.lineR c s.data.toList = some { c with procs := c.procs ++ [⟨n, []⟩] }) := Lib.hid HL.out
    simp only [Option.isSome_some]
    go_wp2_with fail
    refine bodyPost_ret (v := .tuple #[.agg #[.slice A1 c.consts.length C1, .slice (some ⟨g, 0, none⟩) (c.procs.length + 1) C, .slice A3 c.globals.length C3], .bool true]) (by simp [results, Tryz.results51, go_sem, y0, y1, y2, yf]) rfl ?_
    rw [HN.out]
    exact HKEY.out _ (by repeat (first | exact Same.refl _ _ | refine Same.setCell ?_ (.inl (by simp)) _ | refine Same.drew ?_)) (some _) true rfl (fun d hd => by injection hd with hd; exact hd.symm)
end Ck
end Go.Proofs.YticaipedpcmhfaaGreatDoor
