/- Layer 8, the document's answer: a line that is a constant. -/
import Derived.Test.YticaipedpcmhfaaGreatDoorCkN4
import Derived.Test.YticaipedpcmhfaaGreatDoorCkQ6
namespace Go.Proofs.YticaipedpcmhfaaGreatDoor
open Go.RowKit Hp
namespace Ck
variable {w w' : World}

/-- What the document's line leaves. -/
def LineP (F : List Nat) (f : Option Cd.Co) (w : World) (e : Ending) (w' : World) : Prop :=
  ∃ (A1 : Option Addr) (n1 C1 : Nat) (A2 : Option Addr) (n2 C2 : Nat) (A3 : Option Addr) (n3 C3 : Nat), e = .returned (.tuple #[.agg #[.slice A1 n1 C1, .slice A2 n2 C2, .slice A3 n3 C3], .bool f.isSome]) ∧ Same F w w' ∧ ∀ d, f = some d → ∃ kvs F', OCo w' (.slice A1 n1 C1) (.slice A2 n2 C2) (.slice A3 n3 C3) kvs d F' ∧ (∀ b ∈ F', b < w'.heap.size) ∧ ∀ b ∈ F', b ∈ F ∨ w.heap.size ≤ b

/-- The box that is written and the box of the answer. -/
structure Two2 (w w1 : World) (cv pv gv : Value) : Prop where
  same : Same [] w w1
  bx : Blk w1 w.heap.size 26 [cv, pv, gv]
  rx : Blk w1 (w.heap.size + 1) 26 [.slice none 0 0, .slice none 0 0, .slice none 0 0]
theorem two2_new (w : World) (cv pv gv : Value) : Two2 w ((w.alloc (.cells #[cv, pv, gv] 26)).alloc (.cells #[.slice none 0 0, .slice none 0 0, .slice none 0 0] 26)) cv pv gv :=
  ⟨((Same.refl _ _).alloc _).alloc _, (Blk.new w _ [cv, pv, gv]).frame ((Same.refl [] _).alloc _) (by simp), blk_at (by simp)⟩
theorem Two2.frame {W W' : World} {cv pv gv : Value} {F : List Nat} (h : Two2 W w cv pv gv) (hs : Same F w W') (hF : ∀ b ∈ F, b ≠ W.heap.size ∧ b ≠ W.heap.size + 1) : Blk W' W.heap.size 26 [cv, pv, gv] ∧ Blk W' (W.heap.size + 1) 26 [.slice none 0 0, .slice none 0 0, .slice none 0 0] :=
  ⟨h.bx.frame hs (fun hm => (hF _ hm).1 rfl), h.rx.frame hs (fun hm => (hF _ hm).2 rfl)⟩

theorem pre_app {s p : List UInt8} (h : Lib.hasPrefix s p = true) : ∃ t, s = p ++ t := by
  rw [pre_take, Bool.and_eq_true] at h
  exact ⟨s.drop p.length, by rw [← eq_of_beq h.2, List.length_take, Nat.min_eq_left (of_decide_eq_true h.1), List.take_append_drop]⟩

set_option maxHeartbeats 8000000 in
set_option maxRecDepth 100000 in
theorem line_constR (s : ByteArray) (hs : s.size ≤ 281474976710656) (cv pv gv : Value) (kvs : List Value) (c : Cd.Co) (F : List Nat) (ho : OCo w cv pv gv kvs c F) (hF : ∀ b ∈ F, b < w.heap.size) (hsm : Small c 100000000)
    (hp : Lib.hasPrefix s.data.toList Cd.constB = true) : Calls Tryz.prog 51 #[.agg #[cv, pv, gv], .string s] w (LineP F (Cd.lineR c s.data.toList) w) := by
  have hcut := fun W => cutR_any (w := W) s ⟨#[99, 111, 110, 115, 116, 32]⟩ hs true hp (by decide)
  rw [if_pos rfl] at hcut
  obtain ⟨r, hr⟩ : ∃ r, bs (s.data.toList.drop (⟨#[99, 111, 110, 115, 116, 32]⟩ : ByteArray).size) = r := ⟨_, rfl⟩
  have hrl : r.data.toList = s.data.toList.drop Cd.constB.length := by rw [← hr, bs_list]; rfl
  have hrz : r.size ≤ 281474976710656 := by
    rw [list_size r hrl, List.length_drop]
    have h1 : s.data.toList.length = s.size := by simp
    omega
  rw [hr] at hcut
  have HRC := Lib.hid (fun W => wordCR_any (w := W) r hrz)
  unfold Got at HRC
  rw [hrl] at HRC
  have hL : Cd.lineR c s.data.toList = match Cd.constR (s.data.toList.drop Cd.constB.length) with | some x => if c.globals = [] ∧ c.procs = [] then some { c with consts := c.consts ++ [x] } else none | none => none := by
    unfold Cd.lineR
    have hp0 : Lib.hasPrefix s.data.toList [32] = false := by
      obtain ⟨t, e⟩ := pre_app hp
      rw [e]; rfl
    rw [if_neg (by rw [hp0]; simp), if_pos hp]; cases Cd.constR (s.data.toList.drop Cd.constB.length) <;> rfl
  obtain ⟨A1, C1, hcv⟩ := ho.cr.lit
  obtain ⟨A2, C2, hpv⟩ := ho.pr.lit
  obtain ⟨A3, C3, hgv⟩ := ho.gr.lit
  subst hcv hpv hgv
  have HT2 := Lib.hid (two2_new w (.slice A1 c.consts.length C1) (.slice A2 c.procs.length C2) (.slice A3 c.globals.length C3))
  have HO := Lib.hid ho
  have HF := Lib.hid hF
  have hcl : c.consts.length ≤ 100000000 := hsm.sa
  have hgl : c.globals.length ≤ 100000000 := hsm.sb
  have hpl : c.procs.length ≤ 100000000 := hsm.sc
  obtain ⟨i0, hi1, hz0, hz1, hz2⟩ := info_parts infoW
  have HI0 := Lib.hid (And.intro hi1 (And.intro hz0 (And.intro hz1 hz2)))
  have HL := Lib.hid hL
  clear ho hF hsm hp hrl hr hL hi1 hz0 hz1 hz2
  go_enter Tryz.func51, Tryz.ntmps51
  go_wp2_with fail
  refine (hcut _).mono ?_
  rintro e w' ⟨rfl, rfl⟩
  go_wp2_with fail
  refine (HRC.out _).mono ?_
  rintro e w2 ⟨v, rfl, ⟨n, rfl, hn⟩, hv, hs2⟩
  obtain ⟨hbx, hrx⟩ := HT2.out.frame hs2 (by simp)
  have b0 := hbx.cell 0
  have b1 := hbx.cell 1
  have b2 := hbx.cell 2
  have bz := hbx.lt
  have HV := Lib.hid hv
  have HS2 := Lib.hid (HT2.out.same.trans hs2)
  have ho2 := HO.out.frame HS2.out (by simp)
  have HO2 := Lib.hid ho2
  have HBX := Lib.hid hbx
  have HRX := Lib.hid hrx
  clear hs2 hv hn ho2 hbx hrx
  go_wp2_with (at_builtin; refine wpList_append_lies _ rfl (.tmp 27) (.tmp 29) 22 rfl 0 74 i0 _ 1 8 Tryz.underlying22 HI0.out.1 HI0.out.2.1 HI0.out.2.2.1 HI0.out.2.2.2 rfl (by decide) (.slice A1 c.consts.length C1) c.consts.length (c.consts.map (Value.int .u64)) rfl (HO2.out.cr.alloc _) _ 1 1 [.int .u64 n] rfl rfl (news1 (blk_at rfl)) (one1 rfl) (by omega) (by unfold maxLen; omega) (by omega) (Nat.zero_le _) _ rfl ?_)
  intro g C w5 hown hgrow hat hlt
  have hsA : Same (Value.slice A1 c.consts.length C1).ownBlock.toList w2 w5 := ((Same.refl _ w2).alloc _).trans (Same.of_grown hgrow)
  have hcf : ∀ b, (Value.slice A1 c.consts.length C1).ownBlock = some b → b ∈ F := fun b hb => HO.out.cf b hb
  have hnb : ∀ b, (Value.slice A1 c.consts.length C1).ownBlock = some b → b < w.heap.size := fun b hb => HF.out b (hcf b hb)
  have hbx5 := HBX.out.frame hsA (fun hm => by have := hnb _ (by simpa using hm); omega)
  have hrx5 := HRX.out.frame hsA (fun hm => by have := hnb _ (by simpa using hm); omega)
  have x0 := hbx5.cell 0
  have x1 := hbx5.cell 1
  have x2 := hbx5.cell 2
  have xz := hbx5.lt
  have xf := hbx5.frozen
  have y0 := hrx5.cell 0
  have y1 := hrx5.cell 1
  have y2 := hrx5.cell 2
  have yz := hrx5.lt
  have yf := hrx5.frozen
  have HA := Lib.hid hsA
  have HOWN := Lib.hid hown
  have HAT := Lib.hid hat
  clear hown hgrow hat hsA hbx5 hrx5 b0 b1 b2 bz
  have hfin := HO2.out.addConst n (v2 := .slice (some ⟨g, 0, none⟩) (c.consts.length + 1) C) (w' := w5) ⟨HA.out, fun b hb => by
    cases hb
    rcases HAT.out with h | h
    · exact .inl h
    · right; rw [h]; simp; try omega⟩ HOWN.out
  have hw2 : w.heap.size + 1 < w2.heap.size := HRX.out.lt
  have hg : g < w.heap.size ∧ g ∈ F ∨ w2.heap.size ≤ g := by
    rcases HAT.out with h | h
    · exact .inl ⟨hnb g h, hcf g h⟩
    · right; rw [h]; simp; try omega
  have hmem : ∀ b ∈ (Value.slice (some ⟨g, 0, none⟩) (c.consts.length + 1) C).ownBlock.toList ++ F, b = g ∨ b ∈ F := fun b hb => by simpa [Value.ownBlock] using hb
  have key : ∀ W, Same [w.heap.size, w.heap.size + 1] w5 W → ∀ (f : Option Cd.Co) (x : Bool), x = f.isSome → (∀ d, f = some d → d = { c with consts := c.consts ++ [n] }) → LineP F f w (.returned (.tuple #[.agg #[.slice (some ⟨g, 0, none⟩) (c.consts.length + 1) C, .slice A2 c.procs.length C2, .slice A3 c.globals.length C3], .bool x])) W := fun W hW f x hx hf => by
    refine ⟨_, _, _, _, _, _, _, _, _, by rw [hx], ?_, fun d hd => ?_⟩
    · refine ((HS2.out.mono (fun x hx => by cases hx)).trans' HA.out (fun x hx => .inl (hcf x (by simpa using hx)))).trans' hW (fun x hx => ?_)
      simp only [List.mem_cons, List.not_mem_nil, or_false] at hx
      omega
    · rw [hf d hd]
      refine ⟨_, _, hfin.frame hW (fun b hb hm => ?_), fun b hb => ?_, fun b hb => ?_⟩
      · have hm' : b = w.heap.size ∨ b = w.heap.size + 1 := by simpa using hm
        rcases hmem b hb with h | h
        · subst h; omega
        · have := HF.out b h; omega
      · rcases hmem b hb with h | h
        · subst h; have := hW.size; omega
        · have h1 := HF.out b h; have h2 := hW.size; have h3 := HS2.out.size; have h4 := HA.out.size; omega
      · rcases hmem b hb with h | h
        · subst h
          rcases hg with h | h
          · exact .inl h.2
          · right; omega
        · exact .inl h
  have HKEY := Lib.hid key
  clear key hfin hg hmem hcf hnb
  obtain ⟨o, ho⟩ : ∃ o, Cd.constR (s.data.toList.drop Cd.constB.length) = o := ⟨_, rfl⟩
  rw [ho] at HV HL
  rw [ho]
  clear ho
  cases o with
  | none =>
    simp only [Option.isSome_none]
    go_wp2_with fail
    go_region
    go_wp2_with fail
    refine bodyPost_ret (v := .tuple #[.agg #[.slice (some ⟨g, 0, none⟩) (c.consts.length + 1) C, .slice A2 c.procs.length C2, .slice A3 c.globals.length C3], .bool false]) (by simp [results, Tryz.results51, go_sem, y0, y1, y2, yf]) rfl ?_
    rw [show Cd.lineR c s.data.toList = none from HL.out]
    exact HKEY.out _ (by repeat (first | exact Same.refl _ _ | refine Same.setCell ?_ (.inl (by simp)) _ | refine Same.drew ?_)) none false rfl (fun d hd => by cases hd)
  | some x =>
    have hn := HV.out x rfl
    injection hn with _ hn
    subst hn
    simp only [Option.isSome_some]
    by_cases q1 : c.globals.length = 0
    · by_cases q2 : c.procs.length = 0
      · have HN : Hid (Cd.lineR c s.data.toList = some { c with consts := c.consts ++ [n] }) := Lib.hid (by rw [HL.out]; dsimp only; rw [if_pos ⟨List.eq_nil_of_length_eq_zero q1, List.eq_nil_of_length_eq_zero q2⟩])
        have f1 : ((c.globals.length : Int) == 0) = true := by rw [q1]; rfl
        have f2 : ((c.procs.length : Int) == 0) = true := by rw [q2]; rfl
        clear q1 q2
        go_wp2_with fail
        go_region
        go_wp2_with fail
        refine bodyPost_ret (v := .tuple #[.agg #[.slice (some ⟨g, 0, none⟩) (c.consts.length + 1) C, .slice A2 c.procs.length C2, .slice A3 c.globals.length C3], .bool true]) (by simp [results, Tryz.results51, go_sem, y0, y1, y2, yf]) rfl ?_
        rw [HN.out]
        exact HKEY.out _ (by repeat (first | exact Same.refl _ _ | refine Same.setCell ?_ (.inl (by simp)) _ | refine Same.drew ?_)) (some _) true rfl (fun d hd => by injection hd with hd; exact hd.symm)
      · have HN : Hid (Cd.lineR c s.data.toList = none) := Lib.hid (by rw [HL.out]; dsimp only; rw [if_neg (fun h => q2 (by rw [h.2]; rfl))])
        have f1 : ((c.globals.length : Int) == 0) = true := by rw [q1]; rfl
        have f2 : ((c.procs.length : Int) == 0) = false := by rw [beq_eq_false_iff_ne]; omega
        clear q1 q2
        go_wp2_with fail
        go_region
        go_wp2_with fail
        refine bodyPost_ret (v := .tuple #[.agg #[.slice (some ⟨g, 0, none⟩) (c.consts.length + 1) C, .slice A2 c.procs.length C2, .slice A3 c.globals.length C3], .bool false]) (by simp [results, Tryz.results51, go_sem, y0, y1, y2, yf]) rfl ?_
        rw [HN.out]
        exact HKEY.out _ (by repeat (first | exact Same.refl _ _ | refine Same.setCell ?_ (.inl (by simp)) _ | refine Same.drew ?_)) none false rfl (fun d hd => by cases hd)
    · have HN : Hid (Cd.lineR c s.data.toList = none) := Lib.hid (by rw [HL.out]; dsimp only; rw [if_neg (fun h => q1 (by rw [h.1]; rfl))])
      have f1 : ((c.globals.length : Int) == 0) = false := by rw [beq_eq_false_iff_ne]; omega
      clear q1
      go_wp2_with fail
      go_region
      go_wp2_with fail
      refine bodyPost_ret (v := .tuple #[.agg #[.slice (some ⟨g, 0, none⟩) (c.consts.length + 1) C, .slice A2 c.procs.length C2, .slice A3 c.globals.length C3], .bool false]) (by simp [results, Tryz.results51, go_sem, y0, y1, y2, yf]) rfl ?_
      rw [HN.out]
      exact HKEY.out _ (by repeat (first | exact Same.refl _ _ | refine Same.setCell ?_ (.inl (by simp)) _ | refine Same.drew ?_)) none false rfl (fun d hd => by cases hd)
end Ck
end Go.Proofs.YticaipedpcmhfaaGreatDoor
