/- Layer 8, the document's answer: a line that is an instruction. -/
import Derived.Test.YticaipedpcmhfaaGreatDoorCkN6
import Derived.Test.YticaipedpcmhfaaGreatDoorCkQ6
namespace Go.Proofs.YticaipedpcmhfaaGreatDoor
open Go.RowKit Hp
namespace Ck
variable {w w' : World}

set_option maxHeartbeats 8000000 in
set_option maxRecDepth 100000 in
theorem line_instrR (s : ByteArray) (hs : s.size ≤ 281474976710656) (cv pv gv : Value) (kvs : List Value) (c : Cd.Co) (F : List Nat) (ho : OCo w cv pv gv kvs c F) (hF : ∀ b ∈ F, b < w.heap.size) (hsm : Small c 100000000)
    (hp : Lib.hasPrefix s.data.toList [32] = true) (h0 : c.procs ≠ []) : Calls Tryz.prog 51 #[.agg #[cv, pv, gv], .string s] w (LineP F (Cd.lineR c s.data.toList) w) := by
  obtain ⟨t, et⟩ := pre_app hp
  have hp_c : Lib.hasPrefix s.data.toList Cd.constB = false := by rw [et]; rfl
  have hp_g : Lib.hasPrefix s.data.toList Cd.globalB = false := by rw [et]; rfl
  have hp_p : Lib.hasPrefix s.data.toList Cd.procB = false := by rw [et]; rfl
  have hcut_c := fun W => cutR_any (w := W) s ⟨#[99, 111, 110, 115, 116, 32]⟩ hs false hp_c (by decide)
  rw [if_neg (by simp)] at hcut_c
  have hcut_g := fun W => cutR_any (w := W) s ⟨#[103, 108, 111, 98, 97, 108, 32]⟩ hs false hp_g (by decide)
  rw [if_neg (by simp)] at hcut_g
  have hcut_p := fun W => cutR_any (w := W) s ⟨#[112, 114, 111, 99, 32]⟩ hs false hp_p (by decide)
  rw [if_neg (by simp)] at hcut_p
  have hcut := fun W => cutR_any (w := W) s ⟨#[32]⟩ hs true hp (by decide)
  rw [if_pos rfl] at hcut
  obtain ⟨r, hr⟩ : ∃ r, bs (s.data.toList.drop (⟨#[32]⟩ : ByteArray).size) = r := ⟨_, rfl⟩
  have hrl : r.data.toList = s.data.toList.drop 1 := by rw [← hr, bs_list]; rfl
  have hrz : r.size ≤ 281474976710656 := by
    rw [list_size r hrl, List.length_drop]
    have h1 : s.data.toList.length = s.size := by simp
    omega
  rw [hr] at hcut
  have HRI := Lib.hid (fun W => instrR_any (w := W) r hrz)
  unfold Got at HRI
  rw [hrl] at HRI
  obtain ⟨o, ho'⟩ : ∃ o, Cd.instrR (s.data.toList.drop 1) = o := ⟨_, rfl⟩
  have hL : Cd.lineR c s.data.toList = o.map (fun i => { c with procs := Cd.addI c.procs i }) := by
    unfold Cd.lineR; rw [if_pos hp, ho']; cases o
    · rfl
    · dsimp only; rw [if_neg h0]; rfl
  rw [ho'] at HRI
  obtain ⟨A1, C1, hcv⟩ := ho.cr.lit
  obtain ⟨A2, C2, hpv⟩ := ho.pr.lit
  obtain ⟨A3, C3, hgv⟩ := ho.gr.lit
  subst hcv hpv hgv
  obtain ⟨q, hq⟩ : ∃ q, c.procs.length = q + 1 := ⟨c.procs.length - 1, by have := List.length_pos_iff.2 h0; omega⟩
  have hpr := ho.pr
  rw [hq] at hpr
  obtain ⟨g, C, hform, _, hgz⟩ := World.ownsRow.form hpr (by omega)
  injection hform with hA _ hC
  subst hA hC
  have HT2 := Lib.hid (two2_new w (.slice A1 c.consts.length C1) (.slice (some ⟨g, 0, none⟩) c.procs.length C2) (.slice A3 c.globals.length C3))
  rw [hq] at HT2
  have hpl : c.procs.length ≤ 100000000 := hsm.sc
  have hqb : q ≤ 100000000 := by omega
  have hkq := ho.kr q (by omega)
  obtain ⟨pq, hpq⟩ : ∃ pq, c.procs.getD q ⟨0, []⟩ = pq := ⟨_, rfl⟩
  obtain ⟨kq, hkqE⟩ : ∃ kq, kvs.getD q undef = kq := ⟨_, rfl⟩
  rw [hpq, hkqE] at hkq
  obtain ⟨Ak, Ck, hkl⟩ := hkq.lit
  subst hkl
  have hp1 : w.cell? ⟨g, q * 2 + 1, none⟩ = some (.slice Ak pq.code.length Ck) := by
    rw [World.ownsRow.cellAt hpr (q * 2 + 1) (by omega), flatP_at c.procs kvs q 1 ho.kl (by omega) (by omega), fP]
    simp only [Nat.one_ne_zero, if_false, hkqE]
  have hpf := World.ownsRow.frozenAt hpr
  have hpn : pq.code.length ≤ 100000000 := hsm.sd pq (by rw [← hpq, List.getD, List.getElem?_eq_getElem (by omega)]; exact List.getElem_mem _)
  have hgF : g ∈ F := ho.pf g rfl
  have hgw := hF g hgF
  have hkF : ∀ b, (Value.slice Ak pq.code.length Ck).ownBlock = some b → b ∈ F ∧ b < w.heap.size := fun b hb => by
    have := ho.kf q b (by omega) (by rw [hkqE]; exact hb)
    exact ⟨this, hF b this⟩
  have HL := Lib.hid hL
  have HO := Lib.hid ho
  have HF := Lib.hid hF
  have HQ := Lib.hid hq
  have HPQ := Lib.hid hpq
  have HKQE := Lib.hid hkqE
  have HKQ := Lib.hid hkq
  have HPR := Lib.hid hpr
  have HKF := Lib.hid hkF
  have HGF := Lib.hid hgF
  obtain ⟨i0, hi1, hz0, hz1, hz2⟩ := info_parts infoI
  have HI0 := Lib.hid (And.intro hi1 (And.intro hz0 (And.intro hz1 hz2)))
  have hq3 : ((q : Int) + 1 == 0) = false := by rw [beq_eq_false_iff_ne]; omega
  rw [hq]
  clear ho ho' hF hsm hL h0 hp et hrl hr hpl hq hpq hkqE hkq hpr hkF hgF hi1 hz0 hz1 hz2 hp_c hp_g hp_p
  go_enter Tryz.func51, Tryz.ntmps51
  go_wp2_with fail
  refine (hcut_c _).mono ?_
  rintro e w' ⟨rfl, rfl⟩
  go_wp2_with fail
  refine (hcut_g _).mono ?_
  rintro e w' ⟨rfl, rfl⟩
  go_wp2_with fail
  refine (hcut_p _).mono ?_
  rintro e w' ⟨rfl, rfl⟩
  go_wp2_with fail
  refine (hcut _).mono ?_
  rintro e w' ⟨rfl, rfl⟩
  go_wp2_with fail
  refine (HRI.out _).mono ?_
  rintro e w2 ⟨v, rfl, ⟨y, rfl, hy⟩, hv, hs2⟩
  obtain ⟨hbx, hrx⟩ := HT2.out.frame hs2 (by simp)
  have b0 := hbx.cell 0
  have b1 := hbx.cell 1
  have b2 := hbx.cell 2
  have bz := hbx.lt
  have HV := Lib.hid hv
  have HS2 := Lib.hid (HT2.out.same.trans hs2)
  have hp1' := (HS2.out.cell hgz (by simp)).trans hp1
  have hgz' := Nat.lt_of_lt_of_le hgz HS2.out.size
  have hpf' : ∀ j, w2.frozen? ⟨g, j, none⟩ = false := fun j => by rw [HS2.out.frozen hgz (by simp)]; exact hpf j
  have HBX := Lib.hid hbx
  have HRX := Lib.hid hrx
  clear hs2 hv hy hbx hrx hp1 hgz hpf
  have hw1 : IntKind.i64.wrap ((q : Int) + 1 - 1) = (q : Int) := by have := IntWalk.i64_in ((q : Int) + 1 - 1) (by omega); omega
  have hw2 : IntKind.i64.wrap (q : Int) = (q : Int) := IntWalk.i64_in (q : Int) (by omega)
  have hw3 : (0 : Int) ≤ (q : Int) := by omega
  have hw4 : (q : Int) < (q : Int) + 1 := by omega
  unfold encI
  obtain ⟨okb, hok⟩ : ∃ okb, o.isSome = okb := ⟨_, rfl⟩
  rw [hok]
  have HOK := Lib.hid hok
  clear hok
  have HKQ' : Hid (∀ W, Same [] w W → Ow W 82 2 (.slice Ak pq.code.length Ck) pq.code.length (flatI pq.code)) := Lib.hid (fun W hs => HKQ.out.frame hs (by simp))
  have HNGM : Hid (g ∉ (Value.slice Ak pq.code.length Ck).ownBlock.toList) := Lib.hid (fun hm => HKQ.out.ne HPR.out (by decide) (b := g) (by simpa using hm) rfl)
  go_upto_region 20 with fail
  go_region_law (((refine step_append_lies _ rfl (.tmp 114) (.tmp 116) 66 rfl 0 82 i0 _ 2 16 Tryz.underlying66 HI0.out.1 HI0.out.2.1 HI0.out.2.2.1 HI0.out.2.2.2 rfl (by decide) (.slice Ak pq.code.length Ck) pq.code.length (flatI pq.code) rfl (HKQ'.out _ (by repeat (first | exact HS2.out | refine Same.drew ?_ | refine Same.drewN ?_ _ | refine Same.alloc ?_ _))) _ 1 1 [.int .u8 y.op, .int .i64 y.a] rfl rfl (by first | exact news2 (blk_at (by simp)) | exact news2 (Blk.drew (blk_at (by simp)))) (one2 rfl rfl) (by omega) (by unfold maxLen; omega) (by omega) (Nat.zero_le _) _ rfl ?_); (intro gk Ck2 w5 hown hgrow hat hlt; have hsA : Same (Value.slice Ak pq.code.length Ck).ownBlock.toList w2 w5 := Same.trans (by repeat (first | exact Same.refl _ _ | refine Same.drew ?_ | refine Same.drewN ?_ _ | refine Same.alloc ?_ _)) (Same.of_grown hgrow); have hx1 := (hsA.cell hgz' HNGM.out).trans hp1'; have hx2 : ∀ j, w5.frozen? ⟨g, j, none⟩ = false := (fun j => (hsA.frozen hgz' HNGM.out).trans (hpf' j)); have hx3 := Nat.lt_of_lt_of_le hgz' hsA.size; have hbx5 := HBX.out.frame hsA (fun hm => by have := (HKF.out _ (by simpa using hm)).2; omega); have hrx5 := HRX.out.frame hsA (fun hm => by have := (HKF.out _ (by simpa using hm)).2; omega); have x0 := hbx5.cell 0; have x1 := hbx5.cell 1; have x2 := hbx5.cell 2; have xz := hbx5.lt; have y0 := hrx5.cell 0; have y1 := hrx5.cell 1; have y2 := hrx5.cell 2; have yz := hrx5.lt; have yf := hrx5.frozen; have HA := Lib.hid hsA; have HOWN := Lib.hid hown; have HAT := Lib.hid hat; clear hsA hown hgrow hat hbx5 hrx5)))
  all_goals
    go_wp2_with fail
    refine bodyPost_ret (v := .tuple #[.agg #[.slice A1 c.consts.length C1, .slice (some ⟨g, 0, none⟩) (q + 1) C2, .slice A3 c.globals.length C3], .bool okb]) (by simp [results, Tryz.results51, go_sem, y0, y1, y2, yf]) rfl ?_
    have hw6 : w.heap.size + 1 < w2.heap.size := HRX.out.lt
    have hat' : ∀ b, (Value.slice (some ⟨gk, 0, none⟩) (pq.code.length + 1) Ck2).ownBlock = some b → (Value.slice Ak pq.code.length Ck).ownBlock = some b ∨ w2.heap.size ≤ b := fun b hb => by
      cases hb
      rcases HAT.out with h | h
      · exact .inl h
      · right; rw [h]; simp; try omega
    have hgk : gk < w.heap.size ∧ gk ∈ F ∨ w2.heap.size ≤ gk := by
      rcases hat' gk rfl with h | h
      · exact .inl ⟨(HKF.out gk h).2, (HKF.out gk h).1⟩
      · exact .inr h
    have ho2 := HO.out.frame HS2.out (by simp)
    rw [HQ.out] at ho2
    have hfin := ho2.addInstr HQ.out y (v2 := .slice (some ⟨gk, 0, none⟩) (pq.code.length + 1) Ck2) (w' := w5) ⟨by rw [HKQE.out]; exact HA.out, by rw [HKQE.out]; exact hat'⟩ (by rw [HPQ.out]; exact HOWN.out)
    have hmem : ∀ b ∈ (Value.slice (some ⟨gk, 0, none⟩) (pq.code.length + 1) Ck2).ownBlock.toList ++ F, b = gk ∨ b ∈ F := fun b hb => by simpa [Value.ownBlock] using hb
    have hsF : Same F w (w5.setCell ⟨g, q * 2 + 1, none⟩ (.slice (some ⟨gk, 0, none⟩) (pq.code.length + 1) Ck2)) :=
      ((HS2.out.mono (fun x hx => by cases hx)).trans' HA.out (fun x hx => .inl (HKF.out x (by simpa using hx)).1)).setCell (.inl HGF.out) _
    have key : ∀ W, Same [w.heap.size, w.heap.size + 1] (w5.setCell ⟨g, q * 2 + 1, none⟩ (.slice (some ⟨gk, 0, none⟩) (pq.code.length + 1) Ck2)) W → LineP F (Cd.lineR c s.data.toList) w (.returned (.tuple #[.agg #[.slice A1 c.consts.length C1, .slice (some ⟨g, 0, none⟩) (q + 1) C2, .slice A3 c.globals.length C3], .bool okb])) W := fun W hW => by
      have hsz := hW.size
      rw [HL.out]
      refine ⟨_, _, _, _, _, _, _, _, _, by rw [← HOK.out]; cases o <;> rfl, hsF.trans' hW (fun x hx => ?_), fun d hd => ?_⟩
      · simp only [List.mem_cons, List.not_mem_nil, or_false] at hx
        omega
      · cases o with
        | none => cases hd
        | some i =>
          have hyi : y = i := by
            have hv' := HV.out i rfl
            obtain ⟨yo, ya⟩ := y
            obtain ⟨xo, xa⟩ := i
            unfold encI at hv'
            injection hv' with hv'
            simp only [Array.mk.injEq, List.cons.injEq, Value.int.injEq, true_and, and_true] at hv'
            rw [hv'.1, hv'.2]
          subst hyi
          injection hd with hd
          subst hd
          refine ⟨_, _, hfin.frame hW (fun b hb hm => ?_), fun b hb => ?_, fun b hb => ?_⟩
          · have hm' : b = w.heap.size ∨ b = w.heap.size + 1 := by simpa using hm
            rcases hmem b hb with h | h
            · subst h; omega
            · have := HF.out b h; omega
          · rcases hmem b hb with h | h
            · subst h; refine Nat.lt_of_lt_of_le ?_ hsz; simpa using hlt
            · exact Nat.lt_of_lt_of_le (HF.out b h) (Nat.le_trans hsF.size hsz)
          · rcases hmem b hb with h | h
            · subst h
              rcases hgk with h | h
              · exact .inl h.2
              · right; omega
            · exact .inl h
    exact key _ (by repeat (first | exact Same.refl _ _ | refine Same.setCell ?_ (.inl (by simp)) _ | refine Same.drew ?_))
end Ck
end Go.Proofs.YticaipedpcmhfaaGreatDoor
/- Layer 8, the document's answer: a line. -/
namespace Go.Proofs.YticaipedpcmhfaaGreatDoor
open Go.RowKit Hp
namespace Ck
variable {w w' : World}

/-- No line: the code as it came. -/
theorem line_last {W : World} {A1 : Option Addr} {n1 C1 : Nat} {A2 : Option Addr} {n2 C2 : Nat} {A3 : Option Addr} {n3 C3 : Nat} {F : List Nat} {W1 : World} (h1 : Same [] w W1) (hW : Same [w.heap.size, w.heap.size + 1] W1 W) (f : Option Cd.Co) (hf : f = none) : LineP F f w (.returned (.tuple #[.agg #[.slice A1 n1 C1, .slice A2 n2 C2, .slice A3 n3 C3], .bool false])) W := by
  subst hf
  refine ⟨_, _, _, _, _, _, _, _, _, rfl, ((h1.mono (fun x hx => by cases hx)).trans' hW (fun x hx => ?_)), fun d hd => by cases hd⟩
  simp only [List.mem_cons, List.not_mem_nil, or_false] at hx
  omega

set_option maxHeartbeats 8000000 in
set_option maxRecDepth 100000 in
theorem line_noneR (s : ByteArray) (hs : s.size ≤ 281474976710656) (cv pv gv : Value) (kvs : List Value) (c : Cd.Co) (F : List Nat) (ho : OCo w cv pv gv kvs c F)
    (hp_c : Lib.hasPrefix s.data.toList Cd.constB = false) (hp_g : Lib.hasPrefix s.data.toList Cd.globalB = false) (hp_p : Lib.hasPrefix s.data.toList Cd.procB = false) (x : Bool) (hx : Lib.hasPrefix s.data.toList [32] = x) (h0 : x = true → c.procs = []) : Calls Tryz.prog 51 #[.agg #[cv, pv, gv], .string s] w (LineP F (Cd.lineR c s.data.toList) w) := by
  have hcut_c := fun W => cutR_any (w := W) s ⟨#[99, 111, 110, 115, 116, 32]⟩ hs false hp_c (by decide)
  rw [if_neg (by simp)] at hcut_c
  have hcut_g := fun W => cutR_any (w := W) s ⟨#[103, 108, 111, 98, 97, 108, 32]⟩ hs false hp_g (by decide)
  rw [if_neg (by simp)] at hcut_g
  have hcut_p := fun W => cutR_any (w := W) s ⟨#[112, 114, 111, 99, 32]⟩ hs false hp_p (by decide)
  rw [if_neg (by simp)] at hcut_p
  have hcut := fun W => cutR_any (w := W) s ⟨#[32]⟩ hs x hx (by decide)
  have hL : Cd.lineR c s.data.toList = none := by
    unfold Cd.lineR
    rw [hx, if_neg (show ¬ Lib.hasPrefix s.data.toList Cd.constB = true by rw [hp_c]; simp), if_neg (show ¬ Lib.hasPrefix s.data.toList Cd.globalB = true by rw [hp_g]; simp), if_neg (show ¬ Lib.hasPrefix s.data.toList Cd.procB = true by rw [hp_p]; simp)]
    cases x
    · rw [if_neg (by simp)]
    · rw [if_pos rfl]
      cases Cd.instrR (s.data.toList.drop 1)
      · rfl
      · dsimp only; rw [if_pos (h0 rfl)]
  obtain ⟨A1, C1, hcv⟩ := ho.cr.lit
  obtain ⟨A2, C2, hpv⟩ := ho.pr.lit
  obtain ⟨A3, C3, hgv⟩ := ho.gr.lit
  subst hcv hpv hgv
  have HT2 := Lib.hid (two2_new w (.slice A1 c.consts.length C1) (.slice A2 c.procs.length C2) (.slice A3 c.globals.length C3))
  have HL := Lib.hid hL
  cases x
  all_goals
    first
      | (have hp0 : ((c.procs.length : Int) == 0) = true := by rw [h0 rfl]; rfl)
      | skip
    clear ho hL hx h0 hp_c hp_g hp_p
    go_enter Tryz.func51, Tryz.ntmps51
    go_wp2_with fail
    refine (hcut_c _).mono ?_
    rintro e w' ⟨rfl, rfl⟩
    go_wp2_with fail
    refine (hcut_g _).mono ?_
    rintro e w' ⟨rfl, rfl⟩
    go_wp2_with fail
    refine (hcut_p _).mono ?_
    rintro e w' ⟨rfl, rfl⟩
    go_wp2_with fail
    refine (hcut _).mono ?_
    rintro e w2 ⟨rfl, hw2⟩
    obtain ⟨hbx, hrx⟩ := HT2.out.frame (W' := w2) (F := []) (by rw [← hw2]; exact Same.refl _ _) (by simp)
    have HS2 : Hid (Same [] w w2) := Lib.hid (by rw [← hw2]; exact HT2.out.same)
    have x0 := hbx.cell 0
    have x1 := hbx.cell 1
    have x2 := hbx.cell 2
    have xz := hbx.lt
    have y0 := hrx.cell 0
    have y1 := hrx.cell 1
    have y2 := hrx.cell 2
    have yz := hrx.lt
    have yf := hrx.frozen
    clear hw2 hbx hrx
    go_wp2_with fail
    refine bodyPost_ret (v := .tuple #[.agg #[.slice A1 c.consts.length C1, .slice A2 c.procs.length C2, .slice A3 c.globals.length C3], .bool false]) (by simp [results, Tryz.results51, go_sem, y0, y1, y2, yf]) rfl ?_
    exact line_last HS2.out (by repeat (first | exact Same.refl _ _ | refine Same.setCell ?_ (.inl (by simp)) _ | refine Same.drew ?_)) _ HL.out

theorem lineR_any (s : ByteArray) (hs : s.size ≤ 281474976710656) (cv pv gv : Value) (kvs : List Value) (c : Cd.Co) (F : List Nat) (ho : OCo w cv pv gv kvs c F) (hF : ∀ b ∈ F, b < w.heap.size) (hsm : Small c 100000000) :
    Calls Tryz.prog 51 #[.agg #[cv, pv, gv], .string s] w (LineP F (Cd.lineR c s.data.toList) w) := by
  cases hc : Lib.hasPrefix s.data.toList Cd.constB
  · cases hg : Lib.hasPrefix s.data.toList Cd.globalB
    · cases hp : Lib.hasPrefix s.data.toList Cd.procB
      · cases hb : Lib.hasPrefix s.data.toList [32]
        · exact line_noneR s hs cv pv gv kvs c F ho hc hg hp false hb (fun h => by cases h)
        · by_cases h0 : c.procs = []
          · exact line_noneR s hs cv pv gv kvs c F ho hc hg hp true hb (fun _ => h0)
          · exact line_instrR s hs cv pv gv kvs c F ho hF hsm hb h0
      · exact line_procR s hs cv pv gv kvs c F ho hF hsm hp
    · exact line_globalR s hs cv pv gv kvs c F ho hF hsm hg
  · exact line_constR s hs cv pv gv kvs c F ho hF hsm hc
end Ck
end Go.Proofs.YticaipedpcmhfaaGreatDoor
