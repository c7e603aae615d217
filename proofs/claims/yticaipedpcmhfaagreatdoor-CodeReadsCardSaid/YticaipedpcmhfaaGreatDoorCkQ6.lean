/- Layer 8, package code: read: a line is put to code. -/
import Derived.Test.YticaipedpcmhfaaGreatDoorCkQ2
import Derived.Test.YticaipedpcmhfaaGreatDoorCkP4
import Derived.Deep.AppendLies
import Derived.Deep.RegionLaw
import Derived.Deep.QuietTactic
import Derived.BigQuiet
import Derived.IntWalk
import Derived.Deep.DeepCutAuto
import Derived.Test.YticaipedpcmhfaaGreatDoorCkW2
namespace Go.Proofs.YticaipedpcmhfaaGreatDoor
open Go.RowKit Hp
namespace Ck
variable {w w' : World}

theorem infoW : (Tryz.prog.info? 74).map (fun i => (i.zero, i.size, i.bytes)) = some (some (.int .u64 0), 1, 8) := by kernel_rfl
theorem infoS : (Tryz.prog.info? 9).map (fun i => (i.zero, i.size, i.bytes)) = some (some (.string ⟨#[]⟩), 1, 16) := by kernel_rfl
theorem infoP : (Tryz.prog.info? 68).map (fun i => (i.zero, i.size, i.bytes)) = some (some (.agg #[.int .i64 0, .slice none 0 0]), 2, 32) := by kernel_rfl
theorem infoI : (Tryz.prog.info? 82).map (fun i => (i.zero, i.size, i.bytes)) = some (some (.agg #[.int .u8 0, .int .i64 0]), 2, 16) := by kernel_rfl

/-- What read leaves: if the line may stand there, the code has it. -/
def ReadP (cb : Nat) (F : List Nat) (f : Option Cd.Co) (w : World) (e : Ending) (w' : World) : Prop :=
  e = .returned (.bool f.isSome) ∧ Same F w w' ∧ ∀ d, f = some d → ∃ cv pv gv kvs F', OC w' cb cv pv gv kvs d F' ∧ ∀ b ∈ F', b ∈ F ∨ w.heap.size ≤ b

/-- Code of a bounded size. -/
structure Small (c : Cd.Co) (N : Nat) : Prop where
  sa : c.consts.length ≤ N
  sb : c.globals.length ≤ N
  sc : c.procs.length ≤ N
  sd : ∀ p ∈ c.procs, p.code.length ≤ N

theorem cut_pre (s p : ByteArray) (x : Bool) (hx : Lib.hasPrefix s.data.toList p.data.toList = x) (r : ByteArray) (hr : bs (Lib.trimPrefix s.data.toList p.data.toList) = r) : ∀ w, Calls Tryz.prog 107 #[.string s, .string p] w fun e w' => e = .returned (.tuple #[.string r, .bool x]) ∧ w = w' :=
  fun w => (cut_prefix s p x hx r hr w).mono fun _ _ h => ⟨h.1, h.2.symm⟩
theorem news2 {W : World} {b : Nat} {x y : Value} {t : TypeId} (hb : Blk W b t [x, y]) : ∀ j u, [x, y][j]? = some u → W.cell? ((⟨b, 0, none⟩ : Addr).add j) = some u := World.news_of_block hb
theorem news1 {W : World} {b : Nat} {x : Value} {t : TypeId} (hb : Blk W b t [x]) : ∀ j u, [x][j]? = some u → W.cell? ((⟨b, 0, none⟩ : Addr).add j) = some u := World.news_of_block hb
theorem blk_at {W : World} {b : Nat} {t : TypeId} {cs : List Value} (hb : b = W.heap.size) : Blk (W.alloc (.cells cs.toArray t)) b t cs := by subst hb; exact Blk.new W t cs
theorem one2 {x y : Value} (hx : x.oneCell' = true) (hy : y.oneCell' = true) : ∀ u ∈ [x, y], u.oneCell' = true := fun u hu => by
  rcases List.mem_cons.1 hu with rfl | hu
  · exact hx
  · rcases List.mem_cons.1 hu with rfl | hu
    · exact hy
    · cases hu
theorem one1 {x : Value} (hx : x.oneCell' = true) : ∀ u ∈ [x], u.oneCell' = true := fun u hu => by
  rcases List.mem_cons.1 hu with rfl | hu
  · exact hx
  · cases hu

set_option maxHeartbeats 8000000 in
set_option maxRecDepth 100000 in
theorem read_instr (s : ByteArray) (hs : s.size ≤ 281474976710656) (h : Vars w) (cb : Nat) (cv pv gv : Value) (kvs : List Value) (c : Cd.Co) (F : List Nat) (ho : OC w cb cv pv gv kvs c F) (hF : ∀ b ∈ F, 10 ≤ b) (hsm : Small c 100000000)
    (hp : Lib.hasPrefix s.data.toList [32] = true) : Calls Tryz.prog 54 #[.pointer (some ⟨cb, 0, none⟩), .string s] w (ReadP cb F (Cd.lineR c s.data.toList) w) := by
  obtain ⟨r, hr⟩ : ∃ r, bs (Lib.trimPrefix s.data.toList [32]) = r := ⟨_, rfl⟩
  have hrl : r.data.toList = s.data.toList.drop 1 := by rw [← hr, bs_list, trim_drop _ _ hp]; rfl
  have hrz : r.size ≤ 281474976710656 := by
    have := trim_len s.data.toList [32]
    rw [← hr, bs_size]
    rw [← list_size s rfl] at this
    omega
  have hcut := cut_pre s ⟨#[32]⟩ true hp r hr
  have HRI := Lib.hid (readInstr_any r hrz h)
  unfold Got at HRI
  rw [hrl] at HRI
  have hL : Cd.lineR c s.data.toList = match Cd.instrR (s.data.toList.drop 1) with | some i => if c.procs = [] then none else some { c with procs := Cd.addI c.procs i } | none => none := by
    unfold Cd.lineR; rw [if_pos hp]; cases Cd.instrR (s.data.toList.drop 1) <;> rfl
  obtain ⟨A1, C1, hcv⟩ := ho.own.cr.lit
  obtain ⟨A2, C2, hpv⟩ := ho.own.pr.lit
  obtain ⟨A3, C3, hgv⟩ := ho.own.gr.lit
  subst hcv hpv hgv
  have b0 := ho.box.cell 0
  have b1 := ho.box.cell 1
  have b2 := ho.box.cell 2
  have bz := ho.box.lt
  have HO := Lib.hid ho
  have HF := Lib.hid hF
  have HSM := Lib.hid hsm
  have hpl : c.procs.length ≤ 100000000 := hsm.sc
  clear ho hF hsm h hp hrl hr
  cases hi : Cd.instrR (s.data.toList.drop 1) with
  | none =>
    rw [hi] at hL HRI
    dsimp only at hL
    have HL := Lib.hid hL
    clear hL hi
    go_enter Tryz.func54, Tryz.ntmps54
    go_wp2_with (go_at_call 107; refine (hcut _).mono ?_; rintro e w' ⟨rfl, rfl⟩)
    refine HRI.out.mono ?_
    rintro e w2 ⟨v, rfl, ⟨x, rfl, hx⟩, _, hs2⟩
    have HS2 := Lib.hid hs2
    clear hs2 hx
    unfold encI
    go_wp2_with fail
    go_ret
    exact ⟨by rw [HL.out]; rfl, ((HS2.out.alloc _).mono (fun x hx => by cases hx)), fun d hd => by rw [HL.out] at hd; cases hd⟩
  | some x =>
    rw [hi] at hL HRI
    dsimp only at hL
    by_cases h0 : c.procs.length = 0
    · rw [if_pos (List.eq_nil_of_length_eq_zero h0)] at hL
      have HL := Lib.hid hL
      rw [h0] at b1
      have hq0 : True := trivial
      clear hL hi h0 hpl
      go_enter Tryz.func54, Tryz.ntmps54
      go_wp2_with (go_at_call 107; refine (hcut _).mono ?_; rintro e w' ⟨rfl, rfl⟩)
      refine HRI.out.mono ?_
      rintro e w2 ⟨v, rfl, ⟨y, rfl, hy⟩, hv, hs2⟩
      have b1' := (hs2.cell bz (by simp)).trans b1
      have bz' := Nat.lt_of_lt_of_le bz hs2.size
      have HS2 := Lib.hid hs2
      clear hs2 hy hv
      unfold encI
      go_wp2_with fail
      go_ret
      exact ⟨by rw [HL.out]; rfl, ((HS2.out.alloc _).mono (fun x hx => by cases hx)), fun d hd => by rw [HL.out] at hd; cases hd⟩
    · obtain ⟨q, hq⟩ : ∃ q, c.procs.length = q + 1 := ⟨c.procs.length - 1, by omega⟩
      rw [if_neg (fun e => h0 (by rw [e]; rfl))] at hL
      have hqb : q ≤ 100000000 := by omega
      have hpr := HO.out.own.pr
      rw [hq] at hpr b1
      obtain ⟨g, C, hform, _, hgz⟩ := World.ownsRow.form hpr (by omega)
      injection hform with hA _ hC
      subst hA hC
      have hkq := HO.out.own.kr q (by omega)
      obtain ⟨pq, hpq⟩ : ∃ pq, c.procs.getD q ⟨0, []⟩ = pq := ⟨_, rfl⟩
      obtain ⟨kq, hkqE⟩ : ∃ kq, kvs.getD q undef = kq := ⟨_, rfl⟩
      rw [hpq, hkqE] at hkq
      obtain ⟨Ak, Ck, hkl⟩ := hkq.lit
      subst hkl
      have hp1 : w.cell? ⟨g, q * 2 + 1, none⟩ = some (.slice Ak pq.code.length Ck) := by
        rw [World.ownsRow.cellAt hpr (q * 2 + 1) (by omega), flatP_at c.procs kvs q 1 HO.out.own.kl (by omega) (by omega), fP]
        simp only [Nat.one_ne_zero, if_false, hkqE]
      have hpf := World.ownsRow.frozenAt hpr
      have hpn : pq.code.length ≤ 100000000 := HSM.out.sd pq (by rw [← hpq, List.getD, List.getElem?_eq_getElem (by omega)]; exact List.getElem_mem _)
      have HL := Lib.hid hL
      have HQ := Lib.hid hq
      have HPQ := Lib.hid hpq
      have HKQE := Lib.hid hkqE
      have HKQ := Lib.hid hkq
      have HPR := Lib.hid hpr
      obtain ⟨i0, hi1, hz0, hz1, hz2⟩ := info_parts infoI
      have HI0 := Lib.hid (And.intro hi1 (And.intro hz0 (And.intro hz1 hz2)))
      have hgcb : g ≠ cb := fun e => hpr.ne_blk HO.out.box (by decide) (by rw [e]; rfl)
      have hq3 : ((q : Int) + 1 == 0) = false := by rw [beq_eq_false_iff_ne]; omega
      clear hL hi h0 hpl hq hpq hkqE hkq hpr hi1 hz0 hz1 hz2
      go_enter Tryz.func54, Tryz.ntmps54
      go_wp2_with (go_at_call 107; refine (hcut _).mono ?_; rintro e w' ⟨rfl, rfl⟩)
      refine HRI.out.mono ?_
      rintro e w2 ⟨v, rfl, ⟨y, rfl, hy⟩, hv, hs2⟩
      have hv' := hv x rfl
      unfold encI at hv'
      injection hv' with hv'
      have hyx : y = x := by
        obtain ⟨yo, ya⟩ := y
        obtain ⟨xo, xa⟩ := x
        simp only [Array.mk.injEq, List.cons.injEq, Value.int.injEq, true_and, and_true] at hv'
        rw [hv'.1, hv'.2]
      subst hyx
      have b1' := (hs2.cell bz (by simp)).trans b1
      have bz' := Nat.lt_of_lt_of_le bz hs2.size
      have hp1' := (hs2.cell hgz (by simp)).trans hp1
      have hgz' := Nat.lt_of_lt_of_le hgz hs2.size
      have hpf' : ∀ j, w2.frozen? ⟨g, j, none⟩ = false := fun j => by rw [hs2.frozen hgz (by simp)]; exact hpf j
      have HS2 := Lib.hid hs2
      clear hs2 hy hv hv' b0 b1 b2 bz hp1 hgz hpf
      have hw1 : IntKind.i64.wrap ((q : Int) + 1 - 1) = (q : Int) := by have := IntWalk.i64_in ((q : Int) + 1 - 1) (by omega); omega
      have hw2 : IntKind.i64.wrap (q : Int) = (q : Int) := IntWalk.i64_in (q : Int) (by omega)
      have hw3 : (0 : Int) ≤ (q : Int) := by omega
      have hw4 : (q : Int) < (q : Int) + 1 := by omega
      unfold encI
      go_wp2_with fail
      go_quiet (fail)
      have HKQ' : Hid (∀ W, Same [] w W → Ow W 82 2 (.slice Ak pq.code.length Ck) pq.code.length (flatI pq.code)) := Lib.hid (fun W hs => HKQ.out.frame hs (by simp))
      have HNG : Hid (∀ b, (Value.slice Ak pq.code.length Ck).ownBlock = some b → b ≠ g) := Lib.hid (fun b hb e => HKQ.out.ne HPR.out (by decide) hb (by rw [e]; rfl))
      have HNGM : Hid (g ∉ (Value.slice Ak pq.code.length Ck).ownBlock.toList) := Lib.hid (fun hm => HNG.out g (by simpa using hm) rfl)
      go_upto_region 7 with fail
      go_region_law (((refine step_append_lies _ rfl (.tmp 56) (.tmp 58) 66 rfl 0 82 i0 _ 2 16 Tryz.underlying66 HI0.out.1 HI0.out.2.1 HI0.out.2.2.1 HI0.out.2.2.2 rfl (by decide) (.slice Ak pq.code.length Ck) pq.code.length (flatI pq.code) rfl (HKQ'.out _ (by repeat (first | exact HS2.out | refine Same.drew ?_ | refine Same.drewN ?_ _ | refine Same.alloc ?_ _))) _ 1 1 [.int .u8 y.op, .int .i64 y.a] rfl rfl (by first | exact news2 (blk_at (by simp)) | exact news2 (Blk.drew (blk_at (by simp)))) (one2 rfl rfl) (by omega) (by unfold maxLen; omega) (by omega) (Nat.zero_le _) _ rfl ?_); (intro gk Ck2 w5 hown hgrow hat hlt; have hsA : Same (Value.slice Ak pq.code.length Ck).ownBlock.toList w2 w5 := Same.trans (by repeat (first | exact Same.refl _ _ | refine Same.drew ?_ | refine Same.drewN ?_ _ | refine Same.alloc ?_ _)) (Same.of_grown hgrow); have hx1 := (hsA.cell hgz' HNGM.out).trans hp1'; have hx2 : ∀ j, w5.frozen? ⟨g, j, none⟩ = false := (fun j => (hsA.frozen hgz' HNGM.out).trans (hpf' j)); have hx3 := Nat.lt_of_lt_of_le hgz' hsA.size; have HA := Lib.hid hsA; have HOWN := Lib.hid hown; have HAT := Lib.hid hat; clear hsA hown hgrow hat)))
      all_goals
        go_wp2_with fail
        go_ret
        have hg : gk = gk := rfl
        have hat' : ∀ b, (Value.slice (some ⟨gk, 0, none⟩) (pq.code.length + 1) Ck2).ownBlock = some b → (Value.slice Ak pq.code.length Ck).ownBlock = some b ∨ w2.heap.size ≤ b := fun b hb => by
          cases hb
          rcases HAT.out with h | h
          · exact .inl h
          · right; rw [h]; simp; try omega
        have ho2 := HO.out.own.frame HS2.out (by simp)
        rw [HQ.out] at ho2
        have hkf : ∀ b, (Value.slice Ak pq.code.length Ck).ownBlock = some b → b ∈ F := fun b hb => HO.out.own.kf q b (by rw [HQ.out]; omega) (by rw [HKQE.out]; exact hb)
        have hgF : g ∈ F := HO.out.own.pf g rfl
        have hbx := HO.out.own.box_ne HO.out.box
        have hfin := ho2.addInstr HQ.out y (v2 := .slice (some ⟨gk, 0, none⟩) (pq.code.length + 1) Ck2) (w' := w5) ⟨by rw [HKQE.out]; exact HA.out, by rw [HKQE.out]; exact hat'⟩ (by rw [HPQ.out]; exact HOWN.out)
        have hsF : Same F w (w5.setCell ⟨g, q * 2 + 1, none⟩ (.slice (some ⟨gk, 0, none⟩) (pq.code.length + 1) Ck2)) :=
          ((HS2.out.mono (fun x hx => by cases hx)).trans' HA.out (fun x hx => .inl (hkf x (by simpa using hx)))).setCell (.inl hgF) _
        refine ⟨by rw [HL.out]; rfl, hsF, fun d hd => ?_⟩
        rw [HL.out] at hd
        injection hd with hd
        subst hd
        have hcbk : cb ∉ (Value.slice Ak pq.code.length Ck).ownBlock.toList := fun hm => hbx.2.2.2 q (by rw [HQ.out]; omega) (by rw [HKQE.out]; simpa using hm)
        have hbox := ((HO.out.box.frame HS2.out (by simp)).frame HA.out hcbk).setOther (p := ⟨g, q * 2 + 1, none⟩) (fun e => hgcb e.symm) (.slice (some ⟨gk, 0, none⟩) (pq.code.length + 1) Ck2)
        rw [HQ.out] at hbox
        refine ⟨_, _, _, _, _, ⟨hbox, hfin, List.mem_append_right _ HO.out.mem, fun b hb => ?_⟩, fun b hb => ?_⟩
        · rcases List.mem_append.1 hb with hb | hb
          · have : b = gk := by simpa [Value.ownBlock] using hb
            subst this
            simpa using hlt
          · exact Nat.lt_of_lt_of_le (HO.out.lt b hb) hsF.size
        · rcases List.mem_append.1 hb with hb | hb
          · have : (Value.slice (some ⟨gk, 0, none⟩) (pq.code.length + 1) Ck2).ownBlock = some b := by simpa using hb
            rcases hat' b this with h | h
            · exact .inl (hkf b h)
            · exact .inr (Nat.le_trans HS2.out.size h)
          · exact .inl hb
end Ck
end Go.Proofs.YticaipedpcmhfaaGreatDoor
/- Layer 8, package code: read: lines of constants. -/
namespace Go.Proofs.YticaipedpcmhfaaGreatDoor
open Go.RowKit Hp
namespace Ck
variable {w w' : World}

theorem tp_size (s p : ByteArray) (r : ByteArray) (hr : bs (Lib.trimPrefix s.data.toList p.data.toList) = r) : r.size ≤ s.size := by
  have := trim_len s.data.toList p.data.toList
  rw [← hr, bs_size, list_size s rfl]
  exact this

set_option maxHeartbeats 8000000 in
set_option maxRecDepth 100000 in
theorem read_const (s : ByteArray) (hs : s.size ≤ 281474976710656) (h : Vars w) (cb : Nat) (cv pv gv : Value) (kvs : List Value) (c : Cd.Co) (F : List Nat) (ho : OC w cb cv pv gv kvs c F) (hsm : Small c 100000000)
    (hp0 : Lib.hasPrefix s.data.toList [32] = false) (hp : Lib.hasPrefix s.data.toList Cd.constB = true) : Calls Tryz.prog 54 #[.pointer (some ⟨cb, 0, none⟩), .string s] w (ReadP cb F (Cd.lineR c s.data.toList) w) := by
  obtain ⟨r0, hr0⟩ : ∃ r, bs (Lib.trimPrefix s.data.toList [32]) = r := ⟨_, rfl⟩
  have hcut0 := cut_pre s ⟨#[32]⟩ false hp0 r0 hr0
  obtain ⟨r, hr⟩ : ∃ r, bs (Lib.trimPrefix s.data.toList Cd.constB) = r := ⟨_, rfl⟩
  have hcut := cut_pre s ⟨#[99, 111, 110, 115, 116, 32]⟩ true hp r hr
  have hrl : r.data.toList = s.data.toList.drop Cd.constB.length := by rw [← hr, bs_list, trim_drop _ _ hp]
  have hrz : r.size ≤ 281474976710656 := Nat.le_trans (tp_size s ⟨#[99, 111, 110, 115, 116, 32]⟩ r hr) hs
  have HRC := Lib.hid (readConst_any r hrz h)
  unfold Got at HRC
  rw [hrl] at HRC
  have hL : Cd.lineR c s.data.toList = match Cd.constR (s.data.toList.drop Cd.constB.length) with | some x => if c.globals = [] ∧ c.procs = [] then some { c with consts := c.consts ++ [x] } else none | none => none := by
    unfold Cd.lineR; rw [if_neg (by rw [hp0]; simp), if_pos hp]; cases Cd.constR (s.data.toList.drop Cd.constB.length) <;> rfl
  obtain ⟨A1, C1, hcv⟩ := ho.own.cr.lit
  obtain ⟨A2, C2, hpv⟩ := ho.own.pr.lit
  obtain ⟨A3, C3, hgv⟩ := ho.own.gr.lit
  subst hcv hpv hgv
  have b0 := ho.box.cell 0
  have b1 := ho.box.cell 1
  have b2 := ho.box.cell 2
  have bz := ho.box.lt
  have HO := Lib.hid ho
  have hcl : c.consts.length ≤ 100000000 := hsm.sa
  have hgl : c.globals.length ≤ 100000000 := hsm.sb
  have hpl : c.procs.length ≤ 100000000 := hsm.sc
  obtain ⟨i0, hi1, hz0, hz1, hz2⟩ := info_parts infoW
  have HI0 := Lib.hid (And.intro hi1 (And.intro hz0 (And.intro hz1 hz2)))
  have HL := Lib.hid hL
  clear ho hsm h hp hp0 hrl hr hr0 hL hi1 hz0 hz1 hz2
  go_enter Tryz.func54, Tryz.ntmps54
  go_wp2_with fail
  refine (hcut0 _).mono ?_
  rintro e w' ⟨rfl, rfl⟩
  go_wp2_with fail
  refine (hcut _).mono ?_
  rintro e w' ⟨rfl, rfl⟩
  go_wp2_with fail
  refine HRC.out.mono ?_
  rintro e w2 ⟨v, rfl, ⟨n, rfl, hn⟩, hv, hs2⟩
  have b0' := (hs2.cell bz (by simp)).trans b0
  have b1' := (hs2.cell bz (by simp)).trans b1
  have b2' := (hs2.cell bz (by simp)).trans b2
  have bz' := Nat.lt_of_lt_of_le bz hs2.size
  have HV := Lib.hid hv
  have ho2 := HO.out.own.frame hs2 (by simp)
  have HO2 := Lib.hid ho2
  have HBX := Lib.hid (HO.out.box.frame hs2 (by simp))
  have HS2 := Lib.hid hs2
  clear hs2 hv hn ho2 b0 b1 b2 bz
  go_wp2_with (at_builtin; refine wpList_append_lies _ rfl (.tmp 77) (.tmp 79) 22 rfl 0 74 i0 _ 1 8 Tryz.underlying22 HI0.out.1 HI0.out.2.1 HI0.out.2.2.1 HI0.out.2.2.2 rfl (by decide) (.slice A1 c.consts.length C1) c.consts.length (c.consts.map (Value.int .u64)) rfl (HO2.out.cr.alloc _) _ 1 1 [.int .u64 n] rfl rfl (news1 (blk_at rfl)) (one1 rfl) (by omega) (by unfold maxLen; omega) (by omega) (Nat.zero_le _) _ rfl ?_)
  intro g C w5 hown hgrow hat hlt
  have hsA : Same (Value.slice A1 c.consts.length C1).ownBlock.toList w2 w5 := ((Same.refl _ w2).alloc _).trans (Same.of_grown hgrow)
  have hncb : cb ∉ (Value.slice A1 c.consts.length C1).ownBlock.toList := fun hm => (HO2.out.box_ne HBX.out).1 (by simpa using hm)
  have hbx5 := HBX.out.frame hsA hncb
  have x0 := hbx5.cell 0
  have x1 := hbx5.cell 1
  have x2 := hbx5.cell 2
  have xz := hbx5.lt
  have xf := hbx5.frozen
  have HB5 := Lib.hid hbx5
  have HA := Lib.hid hsA
  have HOWN := Lib.hid hown
  have HAT := Lib.hid hat
  clear hown hgrow hat hsA hncb hbx5 b0' b1' b2' bz'
  have hat' : ∀ b, (Value.slice (some ⟨g, 0, none⟩) (c.consts.length + 1) C).ownBlock = some b → (Value.slice A1 c.consts.length C1).ownBlock = some b ∨ w2.heap.size ≤ b := fun b hb => by
    cases hb
    rcases HAT.out with h | h
    · exact .inl h
    · right; rw [h]; simp; try omega
  have HAT' := Lib.hid hat'
  have hcf : ∀ b, (Value.slice A1 c.consts.length C1).ownBlock = some b → b ∈ F := fun b hb => HO.out.own.cf b hb
  have hsF : Same F w (w5.setCell ⟨cb, 0, none⟩ (.slice (some ⟨g, 0, none⟩) (c.consts.length + 1) C)) :=
    ((HS2.out.mono (fun x hx => by cases hx)).trans' HA.out (fun x hx => .inl (hcf x (by simpa using hx)))).setCell (.inl HO.out.mem) _
  have hfin := HO2.out.addConst n (v2 := .slice (some ⟨g, 0, none⟩) (c.consts.length + 1) C) (w' := w5) ⟨HA.out, hat'⟩ HOWN.out
  have HSF := Lib.hid hsF
  have HFIN := Lib.hid hfin
  have HCF := Lib.hid hcf
  clear hat' hcf hsF hfin
  have key : ∀ f : Option Cd.Co, (∀ d, f = some d → d = { c with consts := c.consts ++ [n] }) → ReadP cb F f w (.returned (.bool f.isSome)) (w5.setCell ⟨cb, 0, none⟩ (.slice (some ⟨g, 0, none⟩) (c.consts.length + 1) C)) := fun f hf => by
    refine ⟨rfl, HSF.out, fun d hd => ?_⟩
    rw [hf d hd]
    have hst := HFIN.out.setBox (i := 0) HB5.out (.slice (some ⟨g, 0, none⟩) (c.consts.length + 1) C)
    have hbox := HB5.out.set 0 (.slice (some ⟨g, 0, none⟩) (c.consts.length + 1) C)
    refine ⟨_, _, _, _, _, ⟨hbox, hst, List.mem_append_right _ HO.out.mem, fun b hb => ?_⟩, fun b hb => ?_⟩
    · rcases List.mem_append.1 hb with hb | hb
      · have : b = g := by simpa [Value.ownBlock] using hb
        subst this
        simpa using hlt
      · exact Nat.lt_of_lt_of_le (HO.out.lt b hb) HSF.out.size
    · rcases List.mem_append.1 hb with hb | hb
      · have : (Value.slice (some ⟨g, 0, none⟩) (c.consts.length + 1) C).ownBlock = some b := by simpa using hb
        rcases HAT'.out b this with h | h
        · exact .inl (HCF.out b h)
        · exact .inr (Nat.le_trans HS2.out.size h)
      · exact .inl hb
  have HKEY := Lib.hid key
  clear key
  cases hc : Cd.constR (s.data.toList.drop Cd.constB.length) with
  | none =>
    have HN : Hid (Cd.lineR c s.data.toList = none) := Lib.hid (by rw [HL.out, hc])
    simp only [Option.isSome_none]
    go_wp2_with fail
    go_ret
    rw [HN.out]
    exact HKEY.out none (fun d hd => by cases hd)
  | some x =>
    have hn := HV.out x hc
    injection hn with _ hn
    subst hn
    simp only [Option.isSome_some]
    by_cases q1 : c.globals.length = 0
    · by_cases q2 : c.procs.length = 0
      · have HN : Hid (Cd.lineR c s.data.toList = some { c with consts := c.consts ++ [n] }) := Lib.hid (by rw [HL.out, hc]; dsimp only; rw [if_pos ⟨List.eq_nil_of_length_eq_zero q1, List.eq_nil_of_length_eq_zero q2⟩])
        have f1 : ((c.globals.length : Int) == 0) = true := by rw [q1]; rfl
        have f2 : ((c.procs.length : Int) == 0) = true := by rw [q2]; rfl
        clear q1 q2 hc
        go_wp2_with fail
        go_ret
        rw [HN.out]
        exact HKEY.out (some _) (fun d hd => by injection hd with hd; exact hd.symm)
      · have HN : Hid (Cd.lineR c s.data.toList = none) := Lib.hid (by rw [HL.out, hc]; dsimp only; rw [if_neg (fun h => q2 (by rw [h.2]; rfl))])
        have f1 : ((c.globals.length : Int) == 0) = true := by rw [q1]; rfl
        have f2 : ((c.procs.length : Int) == 0) = false := by rw [beq_eq_false_iff_ne]; omega
        clear q1 q2 hc
        go_wp2_with fail
        go_ret
        rw [HN.out]
        exact HKEY.out none (fun d hd => by cases hd)
    · have HN : Hid (Cd.lineR c s.data.toList = none) := Lib.hid (by rw [HL.out, hc]; dsimp only; rw [if_neg (fun h => q1 (by rw [h.1]; rfl))])
      have f1 : ((c.globals.length : Int) == 0) = false := by rw [beq_eq_false_iff_ne]; omega
      clear q1 hc
      go_wp2_with fail
      go_ret
      rw [HN.out]
      exact HKEY.out none (fun d hd => by cases hd)
end Ck
end Go.Proofs.YticaipedpcmhfaaGreatDoor
/- Layer 8, package code: read: lines of globals. -/
namespace Go.Proofs.YticaipedpcmhfaaGreatDoor
open Go.RowKit Hp
namespace Ck
variable {w w' : World}

theorem clone_pre (s : ByteArray) (hs : s.size ≤ 281474976710656) : ∀ w, Calls Tryz.prog 110 #[.string s] w fun e w' => e = .returned (.string s) ∧ Same [] w w' := fun _ => clone_any s hs

set_option maxHeartbeats 8000000 in
set_option maxRecDepth 100000 in
theorem read_global (s : ByteArray) (hs : s.size ≤ 281474976710656) (_h : Vars w) (cb : Nat) (cv pv gv : Value) (kvs : List Value) (c : Cd.Co) (F : List Nat) (ho : OC w cb cv pv gv kvs c F) (hsm : Small c 100000000)
    (hp0 : Lib.hasPrefix s.data.toList [32] = false) (hp1 : Lib.hasPrefix s.data.toList Cd.constB = false) (hp : Lib.hasPrefix s.data.toList Cd.globalB = true) : Calls Tryz.prog 54 #[.pointer (some ⟨cb, 0, none⟩), .string s] w (ReadP cb F (Cd.lineR c s.data.toList) w) := by
  obtain ⟨r0, hr0⟩ : ∃ r, bs (Lib.trimPrefix s.data.toList [32]) = r := ⟨_, rfl⟩
  have hcut0 := cut_pre s ⟨#[32]⟩ false hp0 r0 hr0
  obtain ⟨r1, hr1⟩ : ∃ r, bs (Lib.trimPrefix s.data.toList Cd.constB) = r := ⟨_, rfl⟩
  have hcut1 := cut_pre s ⟨#[99, 111, 110, 115, 116, 32]⟩ false hp1 r1 hr1
  obtain ⟨r, hr⟩ : ∃ r, bs (Lib.trimPrefix s.data.toList Cd.globalB) = r := ⟨_, rfl⟩
  have hcut := cut_pre s ⟨#[103, 108, 111, 98, 97, 108, 32]⟩ true hp r hr
  have hrl : r = ⟨(s.data.toList.drop Cd.globalB.length).toArray⟩ := by rw [← hr, trim_drop _ _ hp]; rfl
  have hrz : r.size ≤ 281474976710656 := Nat.le_trans (tp_size s ⟨#[103, 108, 111, 98, 97, 108, 32]⟩ r hr) hs
  have hL : Cd.lineR c s.data.toList = if c.procs = [] then some { c with globals := c.globals ++ [r] } else none := by
    unfold Cd.lineR; rw [if_neg (by rw [hp0]; simp), if_neg (by rw [hp1]; simp), if_pos hp, hrl]
  obtain ⟨A1, C1, hcv⟩ := ho.own.cr.lit
  obtain ⟨A2, C2, hpv⟩ := ho.own.pr.lit
  obtain ⟨A3, C3, hgv⟩ := ho.own.gr.lit
  subst hcv hpv hgv
  have b1 := ho.box.cell 1
  have b2 := ho.box.cell 2
  have bz := ho.box.lt
  have HO := Lib.hid ho
  have hgl : c.globals.length ≤ 100000000 := hsm.sb
  have hpl : c.procs.length ≤ 100000000 := hsm.sc
  obtain ⟨i0, hi1, hz0, hz1, hz2⟩ := info_parts infoS
  have HI0 := Lib.hid (And.intro hi1 (And.intro hz0 (And.intro hz1 hz2)))
  have HL := Lib.hid hL
  have hclone := clone_pre r hrz
  have HGR : Hid (∀ W, Same [] w W → Ow W 9 1 (.slice A3 c.globals.length C3) c.globals.length (c.globals.map Value.string)) := Lib.hid (fun W hs => HO.out.own.gr.frame hs (by simp))
  have HNCB : Hid (cb ∉ (Value.slice A3 c.globals.length C3).ownBlock.toList) := Lib.hid (fun hm => (HO.out.own.box_ne HO.out.box).2.1 (by simpa using hm))
  clear ho hsm _h hp hp0 hp1 hrl hr hr0 hr1 hL hi1 hz0 hz1 hz2
  go_enter Tryz.func54, Tryz.ntmps54
  go_wp2_with fail
  refine (hcut0 _).mono ?_
  rintro e w' ⟨rfl, rfl⟩
  go_wp2_with fail
  refine (hcut1 _).mono ?_
  rintro e w' ⟨rfl, rfl⟩
  go_wp2_with fail
  refine (hcut _).mono ?_
  rintro e w' ⟨rfl, rfl⟩
  go_upto_region 16 with fail
  go_region_law (first
    | ((refine step_append_lies _ rfl (.tmp 110) (.tmp 113) 24 rfl 0 9 i0 _ 1 16 Tryz.underlying24 HI0.out.1 HI0.out.2.1 HI0.out.2.2.1 HI0.out.2.2.2 rfl (by decide) (.slice A3 c.globals.length C3) c.globals.length (c.globals.map Value.string) rfl (HGR.out _ (by repeat (first | exact HS2.out | refine Same.drew ?_ | refine Same.drewN ?_ _ | refine Same.alloc ?_ _))) _ 1 1 [.string r] rfl rfl (by first | exact news1 (blk_at (by simp)) | exact news1 (Blk.drew (blk_at (by simp)))) (one1 rfl) (by omega) (by unfold maxLen; omega) (by omega) (Nat.zero_le _) _ rfl ?_); (intro g C w5 hown hgrow hat hlt; have hsA : Same (Value.slice A3 c.globals.length C3).ownBlock.toList w2 w5 := Same.trans (by repeat (first | exact Same.refl _ _ | refine Same.drew ?_ | refine Same.drewN ?_ _ | refine Same.alloc ?_ _)) (Same.of_grown hgrow); have hx1 := (hsA.cell bz2 HNCB.out).trans b22; have hx4 := (hsA.cell bz2 HNCB.out).trans b21; have hx2 : ∀ j, w5.frozen? ⟨cb, j, none⟩ = false := (fun j => (hsA.frozen bz2 HNCB.out).trans (bf2 j)); have hx3 := Nat.lt_of_lt_of_le bz2 hsA.size; have HA := Lib.hid hsA; have HOWN := Lib.hid hown; have HAT := Lib.hid hat; clear hsA hown hgrow hat))
    | (go_simp; go_at_call 110; refine (hclone _).mono ?_; rintro e w2 ⟨rfl, hs2⟩; have HS2 : Hid (Same [] w w2) := Lib.hid (Same.trans (by repeat (first | exact Same.refl _ _ | refine Same.drew ?_ | refine Same.drewN ?_ _ | refine Same.alloc ?_ _)) hs2); clear hs2; have b21 := (HS2.out.cell bz (by simp)).trans b1; have b22 := (HS2.out.cell bz (by simp)).trans b2; have bz2 := Nat.lt_of_lt_of_le bz HS2.out.size; have bf2 : ∀ j, w2.frozen? ⟨cb, j, none⟩ = false := (HO.out.box.frame HS2.out (by simp)).frozen))
  all_goals
    obtain ⟨gq, hgq⟩ : ∃ gq, ((c.procs.length : Int) == 0) = gq := ⟨_, rfl⟩
    go_wp2_with fail
    go_ret
    have hat' : ∀ b, (Value.slice (some ⟨g, 0, none⟩) (c.globals.length + 1) C).ownBlock = some b → (Value.slice A3 c.globals.length C3).ownBlock = some b ∨ w2.heap.size ≤ b := fun b hb => by
      cases hb
      rcases HAT.out with h | h
      · exact .inl h
      · right; rw [h]; simp; try omega
    have hcf : ∀ b, (Value.slice A3 c.globals.length C3).ownBlock = some b → b ∈ F := fun b hb => HO.out.own.gf b hb
    have hsF : Same F w (w5.setCell ⟨cb, 2, none⟩ (.slice (some ⟨g, 0, none⟩) (c.globals.length + 1) C)) :=
      ((HS2.out.mono (fun x hx => by cases hx)).trans' HA.out (fun x hx => .inl (hcf x (by simpa using hx)))).setCell (.inl HO.out.mem) _
    have hfin := (HO.out.own.frame HS2.out (by simp)).addGlobal r (v2 := .slice (some ⟨g, 0, none⟩) (c.globals.length + 1) C) (w' := w5) ⟨HA.out, hat'⟩ HOWN.out
    have hb5 := (HO.out.box.frame HS2.out (by simp)).frame HA.out HNCB.out
    refine ⟨?_, hsF, fun d hd => ?_⟩
    · have e : gq = (Cd.lineR c s.data.toList).isSome := by
        rw [HL.out, ← hgq]
        by_cases q : c.procs = []
        · rw [if_pos q, q]; rfl
        · rw [if_neg q]
          have : c.procs.length ≠ 0 := fun e => q (List.eq_nil_of_length_eq_zero e)
          simpa using this
      rw [← e]
      rfl
    · rw [HL.out] at hd
      have hd' : d = { c with globals := c.globals ++ [r] } := by
        by_cases q : c.procs = []
        · rw [if_pos q] at hd; injection hd with hd; exact hd.symm
        · rw [if_neg q] at hd; cases hd
      rw [hd']
      have hst := hfin.setBox (i := 2) hb5 (.slice (some ⟨g, 0, none⟩) (c.globals.length + 1) C)
      have hbox := hb5.set 2 (.slice (some ⟨g, 0, none⟩) (c.globals.length + 1) C)
      refine ⟨_, _, _, _, _, ⟨hbox, hst, List.mem_append_right _ HO.out.mem, fun b hb => ?_⟩, fun b hb => ?_⟩
      · rcases List.mem_append.1 hb with hb | hb
        · have : b = g := by simpa [Value.ownBlock] using hb
          subst this
          simpa using hlt
        · exact Nat.lt_of_lt_of_le (HO.out.lt b hb) hsF.size
      · rcases List.mem_append.1 hb with hb | hb
        · have : (Value.slice (some ⟨g, 0, none⟩) (c.globals.length + 1) C).ownBlock = some b := by simpa using hb
          rcases hat' b this with h | h
          · exact .inl (hcf b h)
          · exact .inr (Nat.le_trans HS2.out.size h)
        · exact .inl hb
end Ck
end Go.Proofs.YticaipedpcmhfaaGreatDoor
/- Layer 8, package code: read: lines of procedures; lines that are none. -/
namespace Go.Proofs.YticaipedpcmhfaaGreatDoor
open Go.RowKit Hp
namespace Ck
variable {w w' : World}

set_option maxHeartbeats 8000000 in
set_option maxRecDepth 100000 in
theorem read_none (s : ByteArray) (_hs : s.size ≤ 281474976710656) (cb : Nat) (c : Cd.Co) (F : List Nat)
    (hp0 : Lib.hasPrefix s.data.toList [32] = false) (hp1 : Lib.hasPrefix s.data.toList Cd.constB = false) (hp2 : Lib.hasPrefix s.data.toList Cd.globalB = false) (hp3 : Lib.hasPrefix s.data.toList Cd.procB = false) : Calls Tryz.prog 54 #[.pointer (some ⟨cb, 0, none⟩), .string s] w (ReadP cb F (Cd.lineR c s.data.toList) w) := by
  obtain ⟨r0, hr0⟩ : ∃ r, bs (Lib.trimPrefix s.data.toList [32]) = r := ⟨_, rfl⟩
  have hcut0 := cut_pre s ⟨#[32]⟩ false hp0 r0 hr0
  obtain ⟨r1, hr1⟩ : ∃ r, bs (Lib.trimPrefix s.data.toList Cd.constB) = r := ⟨_, rfl⟩
  have hcut1 := cut_pre s ⟨#[99, 111, 110, 115, 116, 32]⟩ false hp1 r1 hr1
  obtain ⟨r2, hr2⟩ : ∃ r, bs (Lib.trimPrefix s.data.toList Cd.globalB) = r := ⟨_, rfl⟩
  have hcut2 := cut_pre s ⟨#[103, 108, 111, 98, 97, 108, 32]⟩ false hp2 r2 hr2
  obtain ⟨r3, hr3⟩ : ∃ r, bs (Lib.trimPrefix s.data.toList Cd.procB) = r := ⟨_, rfl⟩
  have hcut3 := cut_pre s ⟨#[112, 114, 111, 99, 32]⟩ false hp3 r3 hr3
  have hL : Cd.lineR c s.data.toList = none := by
    unfold Cd.lineR; rw [if_neg (by rw [hp0]; simp), if_neg (by rw [hp1]; simp), if_neg (by rw [hp2]; simp), if_neg (by rw [hp3]; simp)]
  have HL := Lib.hid hL
  clear hL hp0 hp1 hp2 hp3 hr0 hr1 hr2 hr3
  go_enter Tryz.func54, Tryz.ntmps54
  go_wp2_with fail
  refine (hcut0 _).mono ?_
  rintro e w' ⟨rfl, rfl⟩
  go_wp2_with fail
  refine (hcut1 _).mono ?_
  rintro e w' ⟨rfl, rfl⟩
  go_wp2_with fail
  refine (hcut2 _).mono ?_
  rintro e w' ⟨rfl, rfl⟩
  go_wp2_with fail
  refine (hcut3 _).mono ?_
  rintro e w' ⟨rfl, rfl⟩
  go_wp2_with fail
  go_ret
  exact ⟨by rw [HL.out]; rfl, Same.refl _ _, fun d hd => by rw [HL.out] at hd; cases hd⟩

set_option maxHeartbeats 8000000 in
set_option maxRecDepth 100000 in
theorem read_proc (s : ByteArray) (hs : s.size ≤ 281474976710656) (h : Vars w) (cb : Nat) (cv pv gv : Value) (kvs : List Value) (c : Cd.Co) (F : List Nat) (ho : OC w cb cv pv gv kvs c F) (hsm : Small c 100000000)
    (hp0 : Lib.hasPrefix s.data.toList [32] = false) (hp1 : Lib.hasPrefix s.data.toList Cd.constB = false) (hp2 : Lib.hasPrefix s.data.toList Cd.globalB = false) (hp : Lib.hasPrefix s.data.toList Cd.procB = true) : Calls Tryz.prog 54 #[.pointer (some ⟨cb, 0, none⟩), .string s] w (ReadP cb F (Cd.lineR c s.data.toList) w) := by
  obtain ⟨r0, hr0⟩ : ∃ r, bs (Lib.trimPrefix s.data.toList [32]) = r := ⟨_, rfl⟩
  have hcut0 := cut_pre s ⟨#[32]⟩ false hp0 r0 hr0
  obtain ⟨r1, hr1⟩ : ∃ r, bs (Lib.trimPrefix s.data.toList Cd.constB) = r := ⟨_, rfl⟩
  have hcut1 := cut_pre s ⟨#[99, 111, 110, 115, 116, 32]⟩ false hp1 r1 hr1
  obtain ⟨r2, hr2⟩ : ∃ r, bs (Lib.trimPrefix s.data.toList Cd.globalB) = r := ⟨_, rfl⟩
  have hcut2 := cut_pre s ⟨#[103, 108, 111, 98, 97, 108, 32]⟩ false hp2 r2 hr2
  obtain ⟨r, hr⟩ : ∃ r, bs (Lib.trimPrefix s.data.toList Cd.procB) = r := ⟨_, rfl⟩
  have hcut := cut_pre s ⟨#[112, 114, 111, 99, 32]⟩ true hp r hr
  have hrl : r.data.toList = s.data.toList.drop Cd.procB.length := by rw [← hr, bs_list, trim_drop _ _ hp]
  have hrz : r.size ≤ 281474976710656 := Nat.le_trans (tp_size s ⟨#[112, 114, 111, 99, 32]⟩ r hr) hs
  have HPL := Lib.hid (place_any r hrz h)
  unfold Got at HPL
  rw [hrl] at HPL
  have hL : Cd.lineR c s.data.toList = match Cd.placeT (s.data.toList.drop Cd.procB.length) with | some n => some { c with procs := c.procs ++ [⟨n, []⟩] } | none => none := by
    unfold Cd.lineR; rw [if_neg (by rw [hp0]; simp), if_neg (by rw [hp1]; simp), if_neg (by rw [hp2]; simp), if_pos hp]; cases Cd.placeT (s.data.toList.drop Cd.procB.length) <;> rfl
  obtain ⟨A1, C1, hcv⟩ := ho.own.cr.lit
  obtain ⟨A2, C2, hpv⟩ := ho.own.pr.lit
  obtain ⟨A3, C3, hgv⟩ := ho.own.gr.lit
  subst hcv hpv hgv
  have b1 := ho.box.cell 1
  have bz := ho.box.lt
  have HO := Lib.hid ho
  have hpl : c.procs.length ≤ 100000000 := hsm.sc
  obtain ⟨i0, hi1, hz0, hz1, hz2⟩ := info_parts infoP
  have HI0 := Lib.hid (And.intro hi1 (And.intro hz0 (And.intro hz1 hz2)))
  have HL := Lib.hid hL
  clear ho hsm h hp hp0 hp1 hp2 hrl hr hr0 hr1 hr2 hL hi1 hz0 hz1 hz2
  go_enter Tryz.func54, Tryz.ntmps54
  go_wp2_with fail
  refine (hcut0 _).mono ?_
  rintro e w' ⟨rfl, rfl⟩
  go_wp2_with fail
  refine (hcut1 _).mono ?_
  rintro e w' ⟨rfl, rfl⟩
  go_wp2_with fail
  refine (hcut2 _).mono ?_
  rintro e w' ⟨rfl, rfl⟩
  go_wp2_with fail
  refine (hcut _).mono ?_
  rintro e w' ⟨rfl, rfl⟩
  go_wp2_with fail
  refine HPL.out.mono ?_
  rintro e w2 ⟨v, rfl, ⟨n, rfl, hn⟩, hv, hs2⟩
  have b1' := (hs2.cell bz (by simp)).trans b1
  have bz' := Nat.lt_of_lt_of_le bz hs2.size
  have HV := Lib.hid hv
  have ho2 := HO.out.own.frame hs2 (by simp)
  have HO2 := Lib.hid ho2
  have HBX := Lib.hid (HO.out.box.frame hs2 (by simp))
  have HS2 := Lib.hid hs2
  clear hs2 hv hn ho2 b1 bz
  go_wp2_with (at_builtin; refine wpList_append_lies _ rfl (.tmp 138) (.tmp 141) 23 rfl 0 68 i0 _ 2 32 Tryz.underlying23 HI0.out.1 HI0.out.2.1 HI0.out.2.2.1 HI0.out.2.2.2 rfl (by decide) (.slice A2 c.procs.length C2) c.procs.length (flatP c.procs kvs) rfl (HO2.out.pr.alloc _) _ 1 1 [.int .i64 n, .slice none 0 0] rfl rfl (news2 (blk_at rfl)) (one2 rfl rfl) (by omega) (by unfold maxLen; omega) (by omega) (Nat.zero_le _) _ rfl ?_)
  intro g C w5 hown hgrow hat hlt
  have hsA : Same (Value.slice A2 c.procs.length C2).ownBlock.toList w2 w5 := ((Same.refl _ w2).alloc _).trans (Same.of_grown hgrow)
  have hncb : cb ∉ (Value.slice A2 c.procs.length C2).ownBlock.toList := fun hm => (HO2.out.box_ne HBX.out).2.2.1 (by simpa using hm)
  have hbx5 := HBX.out.frame hsA hncb
  have x1 := hbx5.cell 1
  have xz := hbx5.lt
  have xf := hbx5.frozen
  have HB5 := Lib.hid hbx5
  have HA := Lib.hid hsA
  have HOWN := Lib.hid hown
  have HAT := Lib.hid hat
  clear hown hgrow hat hsA hncb hbx5 b1' bz'
  obtain ⟨ok, hok⟩ : ∃ ok, (Cd.placeT (s.data.toList.drop Cd.procB.length)).isSome = ok := ⟨_, rfl⟩
  rw [hok]
  have HOK := Lib.hid hok
  clear hok
  go_wp2_with fail
  go_ret
  have hat' : ∀ b, (Value.slice (some ⟨g, 0, none⟩) (c.procs.length + 1) C).ownBlock = some b → (Value.slice A2 c.procs.length C2).ownBlock = some b ∨ w2.heap.size ≤ b := fun b hb => by
    cases hb
    rcases HAT.out with h | h
    · exact .inl h
    · right; rw [h]; simp; try omega
  have hcf : ∀ b, (Value.slice A2 c.procs.length C2).ownBlock = some b → b ∈ F := fun b hb => HO.out.own.pf b hb
  have hsF : Same F w (w5.setCell ⟨cb, 1, none⟩ (.slice (some ⟨g, 0, none⟩) (c.procs.length + 1) C)) :=
    ((HS2.out.mono (fun x hx => by cases hx)).trans' HA.out (fun x hx => .inl (hcf x (by simpa using hx)))).setCell (.inl HO.out.mem) _
  have hfin := HO2.out.addProc ⟨n, []⟩ (.slice none 0 0) (v2 := .slice (some ⟨g, 0, none⟩) (c.procs.length + 1) C) (w' := w5) ⟨HA.out, hat'⟩ HOWN.out (World.ownsRow_nil _ _ _ _) (fun b hb => by cases hb)
  refine ⟨?_, hsF, fun d hd => ?_⟩
  · have e : ok = (Cd.lineR c s.data.toList).isSome := by
      rw [HL.out, ← HOK.out]
      cases Cd.placeT (s.data.toList.drop Cd.procB.length) <;> rfl
    rw [← e]
    rfl
  · rw [HL.out] at hd
    have hd' : d = { c with procs := c.procs ++ [⟨n, []⟩] } := by
      cases hpt : Cd.placeT (s.data.toList.drop Cd.procB.length) with
      | none => rw [hpt] at hd; cases hd
      | some m =>
        rw [hpt] at hd
        have hm := HV.out m hpt
        injection hm with _ hm
        subst hm
        injection hd with hd
        exact hd.symm
    rw [hd']
    have hst := hfin.setBox (i := 1) HB5.out (.slice (some ⟨g, 0, none⟩) (c.procs.length + 1) C)
    have hbox := HB5.out.set 1 (.slice (some ⟨g, 0, none⟩) (c.procs.length + 1) C)
    refine ⟨_, _, _, _, _, ⟨hbox, hst, by simp [HO.out.mem], fun b hb => ?_⟩, fun b hb => ?_⟩
    · have hb' : b = g ∨ b ∈ F := by simpa [Value.ownBlock] using hb
      rcases hb' with hb | hb
      · subst hb
        simpa using hlt
      · exact Nat.lt_of_lt_of_le (HO.out.lt b hb) hsF.size
    · have hb' : b = g ∨ b ∈ F := by simpa [Value.ownBlock] using hb
      rcases hb' with hb | hb
      · subst hb
        rcases hat' b rfl with h | h
        · exact .inl (hcf b h)
        · exact .inr (Nat.le_trans HS2.out.size h)
      · exact .inl hb
end Ck
end Go.Proofs.YticaipedpcmhfaaGreatDoor
