/- Layer 8, package code: read: a line is put to code. -/
import Derived.Test.YticaipedpcmhfaaGreatDoorCkQ2
import Derived.Test.YticaipedpcmhfaaGreatDoorCkP4
import Derived.Deep.AppendLies
import Derived.Deep.RegionLaw
import Derived.Deep.QuietTactic
import Derived.BigQuiet
import Derived.IntWalk
import Derived.Deep.DeepCutAuto
namespace Go.Proofs.YticaipedpcmhfaaGreatDoor
open Go.RowKit Hp
namespace Ck
variable {w w' : World}

theorem infoW : (Tryz.prog.info? 74).map (fun i => (i.zero, i.size, i.bytes)) = some (some (.int .u64 0), 1, 8) := by kernel_rfl
theorem infoS : (Tryz.prog.info? 9).map (fun i => (i.zero, i.size, i.bytes)) = some (some (.string ⟨#[]⟩), 1, 16) := by kernel_rfl
theorem infoP : (Tryz.prog.info? 68).map (fun i => (i.zero, i.size, i.bytes)) = some (some (.agg #[.int .i64 0, .slice none 0 0]), 2, 32) := by kernel_rfl
theorem infoI : (Tryz.prog.info? 82).map (fun i => (i.zero, i.size, i.bytes)) = some (some (.agg #[.int .u8 0, .int .i64 0]), 2, 16) := by kernel_rfl

/-- What read leaves: if the line may stand there, the code has it. -/
def ReadP (cb : Nat) (F : List Nat) (f : Option Cd.Co) (w : World) (e : Ending) (w' : World) : Prop :=
  e = .returned (.bool f.isSome) ∧ Same F w w' ∧ ∀ d, f = some d → ∃ cv pv gv kvs F', OC w' cb cv pv gv kvs d F' ∧ ∀ b ∈ F', b ∈ F ∨ w.heap.size ≤ b

/-- Code of a bounded size. -/
structure Small (c : Cd.Co) (N : Nat) : Prop where
  sa : c.consts.length ≤ N
  sb : c.globals.length ≤ N
  sc : c.procs.length ≤ N
  sd : ∀ p ∈ c.procs, p.code.length ≤ N

theorem cut_pre (s p : ByteArray) (x : Bool) (hx : Lib.hasPrefix s.data.toList p.data.toList = x) (r : ByteArray) (hr : bs (Lib.trimPrefix s.data.toList p.data.toList) = r) : ∀ w, Calls Tryz.prog 107 #[.string s, .string p] w fun e w' => e = .returned (.tuple #[.string r, .bool x]) ∧ w = w' :=
  fun w => (cut_prefix s p x hx r hr w).mono fun _ _ h => ⟨h.1, h.2.symm⟩
theorem news2 {W : World} {b : Nat} {x y : Value} {t : TypeId} (hb : Blk W b t [x, y]) : ∀ j u, [x, y][j]? = some u → W.cell? ((⟨b, 0, none⟩ : Addr).add j) = some u := World.news_of_block hb
theorem news1 {W : World} {b : Nat} {x : Value} {t : TypeId} (hb : Blk W b t [x]) : ∀ j u, [x][j]? = some u → W.cell? ((⟨b, 0, none⟩ : Addr).add j) = some u := World.news_of_block hb
theorem blk_at {W : World} {b : Nat} {t : TypeId} {cs : List Value} (hb : b = W.heap.size) : Blk (W.alloc (.cells cs.toArray t)) b t cs := by subst hb; exact Blk.new W t cs
theorem one2 {x y : Value} (hx : x.oneCell' = true) (hy : y.oneCell' = true) : ∀ u ∈ [x, y], u.oneCell' = true := fun u hu => by
  rcases List.mem_cons.1 hu with rfl | hu
  · exact hx
  · rcases List.mem_cons.1 hu with rfl | hu
    · exact hy
    · cases hu
theorem one1 {x : Value} (hx : x.oneCell' = true) : ∀ u ∈ [x], u.oneCell' = true := fun u hu => by
  rcases List.mem_cons.1 hu with rfl | hu
  · exact hx
  · cases hu

set_option maxHeartbeats 8000000 in
set_option maxRecDepth 100000 in
theorem read_instr (s : ByteArray) (hs : s.size ≤ 281474976710656) (h : Vars w) (cb : Nat) (cv pv gv : Value) (kvs : List Value) (c : Cd.Co) (F : List Nat) (ho : OC w cb cv pv gv kvs c F) (hF : ∀ b ∈ F, 10 ≤ b) (hsm : Small c 100000000)
    (hp : Lib.hasPrefix s.data.toList [32] = true) : Calls Tryz.prog 54 #[.pointer (some ⟨cb, 0, none⟩), .string s] w (ReadP cb F (Cd.lineR c s.data.toList) w) := by
  obtain ⟨r, hr⟩ : ∃ r, bs (Lib.trimPrefix s.data.toList [32]) = r := ⟨_, rfl⟩
  have hrl : r.data.toList = s.data.toList.drop 1 := by rw [← hr, bs_list, trim_drop _ _ hp]; rfl
  have hrz : r.size ≤ 281474976710656 := by
    have := trim_len s.data.toList [32]
    rw [← hr, bs_size]
    rw [← list_size s rfl] at this
    omega
  have hcut := cut_pre s ⟨#[32]⟩ true hp r hr
  have HRI := Lib.hid (readInstr_any r hrz h)
  unfold Got at HRI
  rw [hrl] at HRI
  have hL : Cd.lineR c s.data.toList = match Cd.instrR (s.data.toList.drop 1) with | some i => if c.procs = [] then none else some { c with procs := Cd.addI c.procs i } | none => none := by
    unfold Cd.lineR; rw [if_pos hp]; cases Cd.instrR (s.data.toList.drop 1) <;> rfl
  obtain ⟨A1, C1, hcv⟩ := ho.own.cr.lit
  obtain ⟨A2, C2, hpv⟩ := ho.own.pr.lit
  obtain ⟨A3, C3, hgv⟩ := ho.own.gr.lit
  subst hcv hpv hgv
  have b0 := ho.box.cell 0
  have b1 := ho.box.cell 1
  have b2 := ho.box.cell 2
  have bz := ho.box.lt
  have HO := Lib.hid ho
  have HF := Lib.hid hF
  have HSM := Lib.hid hsm
  have hpl : c.procs.length ≤ 100000000 := hsm.sc
  clear ho hF hsm h hp hrl hr
  cases hi : Cd.instrR (s.data.toList.drop 1) with
  | none =>
    rw [hi] at hL HRI
    dsimp only at hL
    have HL := Lib.hid hL
    clear hL hi
    go_enter Tryz.func54, Tryz.ntmps54
    go_wp2_with (go_at_call 107; refine (hcut _).mono ?_; rintro e w' ⟨rfl, rfl⟩)
    refine HRI.out.mono ?_
    rintro e w2 ⟨v, rfl, ⟨x, rfl, hx⟩, _, hs2⟩
    have HS2 := Lib.hid hs2
    clear hs2 hx
    unfold encI
    go_wp2_with fail
    go_ret
    exact ⟨by rw [HL.out]; rfl, ((HS2.out.alloc _).mono (fun x hx => by cases hx)), fun d hd => by rw [HL.out] at hd; cases hd⟩
  | some x =>
    rw [hi] at hL HRI
    dsimp only at hL
    by_cases h0 : c.procs.length = 0
    · rw [if_pos (List.eq_nil_of_length_eq_zero h0)] at hL
      have HL := Lib.hid hL
      rw [h0] at b1
      have hq0 : True := trivial
      clear hL hi h0 hpl
      go_enter Tryz.func54, Tryz.ntmps54
      go_wp2_with (go_at_call 107; refine (hcut _).mono ?_; rintro e w' ⟨rfl, rfl⟩)
      refine HRI.out.mono ?_
      rintro e w2 ⟨v, rfl, ⟨y, rfl, hy⟩, hv, hs2⟩
      have b1' := (hs2.cell bz (by simp)).trans b1
      have bz' := Nat.lt_of_lt_of_le bz hs2.size
      have HS2 := Lib.hid hs2
      clear hs2 hy hv
      unfold encI
      go_wp2_with fail
      go_ret
      exact ⟨by rw [HL.out]; rfl, ((HS2.out.alloc _).mono (fun x hx => by cases hx)), fun d hd => by rw [HL.out] at hd; cases hd⟩
    · obtain ⟨q, hq⟩ : ∃ q, c.procs.length = q + 1 := ⟨c.procs.length - 1, by omega⟩
      rw [if_neg (fun e => h0 (by rw [e]; rfl))] at hL
      have hqb : q ≤ 100000000 := by omega
      have hpr := HO.out.own.pr
      rw [hq] at hpr b1
      obtain ⟨g, C, hform, _, hgz⟩ := World.ownsRow.form hpr (by omega)
      injection hform with hA _ hC
      subst hA hC
      have hkq := HO.out.own.kr q (by omega)
      obtain ⟨pq, hpq⟩ : ∃ pq, c.procs.getD q ⟨0, []⟩ = pq := ⟨_, rfl⟩
      obtain ⟨kq, hkqE⟩ : ∃ kq, kvs.getD q undef = kq := ⟨_, rfl⟩
      rw [hpq, hkqE] at hkq
      obtain ⟨Ak, Ck, hkl⟩ := hkq.lit
      subst hkl
      have hp1 : w.cell? ⟨g, q * 2 + 1, none⟩ = some (.slice Ak pq.code.length Ck) := by
        rw [World.ownsRow.cellAt hpr (q * 2 + 1) (by omega), flatP_at c.procs kvs q 1 HO.out.own.kl (by omega) (by omega), fP]
        simp only [Nat.one_ne_zero, if_false, hkqE]
      have hpf := World.ownsRow.frozenAt hpr
      have hpn : pq.code.length ≤ 100000000 := HSM.out.sd pq (by rw [← hpq, List.getD, List.getElem?_eq_getElem (by omega)]; exact List.getElem_mem _)
      have HL := Lib.hid hL
      have HQ := Lib.hid hq
      have HPQ := Lib.hid hpq
      have HKQE := Lib.hid hkqE
      have HKQ := Lib.hid hkq
      have HPR := Lib.hid hpr
      obtain ⟨i0, hi1, hz0, hz1, hz2⟩ := info_parts infoI
      have HI0 := Lib.hid (And.intro hi1 (And.intro hz0 (And.intro hz1 hz2)))
      have hgcb : g ≠ cb := fun e => hpr.ne_blk HO.out.box (by decide) (by rw [e]; rfl)
      have hq3 : ((q : Int) + 1 == 0) = false := by rw [beq_eq_false_iff_ne]; omega
      clear hL hi h0 hpl hq hpq hkqE hkq hpr hi1 hz0 hz1 hz2
      go_enter Tryz.func54, Tryz.ntmps54
      go_wp2_with (go_at_call 107; refine (hcut _).mono ?_; rintro e w' ⟨rfl, rfl⟩)
      refine HRI.out.mono ?_
      rintro e w2 ⟨v, rfl, ⟨y, rfl, hy⟩, hv, hs2⟩
      have hv' := hv x rfl
      unfold encI at hv'
      injection hv' with hv'
      have hyx : y = x := by
        obtain ⟨yo, ya⟩ := y
        obtain ⟨xo, xa⟩ := x
        simp only [Array.mk.injEq, List.cons.injEq, Value.int.injEq, true_and, and_true] at hv'
        rw [hv'.1, hv'.2]
      subst hyx
      have b1' := (hs2.cell bz (by simp)).trans b1
      have bz' := Nat.lt_of_lt_of_le bz hs2.size
      have hp1' := (hs2.cell hgz (by simp)).trans hp1
      have hgz' := Nat.lt_of_lt_of_le hgz hs2.size
      have hpf' : ∀ j, w2.frozen? ⟨g, j, none⟩ = false := fun j => by rw [hs2.frozen hgz (by simp)]; exact hpf j
      have HS2 := Lib.hid hs2
      clear hs2 hy hv hv' b0 b1 b2 bz hp1 hgz hpf
      have hw1 : IntKind.i64.wrap ((q : Int) + 1 - 1) = (q : Int) := by have := IntWalk.i64_in ((q : Int) + 1 - 1) (by omega); omega
      have hw2 : IntKind.i64.wrap (q : Int) = (q : Int) := IntWalk.i64_in (q : Int) (by omega)
      have hw3 : (0 : Int) ≤ (q : Int) := by omega
      have hw4 : (q : Int) < (q : Int) + 1 := by omega
      unfold encI
      go_wp2_with fail
      go_quiet (fail)
      have HKQ' : Hid (∀ W, Same [] w W → Ow W 82 2 (.slice Ak pq.code.length Ck) pq.code.length (flatI pq.code)) := Lib.hid (fun W hs => HKQ.out.frame hs (by simp))
      have HNG : Hid (∀ b, (Value.slice Ak pq.code.length Ck).ownBlock = some b → b ≠ g) := Lib.hid (fun b hb e => HKQ.out.ne HPR.out (by decide) hb (by rw [e]; rfl))
      have HNGM : Hid (g ∉ (Value.slice Ak pq.code.length Ck).ownBlock.toList) := Lib.hid (fun hm => HNG.out g (by simpa using hm) rfl)
      go_upto_region 7 with fail
      go_region_law (((refine step_append_lies _ rfl (.tmp 56) (.tmp 58) 66 rfl 0 82 i0 _ 2 16 Tryz.underlying66 HI0.out.1 HI0.out.2.1 HI0.out.2.2.1 HI0.out.2.2.2 rfl (by decide) (.slice Ak pq.code.length Ck) pq.code.length (flatI pq.code) rfl (HKQ'.out _ (by repeat (first | exact HS2.out | refine Same.drew ?_ | refine Same.drewN ?_ _ | refine Same.alloc ?_ _))) _ 1 1 [.int .u8 y.op, .int .i64 y.a] rfl rfl (by first | exact news2 (blk_at (by simp)) | exact news2 (Blk.drew (blk_at (by simp)))) (one2 rfl rfl) (by omega) (by unfold maxLen; omega) (by omega) (Nat.zero_le _) _ rfl ?_); (intro gk Ck2 w5 hown hgrow hat hlt; have hsA : Same (Value.slice Ak pq.code.length Ck).ownBlock.toList w2 w5 := Same.trans (by repeat (first | exact Same.refl _ _ | refine Same.drew ?_ | refine Same.drewN ?_ _ | refine Same.alloc ?_ _)) (Same.of_grown hgrow); have hx1 := (hsA.cell hgz' HNGM.out).trans hp1'; have hx2 : ∀ j, w5.frozen? ⟨g, j, none⟩ = false := (fun j => (hsA.frozen hgz' HNGM.out).trans (hpf' j)); have hx3 := Nat.lt_of_lt_of_le hgz' hsA.size; have HA := Lib.hid hsA; have HOWN := Lib.hid hown; have HAT := Lib.hid hat; clear hsA hown hgrow hat)))
      all_goals
        go_wp2_with fail
        go_ret
        have hg : gk = gk := rfl
        have hat' : ∀ b, (Value.slice (some ⟨gk, 0, none⟩) (pq.code.length + 1) Ck2).ownBlock = some b → (Value.slice Ak pq.code.length Ck).ownBlock = some b ∨ w2.heap.size ≤ b := fun b hb => by
          cases hb
          rcases HAT.out with h | h
          · exact .inl h
          · right; rw [h]; simp; try omega
        have ho2 := HO.out.own.frame HS2.out (by simp)
        rw [HQ.out] at ho2
        have hkf : ∀ b, (Value.slice Ak pq.code.length Ck).ownBlock = some b → b ∈ F := fun b hb => HO.out.own.kf q b (by rw [HQ.out]; omega) (by rw [HKQE.out]; exact hb)
        have hgF : g ∈ F := HO.out.own.pf g rfl
        have hbx := HO.out.own.box_ne HO.out.box
        have hfin := ho2.addInstr HQ.out y (v2 := .slice (some ⟨gk, 0, none⟩) (pq.code.length + 1) Ck2) (w' := w5) ⟨by rw [HKQE.out]; exact HA.out, by rw [HKQE.out]; exact hat'⟩ (by rw [HPQ.out]; exact HOWN.out)
        have hsF : Same F w (w5.setCell ⟨g, q * 2 + 1, none⟩ (.slice (some ⟨gk, 0, none⟩) (pq.code.length + 1) Ck2)) :=
          ((HS2.out.mono (fun x hx => by cases hx)).trans' HA.out (fun x hx => .inl (hkf x (by simpa using hx)))).setCell (.inl hgF) _
        refine ⟨by rw [HL.out]; rfl, hsF, fun d hd => ?_⟩
        rw [HL.out] at hd
        injection hd with hd
        subst hd
        have hcbk : cb ∉ (Value.slice Ak pq.code.length Ck).ownBlock.toList := fun hm => hbx.2.2.2 q (by rw [HQ.out]; omega) (by rw [HKQE.out]; simpa using hm)
        have hbox := ((HO.out.box.frame HS2.out (by simp)).frame HA.out hcbk).setOther (p := ⟨g, q * 2 + 1, none⟩) (fun e => hgcb e.symm) (.slice (some ⟨gk, 0, none⟩) (pq.code.length + 1) Ck2)
        rw [HQ.out] at hbox
        refine ⟨_, _, _, _, _, ⟨hbox, hfin, List.mem_append_right _ HO.out.mem, fun b hb => ?_⟩, fun b hb => ?_⟩
        · rcases List.mem_append.1 hb with hb | hb
          · have : b = gk := by simpa [Value.ownBlock] using hb
            subst this
            simpa using hlt
          · exact Nat.lt_of_lt_of_le (HO.out.lt b hb) hsF.size
        · rcases List.mem_append.1 hb with hb | hb
          · have : (Value.slice (some ⟨gk, 0, none⟩) (pq.code.length + 1) Ck2).ownBlock = some b := by simpa using hb
            rcases hat' b this with h | h
            · exact .inl (hkf b h)
            · exact .inr (Nat.le_trans HS2.out.size h)
          · exact .inl hb
end Ck
end Go.Proofs.YticaipedpcmhfaaGreatDoor
