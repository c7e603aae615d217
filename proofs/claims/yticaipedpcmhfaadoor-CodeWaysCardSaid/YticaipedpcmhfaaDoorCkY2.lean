/- Layer 8, the law CodeWays: its walk. -/
import Derived.Test.YticaipedpcmhfaaDoorCkX3
import Derived.Test.YticaipedpcmhfaaDoorCkO2
import Derived.Test.YticaipedpcmhfaaDoorCkY1
import Derived.Test.YticaipedpcmhfaaDoorCd
import Derived.Deep.DeepCutAuto
import Derived.Deep.LoopGhost
namespace Go.Proofs.YticaipedpcmhfaaDoor
open Go.RowKit Hp
namespace Ck
variable {w w' : World}

theorem succ_jump {code : List Cd.In} {a : Nat} (h : (code.getD a ⟨0, 0⟩).op = 8) : (code.getD a ⟨0, 0⟩).a.toNat ∈ Cd.succs code a := by unfold Cd.succs; rw [if_pos h]; exact List.mem_singleton.2 rfl
theorem succ_arm {code : List Cd.In} {a : Nat} (h : (code.getD a ⟨0, 0⟩).op = 9) : (code.getD a ⟨0, 0⟩).a.toNat ∈ Cd.succs code a := by
  unfold Cd.succs
  dsimp only
  rw [if_neg (by omega), if_neg (by omega), if_pos h]; exact List.mem_cons_self
theorem succ_next {code : List Cd.In} {a : Nat} (h8 : (code.getD a ⟨0, 0⟩).op ≠ 8) (h11 : (code.getD a ⟨0, 0⟩).op ≠ 11) (h12 : (code.getD a ⟨0, 0⟩).op ≠ 12) : a + 1 ∈ Cd.succs code a := by
  unfold Cd.succs
  dsimp only
  rw [if_neg h8, if_neg (by omega)]
  split
  · exact List.mem_cons_of_mem _ List.mem_cons_self
  · exact List.mem_singleton.2 rfl
theorem marks_next {n a : Nat} {d : Int} {m f : Nat → Int} (h : ∀ j, j < n → (m j = -1 ∨ m j = f j)) (hd : f a = d) : ∀ j, j < n → ((if j = a then d else m j) = -1 ∨ (if j = a then d else m j) = f j) := fun j hj => by
  by_cases e : j = a
  · rw [if_pos e, e, hd]; exact .inr rfl
  · rw [if_neg e]; exact h j hj

/-- A list of numbers in a block, told by a function. -/
def MkAt (w : World) (D n : Nat) (m : Nat → Int) : Prop := Blk w D 3 ((List.range n).map (fun i => .int .i64 (m i)))
theorem MkAt.cell {D n : Nat} {m : Nat → Int} (h : MkAt w D n m) (a : Nat) (ha : a < n) : w.cell? ⟨D, a, none⟩ = some (.int .i64 (m a)) := by
  rw [Blk.cell h, List.getElem?_map, List.getElem?_range ha]; rfl
theorem MkAt.set {D n : Nat} {m : Nat → Int} (h : MkAt w D n m) (a : Nat) (d : Int) : MkAt (w.setCell ⟨D, a, none⟩ (.int .i64 d)) D n (fun i => if i = a then d else m i) := by
  have := Blk.set h a (.int .i64 d)
  unfold MkAt
  have e : ((List.range n).map (fun i => Value.int .i64 (m i))).set a (.int .i64 d) = (List.range n).map (fun i => .int .i64 (if i = a then d else m i)) := by
    apply List.ext_getElem?
    intro j
    by_cases hj : j < n
    · rw [List.getElem?_map, List.getElem?_range hj]
      by_cases e : j = a
      · subst e; simp [hj]
      · rw [List.getElem?_set_ne (fun h => e h.symm), List.getElem?_map, List.getElem?_range hj]; simp [e]
    · rw [List.getElem?_eq_none (by simp; omega), List.getElem?_eq_none (by simp; omega)]
  rw [← e]; exact this
theorem MkAt.congr {D n : Nat} {m m' : Nat → Int} (h : MkAt w D n m) (he : ∀ i, i < n → m' i = m i) : MkAt w D n m' := by
  unfold MkAt at h ⊢
  have : (List.range n).map (fun i => Value.int .i64 (m' i)) = (List.range n).map (fun i => .int .i64 (m i)) := List.map_congr_left fun i hi => by rw [he i (List.mem_range.1 hi)]
  rw [this]; exact h
theorem MkAt.frame {D n : Nat} {m : Nat → Int} {F : List Nat} (h : MkAt w D n m) (hs : Same F w w') (hn : D ∉ F) : MkAt w' D n m := Blk.frame h hs hn
theorem rep_ints : ∀ n : Nat, (List.replicate n [Value.int .i64 0]).flatMap id = (List.range n).map (fun _ => .int .i64 0)
  | 0 => rfl
  | n + 1 => by rw [List.range_succ, List.map_append, ← rep_ints n, List.replicate_succ', List.flatMap_append]; rfl
theorem made_ints (n : Nat) : (madeCells #[Value.int .i64 0] n).toList = (List.range n).map (fun _ => .int .i64 0) := by
  have := madeCells_flat [Value.int .i64 0] n (by decide)
  rw [rep_ints, show n * [Value.int .i64 0].length = n from Nat.mul_one n] at this
  exact this

set_option maxHeartbeats 8000000 in
set_option maxRecDepth 100000 in
theorem ways_any (cv pv gv : Value) (c : Cd.Co) (hr : RCoAt w cv pv gv c) (hw : WCo c) (hl : Lens c) (hv : Vars w) (which : Int) (hwi : in64 which) (A : Option Addr) (na ca : Nat) (F : Nat → Value) (har : Sq w (.slice A na ca) na 1 (fun i _ => F i)) (hbo : ∀ i, i < na → ∃ b : Bool, F i = .bool b) : Calls Tryd.prog 5 #[.agg #[cv, pv, gv], .int .i64 which, .slice A na ca] w fun e w' => e = .returned (.bool true) ∧ Same [] w w' := by
  obtain ⟨A1, c1, rfl, hc1, hc1'⟩ := hr.consts.form
  obtain ⟨kv, hps, hks⟩ := hr.procs
  obtain ⟨A2, c2, rfl, hc2, hc2'⟩ := hps.form
  obtain ⟨A3, c3, rfl, hc3, hc3'⟩ := hr.globals.form
  have HR := Lib.hid hr
  have HW := Lib.hid hw
  have HV := Lib.hid hv
  have HL := Lib.hid hl
  have HPS := Lib.hid hps
  have HKS := Lib.hid hks
  have HAR := Lib.hid har
  have HBO := Lib.hid hbo
  have HWI := Lib.hid hwi
  have hna := har.form
  obtain ⟨_, _, hna1, hna2, hna3⟩ := hna
  unfold maxLen at hc1' hc2' hc3' hna3
  clear hr hw hv hl hps hks har hbo hwi
  go_enter Tryd.func5, Tryd.ntmps5
  go_wp2_with fail
  refine (works_any (HV.out.frame ((Same.refl [] _).alloc _) (by simp))).mono ?_
  rintro e w1 ⟨rfl, hs1⟩
  have hb1 : Blk w1 w.heap.size 29 [.slice A1 c.consts.length c1, .slice A2 c.procs.length c2, .slice A3 c.globals.length c3] := Blk.frame (Blk.new w _ _) hs1 (by simp)
  have HS1 := Lib.hid (((Same.refl [] w).alloc _).trans hs1)
  have p0 := hb1.cell 0
  have p1 := hb1.cell 1
  have p2 := hb1.cell 2
  have HB1 := Lib.hid hb1
  clear hb1 hs1
  go_wp2_with fail
  refine (ofCode_any _ c ⟨_, _, _, rfl, HR.out.frame HS1.out⟩ HL.out).mono ?_
  rintro e w2 ⟨rfl, hs2⟩
  have HS2 := Lib.hid (HS1.out.trans hs2)
  have hb2 := HB1.out.frame hs2 (by simp)
  have p0 := hb2.cell 0
  have p1 := hb2.cell 1
  have p2 := hb2.cell 2
  have HB2 := Lib.hid hb2
  clear hb2 hs2
  have hofz := ofCn_le c HL.out
  by_cases hmuch : 8388608 < ofCn c
  · go_wp2_with fail
    go_ret
    exact ⟨rfl, HS2.out⟩
  go_wp2_with fail
  refine (check_any _ c ⟨_, _, _, rfl, HR.out.frame HS2.out⟩ HW.out (HV.out.frame HS2.out (by simp))).mono ?_
  rintro e w3 ⟨rfl, hs3⟩
  have HS3 := Lib.hid (HS2.out.trans hs3)
  have hb3 := HB2.out.frame hs3 (by simp)
  have p0 := hb3.cell 0
  have p1 := hb3.cell 1
  have p2 := hb3.cell 2
  have HB3 := Lib.hid hb3
  have hz3 := hb3.lt
  clear hb3 hs3
  by_cases hok : (Cd.check Cd.sym c).1 = 0
  rotate_left
  · have hok' : ((Cd.check Cd.sym c).1 == 0) = false := by rw [beq_eq_false_iff_ne]; exact hok
    clear hok
    go_wp2_with fail
    go_ret
    exact ⟨rfl, HS3.out⟩
  have HG := Lib.hid (Cd.goodC_of hok)
  have hlp : 1 ≤ c.procs.length := by
    have := HG.out.some
    cases h : c.procs with
    | nil => exact absurd h this
    | cons a l => simp
  obtain ⟨pi, hpi⟩ : ∃ k, k = pickN which c.procs.length := ⟨_, rfl⟩
  have hpil : pi < c.procs.length := by rw [hpi]; exact pickN_lt _ _ (by omega)
  obtain ⟨b, off, cap2, he, hcp1, hcp2, hbb, hcell⟩ := HPS.out.lit (by omega)
  injection he with he1 _ he3
  subst he1 he3
  obtain ⟨q, hq⟩ : ∃ q, q = c.procs.getD pi ⟨0, []⟩ := ⟨_, rfl⟩
  have hmem : q ∈ c.procs := by rw [hq, List.getD, List.getElem?_eq_getElem hpil]; exact List.getElem_mem _
  have hgp := HG.out.procs q hmem
  have hqp := hgp.pos
  have hql := hgp.len
  obtain ⟨bi, oi, bc, hkv, hq1, hq2, hbi, hicell⟩ := (HKS.out pi hpil).lit (by rw [← hq]; exact hqp)
  rw [← hq] at hq1 hicell hkv
  have HIC := Lib.hid hicell
  have HGP := Lib.hid hgp
  clear hmem hgp hicell
  have hk0 : w3.cell? ⟨b, off + pi * 2, none⟩ = some (.int .i64 q.params) := by
    rw [HS3.out.cell hbb (by simp), hq]
    exact hcell pi 0 hpil (by omega)
  have hk1 : w3.cell? ⟨b, off + pi * 2 + 1, none⟩ = some (.slice (some ⟨bi, oi, none⟩) q.code.length bc) := by
    rw [HS3.out.cell hbb (by simp), ← hkv]
    exact hcell pi 1 hpil (by omega)
  have HPK : Hid (∀ W, Calls Tryd.prog 10 #[.int .i64 which, .int .i64 c.procs.length] W fun e w' => e = .returned (.int .i64 pi) ∧ w' = W) := Lib.hid (fun W => by
    rw [hpi]
    exact (pick_any which c.procs.length HWI.out hlp (by have := HG.out.lens; omega)).mono fun e w' h => ⟨h.1, h.2.symm⟩)
  have HQ := Lib.hid hq
  have HKV := Lib.hid hkv
  clear hcell hq hpi hkv
  rw [hok]
  clear hok
  unfold maxLen at hq2
  have hi1 : (0 : Int) ≤ (pi : Int) := by omega
  have hi2 : (pi : Int) < (c.procs.length : Int) := by omega
  have hbz : b < w3.heap.size := Nat.lt_of_lt_of_le hbb HS3.out.size
  go_upto_region 9 with fail
  go_cut [11] (fun s11 wx => ∃ g : Nat, s11 = .pointer (some ⟨g, 0, none⟩) ∧ Blk wx g 32 [.int .i64 q.params, .slice (some ⟨bi, oi, none⟩) q.code.length bc] ∧ Same [] w3 wx)
  case first =>
    go_region_with ((go_simp; go_at_call 10; refine (HPK.out _).mono ?_; rintro e w' ⟨rfl, rfl⟩))
    all_goals
      go_wp2_with fail
      go_meet
      exact ⟨w3.heap.size, rfl, (Blk.new w3 _ _).drew, ((Same.refl _ _).alloc _).drew⟩
  case rest =>
    obtain ⟨g, rfl, hbg, hs4⟩ := hcut
    have HS4 := Lib.hid (HS3.out.trans hs4)
    have hz4 := hbg.lt
    have q1 := hbg.cell 1
    have HBG := Lib.hid hbg
    clear hbg hs4 p0 p1 p2 hk0 hk1 hi1 hi2 hbz hz3
    go_wp2_with (first
      | (refine wpList_make_blk _ rfl (.tmp 50) (.tmp 50) 45 rfl 3 _ 1 8 Tryd.underlying45 infoInt q.code.length rfl rfl (by omega) (by unfold maxLen; omega) ?a1))
    case a1 =>
      intro w5 hblk hs5
      rw [made_ints] at hblk
      have hmk : MkAt w5 wc.heap.size q.code.length (fun _ => 0) := hblk
      have hmz := hblk.lt
      have HMK := Lib.hid hmk
      have HS5 := Lib.hid hs5
      have hsz4 := HS4.out.size
      obtain ⟨D, hD⟩ : ∃ D, D = wc.heap.size := ⟨_, rfl⟩
      rw [← hD] at HMK hmz ⊢
      have hgD : g < D := by omega
      have hwD : w.heap.size ≤ D := by omega
      have HDD := Lib.hid (Nat.le_of_eq hD.symm)
      clear hblk hs5 hmk hD
      go_wp2_with fail
      go_loopg [13] q.code.length (fun gk i wr => ∃ k : Nat, k ≤ q.code.length ∧ gk = q.code.length - k ∧ i = .int .i64 k ∧ MkAt wr D q.code.length (fun j => if j < k then -1 else 0) ∧ Same [] wc wr)
      case atStart => exact ⟨0, Nat.zero_le _, rfl, rfl, HMK.out.congr (fun i _ => by simp), HS5.out⟩
      case round =>
        obtain ⟨k, hk, rfl, rfl, hm, hs⟩ := hrel
        have dz := Blk.lt hm
        have df := Blk.frozen hm
        have HM := Lib.hid hm
        have HS := Lib.hid hs
        clear hm hs
        by_cases hlt : k < q.code.length
        · obtain ⟨dv, dc⟩ : ∃ v, wr.cell? ⟨D, k, none⟩ = some v := ⟨_, HM.out.cell k hlt⟩
          go_wp2_with fail
          go_roundg (q.code.length - (k + 1))
          case measure => omega
          case rel =>
            refine ⟨k + 1, by omega, rfl, by go_num, (HM.out.set k (-1)).congr (fun i hi => ?_), HS.out.setCell (.inr HDD.out) _⟩
            by_cases e : i = k
            · rw [if_pos (by omega), if_pos e]
            · rw [if_neg e]
              by_cases e2 : i < k
              · rw [if_pos (by omega), if_pos e2]
              · rw [if_neg (by omega), if_neg e2]
        · obtain rfl : k = q.code.length := by omega
          have HM2 : Hid (MkAt wr D q.code.length (fun _ => -1)) := Lib.hid (HM.out.congr (fun i hi => by rw [if_pos hi]))
          clear HM
          have HST := Lib.hid (Cd.At.start HGP.out)
          clear dz df
          go_wp2_with fail
          go_loopg [14, 15, 16, 17] 5000 (fun gk v14 v15 v16 v17 wx => ∃ (i a n : Nat) (d : Int) (m : Nat → Int), gk = 5000 - i ∧ i ≤ 5000 ∧ v14 = .int .i64 a ∧ v15 = .int .i64 d ∧ v16 = .int .i64 n ∧ n ≤ i ∧ v17 = .int .i64 i ∧ MkAt wx D q.code.length m ∧ Same [] wc wx ∧ Cd.At q.code a d ∧ ∀ j, j < q.code.length → (m j = -1 ∨ m j = ((Cd.depths q.code).getD j ⟨2, 0⟩).deep))
          case atStart => exact ⟨0, 0, 0, 0, _, rfl, by omega, rfl, rfl, rfl, by omega, rfl, HM2.out, HS.out, HST.out, fun _ _ => .inl rfl⟩
          clear HM2 HST
          case round =>
            obtain ⟨i, a, n, d, m, rfl, hi, rfl, rfl, rfl, hni, rfl, hm, hs, hat, hmm⟩ := hrel
            have hal := hat.lt
            have hsw := HS4.out.trans hs
            have g1 : wr.cell? ⟨g, 1, none⟩ = some (.slice (some ⟨bi, oi, none⟩) q.code.length bc) := by rw [hs.cell hz4 (by simp)]; exact HBG.out.cell 1
            obtain ⟨x, hx⟩ : ∃ x, x = q.code.getD a ⟨0, 0⟩ := ⟨_, rfl⟩
            have x0 : wr.cell? ⟨bi, oi + a * 2, none⟩ = some (.int .u8 x.op) := by rw [hsw.cell hbi (by simp), hx]; exact HIC.out a 0 hal (by omega)
            have x1 : wr.cell? ⟨bi, oi + a * 2 + 1, none⟩ = some (.int .i64 x.a) := by rw [hsw.cell hbi (by simp), hx]; exact HIC.out a 1 hal (by omega)
            have hgat := HGP.out.at a hal
            have hfit := HGP.out.fitAll HG.out.lens x (by rw [hx]; exact Cd.getD_mem _ _ hal)
            have hdd := hat.deep
            have ht1 : Cd.took x ≤ d := by rw [hx, ← hdd]; exact hgat.2.1
            have ht2 : d ≤ 255 := by rw [← hdd]; exact hgat.2.2
            have ht3 := (Cd.took_le hfit).1
            have hp1 := Cd.puts_le x
            have hop := hfit.op
            have hpa := hfit.a
            have hpr := hfit.prim
            have hxz := hs.size
            have HX := Lib.hid hx
            have HM := Lib.hid hm
            have HS := Lib.hid hs
            have HSW := Lib.hid hsw
            have HAT := Lib.hid hat
            have HMMs := Lib.hid hmm
            have HDP := Lib.hid hdd
            have HEF : Hid (∀ W, Calls Tryd.prog 11 #[.agg #[.int .u8 x.op, .int .i64 x.a]] W fun e w' => e = .returned (.tuple #[.int .i64 (Cd.took x), .int .i64 (Cd.puts x)]) ∧ Same [] W w') := Lib.hid (fun W => effect_any x hop hpr (by omega) (by omega))
            clear hx hm hs hsw hat hmm hgat hfit hdd hpr
            by_cases hlt : i < 5000
            · go_wp2_with fail
              refine (HEF.out _).mono ?_
              rintro e w6 ⟨rfl, hs6⟩
              have hb6 : Blk w6 wr.heap.size 47 [.int .u8 x.op, .int .i64 x.a] := Blk.frame (Blk.new wr _ _) hs6 (by simp)
              have hm6 := (HM.out.frame ((Same.refl [] wr).alloc _) (by simp)).frame hs6 (by simp)
              have dz := Blk.lt hm6
              have df := Blk.frozen hm6
              have dlt := Blk.lt HM.out
              have y0 := hb6.cell 0
              have y1 := hb6.cell 1
              have dc := hm6.cell a hal
              have hne1 : ¬ D = wr.heap.size := by omega
              have hne2 : ¬ wr.heap.size = D := by omega
              have HS6 : Hid (Same [] wc w6) := Lib.hid ((HS.out.alloc _).trans hs6)
              have HW6 : Hid (Same [] w w6) := Lib.hid ((HSW.out.alloc _).trans hs6)
              have HM6 := Lib.hid hm6
              have hyz := hb6.lt
              clear hs6 hb6 hm6 g1 x0 x1
              obtain ⟨mv, hmv, hmc⟩ : ∃ v, v = m a ∧ (v = -1 ∨ v = d) := ⟨_, rfl, by rw [← HDP.out]; exact HMMs.out a hal⟩
              rw [← hmv] at dc
              have HMV := Lib.hid hmv
              clear hmv
              have HFF : Hid (MkAt (w6.setCell ⟨D, a, none⟩ (.int .i64 d)) D q.code.length (fun j => if j = a then d else m j) ∧ Same [] wc (w6.setCell ⟨D, a, none⟩ (.int .i64 d)) ∧ Same [] w (w6.setCell ⟨D, a, none⟩ (.int .i64 d))) := Lib.hid ⟨HM6.out.set a d, HS6.out.setCell (.inr HDD.out) _, HW6.out.setCell (.inr hwD) _⟩
              by_cases h12 : x.op = 12 ∨ x.op = 11
              · rcases hmc with rfl | rfl
                all_goals
                  rcases h12 with h12 | h12
                  all_goals
                    have e12 : (x.op == 12) = decide (x.op = 12) := rfl
                    have e11 : (x.op == 11) = decide (x.op = 11) := rfl
                    rw [h12] at e12 e11 y0
                    clear h12
                    go_wp2_with fail
                    go_ret
                    exact ⟨rfl, HFF.out.2.2⟩
              · have e12 : (x.op == 12) = false := by rw [beq_eq_false_iff_ne]; exact fun h => h12 (.inl h)
                have e11 : (x.op == 11) = false := by rw [beq_eq_false_iff_ne]; exact fun h => h12 (.inr h)
                have H12 := Lib.hid h12
                clear h12
                have HNX : Hid (∀ j, j ∈ Cd.succs q.code a → Cd.At q.code j (d - Cd.took x + Cd.puts x)) := Lib.hid (fun j hj => by
                  have := HAT.out.next HG.out.lens HGP.out hj
                  rwa [← HX.out] at this)
                have HMK2 : Hid (∀ j, j < q.code.length → ((fun j => if j = a then d else m j) j = -1 ∨ (fun j => if j = a then d else m j) j = ((Cd.depths q.code).getD j ⟨2, 0⟩).deep)) := Lib.hid (marks_next HMMs.out HDP.out)
                obtain ⟨x2, hx2⟩ : ∃ k : Nat, k = x.a.toNat := ⟨_, rfl⟩
                have hx3 : x.a = (x2 : Int) := by omega
                rw [hx3] at y1
                have HX2 := Lib.hid hx2
                have HX3 := Lib.hid hx3
                clear hx2 hx3
                by_cases h8 : x.op = 8
                · have e8 : (x.op == 8) = true := by rw [h8]; rfl
                  have e9 : (x.op == 9) = false := by rw [h8]; rfl
                  have H8 : Hid (Cd.At q.code x2 (d - Cd.took x + Cd.puts x)) := Lib.hid (HNX.out x2 (by rw [HX2.out, HX.out]; exact succ_jump (by rw [← HX.out]; exact h8)))
                  clear h8
                  rcases hmc with rfl | rfl
                  all_goals
                    go_wp2_with fail
                    go_roundg (5000 - (i + 1))
                    case measure => omega
                    case rel => exact ⟨i + 1, x2, n, _, _, rfl, by omega, rfl, by go_num, rfl, by omega, by go_num, HFF.out.1, HFF.out.2.1, H8.out, HMK2.out⟩
                · have e8 : (x.op == 8) = false := by rw [beq_eq_false_iff_ne]; exact h8
                  have HN : Hid (Cd.At q.code (a + 1) (d - Cd.took x + Cd.puts x)) := Lib.hid (HNX.out _ (succ_next (by rw [← HX.out]; exact h8) (by rw [← HX.out]; exact fun h => H12.out (.inr h)) (by rw [← HX.out]; exact fun h => H12.out (.inl h))))
                  clear h8
                  by_cases h9 : x.op = 9
                  · have e9 : (x.op == 9) = true := by rw [h9]; rfl
                    have H9 : Hid (Cd.At q.code x2 (d - Cd.took x + Cd.puts x)) := Lib.hid (HNX.out x2 (by rw [HX2.out, HX.out]; exact succ_arm (by rw [← HX.out]; exact h9)))
                    clear h9
                    by_cases hn : n < na
                    · obtain ⟨b2, off2, cap3, he, _, _, hb2, hcell2⟩ := HAR.out.lit (by omega)
                      injection he with he1 _ he3
                      subst he1 he3
                      obtain ⟨bb, hbb2⟩ := HBO.out n hn
                      have z0 : w6.cell? ⟨b2, off2 + n, none⟩ = some (.bool bb) := by
                        rw [HW6.out.cell hb2 (by simp), ← hbb2]
                        have := hcell2 n 0 hn (by omega)
                        rwa [Nat.mul_one, Nat.add_zero] at this
                      have hne3 : ¬ D = b2 := by omega
                      have hne4 : ¬ b2 = D := by omega
                      have hb26 : b2 < w6.heap.size := Nat.lt_of_lt_of_le hb2 HW6.out.size
                      clear hcell2 hbb2
                      cases bb
                      all_goals
                        rcases hmc with rfl | rfl
                        all_goals
                          go_wp2_with fail
                          go_roundg (5000 - (i + 1))
                          case measure => omega
                          case rel => first
                            | exact ⟨i + 1, x2, n + 1, _, _, rfl, by omega, rfl, by go_num, by go_num, by omega, by go_num, HFF.out.1, HFF.out.2.1, H9.out, HMK2.out⟩
                            | exact ⟨i + 1, a + 1, n + 1, _, _, rfl, by omega, by go_num, by go_num, by go_num, by omega, by go_num, HFF.out.1, HFF.out.2.1, HN.out, HMK2.out⟩
                    · rcases hmc with rfl | rfl
                      all_goals
                        go_wp2_with fail
                        go_roundg (5000 - (i + 1))
                        case measure => omega
                        case rel => exact ⟨i + 1, a + 1, n + 1, _, _, rfl, by omega, by go_num, by go_num, by go_num, by omega, by go_num, HFF.out.1, HFF.out.2.1, HN.out, HMK2.out⟩
                  · have e9 : (x.op == 9) = false := by rw [beq_eq_false_iff_ne]; exact h9
                    clear h9
                    rcases hmc with rfl | rfl
                    all_goals
                      go_wp2_with fail
                      go_roundg (5000 - (i + 1))
                      case measure => omega
                      case rel => exact ⟨i + 1, a + 1, n, _, _, rfl, by omega, by go_num, by go_num, rfl, by omega, by go_num, HFF.out.1, HFF.out.2.1, HN.out, HMK2.out⟩
            · obtain rfl : i = 5000 := by omega
              go_wp2_with fail
              go_ret
              exact ⟨rfl, HSW.out⟩
end Ck
end Go.Proofs.YticaipedpcmhfaaDoor
