/- Layer 19, LocksInOrder: the walk. -/
import Derived.Test.YtkfdoocmapjkbaaDoorLkF
import Derived.Deep.CutBlock
import Derived.Deep.LoopGhost
namespace Go.Proofs.YtkfdoocmapjkbaaDoor
open Go.RowKit Hp
namespace Lk
variable {w w' W : World} {B : Nat} {m m' : Bk} {F G : List Nat} {ro : Value} {rvs : List Value} {jb : Nat}

def i64 (x : Int) : Prop := -9223372036854775808 ≤ x ∧ x ≤ 9223372036854775807
/-- A script in memory: each step's five cells. -/
def Ops (w : World) (v : Value) (n : Nat) : Prop := ∃ A c, v = .slice A n c ∧ n ≤ c ∧ c ≤ maxLen ∧ ∀ i, i < n → ∃ a : Addr, A = some a ∧ (a.add (i * 5)).block < w.heap.size ∧ ∃ kd t l x e : Int, i64 kd ∧ i64 t ∧ i64 l ∧
  w.cell? (a.add (i * 5)) = some (.int .i64 kd) ∧ w.cell? ⟨(a.add (i * 5)).block, (a.add (i * 5)).off + 1, none⟩ = some (.int .i64 t) ∧ w.cell? ⟨(a.add (i * 5)).block, (a.add (i * 5)).off + 2, none⟩ = some (.int .i64 l) ∧
  w.cell? ⟨(a.add (i * 5)).block, (a.add (i * 5)).off + 3, none⟩ = some (.int .u64 x) ∧ w.cell? ⟨(a.add (i * 5)).block, (a.add (i * 5)).off + 4, none⟩ = some (.int .i64 e)

def sN : Nat → Bk
  | 0 => newM 3 0
  | k + 1 => (start (sN k)).2.2

theorem sN_start (k : Nat) (hk : k < 5) : start (sN k) = ((k : Int) + 1, 0, sN (k + 1)) := by
  match k, hk with
  | 0, _ => rfl
  | 1, _ => rfl
  | 2, _ => rfl
  | 3, _ => rfl
  | 4, _ => rfl
theorem sN_ths : (sN 5).ths = List.replicate 5 t0 := rfl
theorem sN_th (t : Int) : (sN 5).th t = t0 := by
  unfold Bk.th; rw [sN_ths]
  rw [List.getD_eq_getElem?_getD, List.getElem?_replicate]; split <;> rfl
theorem sN_zr : Zr (sN 5) := fun t _ _ => by rw [sN_th]; exact ⟨rfl, rfl⟩
theorem sN_jf (i : Nat) : jf (sN 5) i = 0 := by unfold jf; rw [sN_th]; split <;> rfl
theorem sN_rows : rowsOf (sN 5) = [[], [], []] := rfl

theorem ll_empty {rb : Nat} (h : Blk W rb 29 [.slice none 0 0, .slice none 0 0, .slice none 0 0]) : LL (nE .i64) 29 3 1 W (.slice (some ⟨rb, 0, none⟩) 3 3) [.slice none 0 0, .slice none 0 0, .slice none 0 0] [[], [], []] [rb] := by
  refine ⟨Row.full h 3 1 rfl (by unfold maxLen; omega), fun i hi => ?_, fun i j hi hj _ k hk => ?_, fun k hk => by simpa [blk] using hk, fun i hi k hk => ?_, fun k hk => by simp at hk; subst hk; exact h.lt⟩
  · match i, hi with
    | 0, _ => exact Row.nil _ _ _
    | 1, _ => exact Row.nil _ _ _
    | 2, _ => exact Row.nil _ _ _
  · match i, hi with
    | 0, _ => simp [blk] at hk
    | 1, _ => simp [blk] at hk
    | 2, _ => simp [blk] at hk
  · match i, hi with
    | 0, _ => simp [blk] at hk
    | 1, _ => simp [blk] at hk
    | 2, _ => simp [blk] at hk

theorem info29 : (Tryd.prog.info? 29).map (fun i => (i.zero, i.size, i.bytes)) = some (some (.slice none 0 0), 1, 24) := by kernel_rfl

set_option maxHeartbeats 3200000 in
set_option maxRecDepth 100000 in
theorem order_any (v : Value) (n : Nat) (hs : Ops w v n) (hb : Bnd w) : Calls Tryd.prog 4 #[v] w fun e w' => e = .returned (.bool true) ∧ Same [] w w' := by
  obtain ⟨A, c, rfl, hnc, hcm, hops⟩ := hs
  have HOPS := Lib.hid hops
  have HB := Lib.hid hb
  clear hops hb
  by_cases hn : (5000 : Int) < n
  · go_enter Tryd.func4, Tryd.ntmps4
    go_wp2
    go_ret
    exact ⟨rfl, Same.refl _ _⟩
  · have hn : n ≤ 5000 := by omega
    go_enter Tryd.func4, Tryd.ntmps4
    go_wp2_with fail
    refine (known_any HB.out).mono ?_
    rintro en w1 ⟨rfl, hs1⟩
    have HB1 : Hid (Bnd w1) := Lib.hid (HB.out.frame hs1 (by simp))
    go_wp2_with fail
    refine (own_new (w := w1) 3 0 (by omega) (by omega) (Nat.le_refl _) HB1.out).mono ?_
    rintro en w2 ⟨B, F, rfl, ho2, u2⟩
    go_wp2_with (first
      | (at_make; refine wpList_make_blk _ rfl (.const (.int .i64 3)) (.const (.int .i64 3)) 28 rfl 29 (.slice none 0 0) 1 24 Tryd.underlying28 info29 3 rfl rfl ?m1 ?m2 ?K))
    case m1 => omega
    case m2 => unfold maxLen; omega
    case K =>
      intro w3 hb3 hs3
      rw [toList_madeCells_one] at hb3
      obtain ⟨rb, hrb⟩ : ∃ rb, rb = w2.heap.size := ⟨_, rfl⟩
      rw [← hrb] at hb3 ⊢
      have hF2 := ho2.rep.lt
      have HRB := Lib.hid hrb
      have HB3 := Lib.hid hb3
      have HO2 := Lib.hid ho2
      have HU2 := Lib.hid u2
      have HF2 := Lib.hid hF2
      have HS3 := Lib.hid hs3
      have HS1 := Lib.hid hs1
      clear hrb hb3 ho2 u2 hF2 hs3 hs1
      go_wp2_with (first
        | (at_make; refine wpList_make_blk _ rfl (.const (.int .i64 9)) (.const (.int .i64 9)) 29 rfl 3 (.int .i64 0) 1 8 Tryd.underlying29 info3 9 rfl rfl ?n1 ?n2 ?N))
      case n1 => omega
      case n2 => unfold maxLen; omega
      case N =>
        intro w4 hb4 hs4
        rw [toList_madeCells_one] at hb4
        obtain ⟨jb, hjb⟩ : ∃ jb, jb = w3.heap.size := ⟨_, rfl⟩
        rw [← hjb] at hb4 ⊢
        have hrlt := HB3.out.lt
        have hj4 : Tab w4 jb 3 9 (fun _ => .int .i64 0) := Tab.of_fill hb4
        have hl4 : LL (nE .i64) 29 3 1 w4 (.slice (some ⟨rb, 0, none⟩) 3 3) [.slice none 0 0, .slice none 0 0, .slice none 0 0] [[], [], []] [rb] := ll_empty (HB3.out.frame hs4 (by simp))
        have ho4 : Own w1 w4 B (sN 0) F := (HO2.out.frame HS3.out (by simp)).frame hs4 (by simp)
        have hw14 : Same [] w1 w4 := ((HU2.out.same.trans HS3.out).trans hs4)
        have hne : rb ≠ jb := by omega
        have hrF : rb ∉ F := fun hm => by have := HF2.out rb hm; have := HRB.out; omega
        have hjF : jb ∉ F := fun hm => by have := HF2.out jb hm; have := HS3.out.size; omega
        have hr1 : w1.heap.size ≤ rb := by have := HRB.out; have := HU2.out.same.size; omega
        have hj1 : w1.heap.size ≤ jb := by have := HRB.out; have := HU2.out.same.size; have := HS3.out.size; omega
        have HJ4 := Lib.hid hj4
        have HL4 := Lib.hid hl4
        have HO4 := Lib.hid ho4
        have HW14 := Lib.hid hw14
        have HNE := Lib.hid hne
        have HRF := Lib.hid hrF
        have HJF := Lib.hid hjF
        have HR1 := Lib.hid hr1
        have HJ1 := Lib.hid hj1
        clear hjb hb4 hs4 hrlt hj4 hl4 ho4 hw14 hne hrF hjF hr1 hj1
        go_wp2
        go_loopw [8] (fun c wr => ∃ k : Nat, k ≤ 5 ∧ c = .int .i64 k ∧ ∃ F', Own w1 wr B (sN k) F' ∧ Upd F F' w4 wr) (fun c _ => 5 - (intOf c).toNat)
        case atStart => exact ⟨0, Nat.zero_le _, rfl, F, HO4.out, Upd.refl _ _⟩
        case round =>
          obtain ⟨k, hk, rfl, F1, ho, hu⟩ := hrel
          by_cases hlt : k < 5
          · have hw1r : w1.heap.size ≤ wr.heap.size := Nat.le_trans HW14.out.size hu.same.size
            have HCAL := Lib.hid (own_start ho hw1r _ _ _ (sN_start k hlt))
            have HU := Lib.hid hu
            clear ho hu hw1r
            go_wp2_with fail
            refine HCAL.out.mono ?_
            rintro en w5 ⟨rfl, F2, ho5, u5⟩
            have HO5 := Lib.hid ho5
            have HU5 : Hid (Upd F F2 w4 w5) := Lib.hid ⟨HU.out.same.trans' u5.same HU.out.new, fun b hb => by
              rcases u5.new b hb with h | h
              · exact HU.out.new b h
              · exact .inr (Nat.le_trans HU.out.same.size h)⟩
            clear ho5 u5
            go_wp2
            go_roundw
            case rel => exact ⟨k + 1, by omega, by go_num, F2, HO5.out, HU5.out⟩
            case measure => simp [intOf]; omega
          · have hk5 : k = 5 := by omega
            subst hk5
            obtain ⟨wb, hwb⟩ : ∃ wb, wb = wr := ⟨_, rfl⟩
            subst hwb
            rw [show ((5 : Nat) : Int) = 5 from rfl]
            have hl5 := HL4.out.frame hu.same (fun y hy => by rw [List.mem_singleton.1 hy]; exact HRF.out)
            have M0 : Hid (Mn w1 wb B (sN 5) F1 (.slice (some ⟨rb, 0, none⟩) 3 3) [.slice none 0 0, .slice none 0 0, .slice none 0 0] [rb] jb) := by
              have hrlt := HL4.out.lt rb (by simp)
              have hjlt := HJ4.out.lt
              have hz := hu.same.size
              refine Lib.hid ⟨⟨ho, hl5, fun y hy hm => ?_, fun y hy => ?_, rfl, rfl, Nat.le_trans HW14.out.size hz⟩, (HJ4.out.frame hu.same HJF.out).congr (fun i _ => by simp only [jV, sN_jf]), fun hm => ?_, fun hm => ?_, HJ1.out, sN_zr, ?_⟩
              · rw [List.mem_singleton.1 hy] at hm
                rcases hu.new rb hm with h | h
                · exact HRF.out h
                · omega
              · rw [List.mem_singleton.1 hy]; exact HR1.out
              · rcases hu.new jb hm with h | h
                · exact HJF.out h
                · omega
              · exact HNE.out (List.mem_singleton.1 hm).symm
              · exact HW14.out.trans' hu.same (fun y hy => .inr (HO4.out.new y hy))
            clear hl5 ho hu hlt hk
            go_wp2
            go_loopg [6, 9] n (fun gk r c wr => ∃ k : Nat, k ≤ n ∧ gk = n - k ∧ c = .int .i64 k ∧ r = .slice (some ⟨rb, 0, none⟩) 3 3 ∧ ∃ m F rvs G, Mn w1 wr B m F (.slice (some ⟨rb, 0, none⟩) 3 3) rvs G jb)
            case atStart => exact ⟨0, Nat.zero_le _, rfl, rfl, rfl, sN 5, F1, _, _, M0.out⟩
            case round =>
              obtain ⟨k, hk, rfl, rfl, rfl, m, F2, rvs, G, hM⟩ := hrel
              have HM := Lib.hid hM
              by_cases hlt : k < n
              · skip
                obtain ⟨pa, rfl, hblt, kd, t, l, x, e, ⟨kd1, kd2⟩, ⟨t1, t2⟩, ⟨l1, l2⟩, c0, c1, c2, c3, c4⟩ := HOPS.out k hlt
                have hSw := HS1.out.trans hM.same
                have hfr : ∀ a : Addr, a.block = (pa.add (k * 5)).block → w.cell? a = wr.cell? a := fun a ha => (World.cell?_of_block (w := w) (a := a) (hSw.block a.block (by rw [ha]; exact hblt) (by simp))).symm
                rw [hfr _ rfl] at c0
                rw [hfr ⟨(pa.add (k * 5)).block, (pa.add (k * 5)).off + 1, none⟩ rfl] at c1
                rw [hfr ⟨(pa.add (k * 5)).block, (pa.add (k * 5)).off + 2, none⟩ rfl] at c2
                rw [hfr ⟨(pa.add (k * 5)).block, (pa.add (k * 5)).off + 3, none⟩ rfl] at c3
                rw [hfr ⟨(pa.add (k * 5)).block, (pa.add (k * 5)).off + 4, none⟩ rfl] at c4
                have hblt' : (pa.add (k * 5)).block < wr.heap.size := Nat.lt_of_lt_of_le hblt hSw.size
                have i1 : (k : Int) < n := by omega
                have HP1 := Lib.hid (fun W => pick_any (W := W) t 5 (by omega) (by omega) t1 t2)
                have HP2 := Lib.hid (fun W => pick_any (W := W) l 3 (by omega) (by omega) l1 l2)
                have HP3 := Lib.hid (fun W => pick_any (W := W) l 5 (by omega) (by omega) l1 l2)
                clear hM hSw hfr hblt t1 t2 l1 l2 kd1 kd2
                go_wp2_with fail
                obtain ⟨ob, hob⟩ : ∃ ob, ob = wr.heap.size := ⟨_, rfl⟩
                have hb5 : Blk (wr.alloc (.cells #[.int .i64 kd, .int .i64 t, .int .i64 l, .int .u64 x, .int .i64 e] 35)) wr.heap.size 35 [.int .i64 kd, .int .i64 t, .int .i64 l, .int .u64 x, .int .i64 e] := Blk.new wr 35 _
                have hs5 : Same [] wr (wr.alloc (.cells #[.int .i64 kd, .int .i64 t, .int .i64 l, .int .u64 x, .int .i64 e] 35)) := (Same.refl _ _).alloc _
                rw [← hob] at hb5 ⊢
                generalize wr.alloc (.cells #[.int .i64 kd, .int .i64 t, .int .i64 l, .int .u64 x, .int .i64 e] 35) = w5 at *
                have HM5 := Lib.hid (HM.out.quiet hs5)
                have HB5 := Lib.hid hb5
                clear hb5 hs5 hob c0 c1 c2 c3 c4 hblt'
                refine (HP1.out w5).mono ?_
                rintro en w5' ⟨q, q1, q2, rfl, rfl⟩
                have d0 : w5.cell? ⟨ob, 0, none⟩ = some (.int .i64 kd) := HB5.out.cell 0
                have d1 : w5.cell? ⟨ob, 1, none⟩ = some (.int .i64 t) := HB5.out.cell 1
                have d2 : w5.cell? ⟨ob, 2, none⟩ = some (.int .i64 l) := HB5.out.cell 2
                have dlt := HB5.out.lt
                go_wp2_with fail
                refine (HP2.out w5).mono ?_
                rintro en w5' ⟨p, p1, p2, rfl, rfl⟩
                have his : m.is (1 + q) = true := by rw [is_iff, HM.out.st.nt]; omega
                have hil : m.isL p = true := by rw [isL_iff, HM.out.st.nl]; omega
                have hed := ended_any (1 + q) HM5.out.st.own.rep HM5.out.st.own.ok.nt
                rw [if_pos his] at hed
                have HED := Lib.hid hed
                have HIS := Lib.hid his
                have HIL := Lib.hid hil
                clear hed his hil
                go_wp2_with fail
                refine HED.out.mono ?_
                rintro en w6 ⟨rfl, hs6⟩
                go_wp2_with fail
                obtain ⟨xb, hxb⟩ : ∃ xb, xb = w6.heap.size := ⟨_, rfl⟩
                have hb7 : Blk (w6.alloc (.cells #[.bool (m.th (1 + q)).en, .int .u64 (m.th (1 + q)).w, .int .i64 (m.th (1 + q)).e] 38)) w6.heap.size 38 [.bool (m.th (1 + q)).en, .int .u64 (m.th (1 + q)).w, .int .i64 (m.th (1 + q)).e] := Blk.new w6 38 _
                have hs7 : Same [] w6 (w6.alloc (.cells #[.bool (m.th (1 + q)).en, .int .u64 (m.th (1 + q)).w, .int .i64 (m.th (1 + q)).e] 38)) := (Same.refl _ _).alloc _
                rw [← hxb] at hb7 ⊢
                generalize w6.alloc (.cells #[.bool (m.th (1 + q)).en, .int .u64 (m.th (1 + q)).w, .int .i64 (m.th (1 + q)).e] 38) = w7 at *
                have HM7 := Lib.hid ((HM5.out.quiet hs6).quiet hs7)
                have HB7 := Lib.hid ((HB5.out.frame hs6 (by simp)).frame hs7 (by simp))
                have x0 : w7.cell? ⟨xb, 0, none⟩ = some (.bool (m.th (1 + q)).en) := hb7.cell 0
                have f0 : w7.cell? ⟨ob, 0, none⟩ = some (.int .i64 kd) := HB7.out.cell 0
                have f1 : w7.cell? ⟨ob, 1, none⟩ = some (.int .i64 t) := HB7.out.cell 1
                have f2 : w7.cell? ⟨ob, 2, none⟩ = some (.int .i64 l) := HB7.out.cell 2
                have f3 : w7.cell? ⟨ob, 3, none⟩ = some (.int .u64 x) := HB7.out.cell 3
                have f4 : w7.cell? ⟨ob, 4, none⟩ = some (.int .i64 e) := HB7.out.cell 4
                have flt := HB7.out.lt
                clear hb7 hs6 hs7 hxb d0 d1 d2 dlt
                have hwtF : waitsF m (1 + q) = (m.th (1 + q)).waits := by unfold waitsF; rw [HIS.out]; rfl
                have HWT := Lib.hid (own_waits HM7.out.st.own (1 + q) _ hwtF)
                clear hwtF
                have HGDEF : Hid ((m.th (1 + q)).goes = (!(m.th (1 + q)).en && !(m.th (1 + q)).waits)) := Lib.hid rfl
                cases hwt : (m.th (1 + q)).waits with
                | true =>
                  rw [hwt] at HWT HGDEF
                  have hng : (m.th (1 + q)).goes = false := by rw [HGDEF.out]; simp
                  have HLK := Lib.hid (own_lock HM7.out.st.own HM7.out.st.hw (1 + q) p false 192 m (by unfold lockF askF; rw [HIS.out, HIL.out, hng]; simp))
                  clear hwt hng
                  go_wp2_with fail
                  refine HWT.out.mono ?_
                  rintro en w8 ⟨rfl, rfl⟩
                  go_wp2_with fail
                  refine HLK.out.mono ?_
                  rintro en w8 ⟨rfl, F3, ho8, u8⟩
                  have HM8 := Lib.hid (HM7.out.upd ho8 u8)
                  clear ho8 u8
                  go_wp2
                  go_roundg (n - (k + 1))
                  case rel => exact ⟨k + 1, by omega, rfl, by go_num, rfl, m, F3, rvs, G, HM8.out⟩
                  case measure => omega
                | false =>
                  rw [hwt] at HWT HGDEF
                  cases hen : (m.th (1 + q)).en with
                  | true =>
                    rw [hen] at HGDEF x0
                    have hng : (m.th (1 + q)).goes = false := by rw [HGDEF.out]; simp
                    have HLK := Lib.hid (own_lock HM7.out.st.own HM7.out.st.hw (1 + q) p false 192 m (by unfold lockF askF; rw [HIS.out, HIL.out, hng]; simp))
                    clear hwt hng hen
                    go_wp2_with fail
                    refine HWT.out.mono ?_
                    rintro en w8 ⟨rfl, rfl⟩
                    go_wp2_with fail
                    refine HLK.out.mono ?_
                    rintro en w8 ⟨rfl, F3, ho8, u8⟩
                    have HM8 := Lib.hid (HM7.out.upd ho8 u8)
                    clear ho8 u8
                    go_wp2
                    go_roundg (n - (k + 1))
                    case rel => exact ⟨k + 1, by omega, rfl, by go_num, rfl, m, F3, rvs, G, HM8.out⟩
                    case measure => omega
                  | false =>
                    rw [hen] at HGDEF x0
                    have hg : (m.th (1 + q)).goes = true := by rw [HGDEF.out]; rfl
                    have HG := Lib.hid hg
                    clear hwt hen hg
                    go_wp2_with fail
                    refine HWT.out.mono ?_
                    rintro en w8 ⟨rfl, rfl⟩
                    go_upto_block 4 with fail
                    go_cut [6, 17, 18, 19, 20, 21, 22, 23] from 54 to 243 (fun v6 v17 v18 v19 v20 v21 v22 v23 wc => v6 = .slice (some ⟨rb, 0, none⟩) 3 3 ∧ v17 = .bool true ∧ ∃ mt F rvs G, Mn w1 wc B mt F (.slice (some ⟨rb, 0, none⟩) 3 3) rvs G jb)
                    case first =>
                      by_cases k4 : kd = 4
                      · as_aux_lemma =>
                        subst k4
                        have HST := Lib.hid (asked_any (1 + q) p HM7.out.st HIS.out HIL.out HG.out)
                        have HKP := Lib.hid (lock_keeps HM7.out.zr HM7.out.st.nt (1 + q) p HIS.out)
                        go_wp2_with fail
                        refine HST.out.mono ?_
                        rintro en wt ⟨rfl, F3, rvs3, G3, hst, hbo⟩
                        have HMT := Lib.hid (HM7.out.both hst hbo HKP.out.1 HKP.out.2)
                        clear hst hbo
                        go_wp2
                        go_meet
                        case rel => exact ⟨rfl, rfl, _, _, _, _, HMT.out⟩
                      · by_cases k5 : kd = 5
                        · as_aux_lemma =>
                          subst k5
                          have HST := Lib.hid (handed_any (1 + q) p HM7.out.st HIS.out HIL.out HG.out)
                          have HKP := Lib.hid (unlock_keeps HM7.out.st.own.ok HM7.out.zr HM7.out.st.nt (1 + q) p HIL.out)
                          go_wp2_with fail
                          refine HST.out.mono ?_
                          rintro en wt ⟨rfl, F3, rvs3, G3, hst, hbo⟩
                          have HMT := Lib.hid (HM7.out.both hst hbo HKP.out.1 HKP.out.2)
                          clear hst hbo
                          go_wp2
                          go_meet
                          case rel => exact ⟨rfl, rfl, _, _, _, _, HMT.out⟩
                        · by_cases k3 : kd = 3
                          · as_aux_lemma =>
                            subst k3
                            go_wp2_with fail
                            refine (HP3.out _).mono ?_
                            rintro en w7' ⟨r, r1, r2, rfl, rfl⟩
                            have hir : m.is (1 + r) = true := by rw [is_iff, HM.out.st.nt]; omega
                            have hed2 := ended_any (1 + r) HM7.out.st.own.rep HM7.out.st.own.ok.nt
                            rw [if_pos hir] at hed2
                            have HED2 := Lib.hid hed2
                            have HIR := Lib.hid hir
                            clear hed2 hir
                            go_wp2_with fail
                            refine HED2.out.mono ?_
                            rintro en w8 ⟨rfl, hs8⟩
                            go_wp2_with fail
                            obtain ⟨yb, hyb⟩ : ∃ yb, yb = w8.heap.size := ⟨_, rfl⟩
                            have hb9 : Blk (w8.alloc (.cells #[.bool (m.th (1 + r)).en, .int .u64 (m.th (1 + r)).w, .int .i64 (m.th (1 + r)).e] 38)) w8.heap.size 38 [.bool (m.th (1 + r)).en, .int .u64 (m.th (1 + r)).w, .int .i64 (m.th (1 + r)).e] := Blk.new w8 38 _
                            have hs9 : Same [] w8 (w8.alloc (.cells #[.bool (m.th (1 + r)).en, .int .u64 (m.th (1 + r)).w, .int .i64 (m.th (1 + r)).e] 38)) := (Same.refl _ _).alloc _
                            rw [← hyb] at hb9 ⊢
                            have HM9 := Lib.hid ((HM7.out.quiet hs8).quiet hs9)
                            have HYF : Hid (yb ∉ F2) := Lib.hid (fun hm => by have := (HM7.out.quiet hs8).st.own.rep.lt yb hm; omega)
                            have HYJ : Hid (¬ yb = jb) := Lib.hid (fun e => by have := (HM7.out.quiet hs8).jt.lt; omega)
                            generalize w8.alloc (.cells #[.bool (m.th (1 + r)).en, .int .u64 (m.th (1 + r)).w, .int .i64 (m.th (1 + r)).e] 38) = w9 at *
                            have HB9 := Lib.hid hb9
                            clear hb9 hs8 hs9 hyb f0 f1 f2 f3 f4 flt x0
                            by_cases hrq : r = q
                            · subst hrq
                              have HJN := Lib.hid (own_join HM9.out.st.own HM9.out.st.hw (1 + r) (1 + r) 0 false 193 m (by unfold joinF; rw [if_neg (by rw [HIS.out]; simp), if_neg (by rw [HG.out]; simp), if_pos rfl]))
                              refine HJN.out.mono ?_
                              rintro en wj ⟨rfl, F3, hoj, uj⟩
                              have HMT := Lib.hid (HM9.out.upd hoj uj)
                              have e1 : (1 + r != 1 + r) = false := by simp
                              have e2 : (1 + r == 1 + r) = true := by simp
                              clear hoj uj
                              go_wp2
                              go_meet
                              case rel => exact ⟨rfl, rfl, _, _, _, _, HMT.out⟩
                            · have e1 : (1 + r != 1 + q) = true := by simp; omega
                              have e2 : (1 + r == 1 + q) = false := by simp; omega
                              have e3 : (r == q) = false := by simpa using hrq
                              have e4 : (r != q) = true := by simpa using hrq
                              have hne : ¬ (1 + q = 1 + r) := by omega
                              cases hro : (m.th (1 + r)).en with
                              | true =>
                                have HJN := Lib.hid (own_join HM9.out.st.own HM9.out.st.hw (1 + q) (1 + r) (m.th (1 + r)).w true (m.th (1 + r)).e m (by unfold joinF; rw [if_neg (by rw [HIS.out, HIR.out]; simp), if_neg (by rw [HG.out]; simp), if_neg hne, if_pos hro]))
                                rw [hro] at HB9
                                refine HJN.out.mono ?_
                                rintro en wj ⟨rfl, F3, hoj, uj⟩
                                have HMT := Lib.hid (HM9.out.upd hoj uj)
                                have hbj := HB9.out.frame uj.same HYF.out
                                have z0 : wj.cell? ⟨yb, 0, none⟩ = some (.bool true) := hbj.cell 0
                                have z1 : wj.cell? ⟨yb, 1, none⟩ = some (.int .u64 (m.th (1 + r)).w) := hbj.cell 1
                                have z2 : wj.cell? ⟨yb, 2, none⟩ = some (.int .i64 (m.th (1 + r)).e) := hbj.cell 2
                                clear hbj hoj uj hro hne HJN HED2
                                generalize (m.th (1 + r)).w = y1 at *
                                generalize (m.th (1 + r)).e = y2 at *
                                have e5 : (y1 == y1) = true := by simp
                                have e6 : (y2 == y2) = true := by simp
                                go_wp2
                                go_meet
                                case rel => exact ⟨rfl, rfl, _, _, _, _, HMT.out⟩
                              | false =>
                                obtain ⟨hw0, he0⟩ := HM9.out.zr (1 + r) HIR.out hro
                                have HJN := Lib.hid (own_join HM9.out.st.own HM9.out.st.hw (1 + q) (1 + r) 0 false 0 (m.setT (1 + q) { m.th (1 + q) with fin := 1 + r }) (by unfold joinF; rw [if_neg (by rw [HIS.out, HIR.out]; simp), if_neg (by rw [HG.out]; simp), if_neg hne, if_neg (by rw [hro]; simp)]))
                                rw [hro, hw0, he0] at HB9
                                refine HJN.out.mono ?_
                                rintro en wj ⟨rfl, F3, hoj, uj⟩
                                have hbj := HB9.out.frame uj.same HYF.out
                                have z0 : wj.cell? ⟨yb, 0, none⟩ = some (.bool false) := hbj.cell 0
                                have z1 : wj.cell? ⟨yb, 1, none⟩ = some (.int .u64 0) := hbj.cell 1
                                have z2 : wj.cell? ⟨yb, 2, none⟩ = some (.int .i64 0) := hbj.cell 2
                                have hjt := HM9.out.jt.frame uj.same HM9.out.jF
                                have g1 := hjt.cell (1 + q).toNat (by omega)
                                have g2 := hjt.froz (1 + q).toNat
                                simp only [jV] at g1
                                have glt := hjt.lt
                                have hyj := HYJ.out
                                have hyj' : ¬ jb = yb := fun e => hyj e.symm
                                have HMT : Hid (Mn w1 (wj.setCell ⟨jb, (1 + q).toNat, none⟩ (.int .i64 (1 + r))) B (m.setT (1 + q) { m.th (1 + q) with fin := 1 + r }) F3 (.slice (some ⟨rb, 0, none⟩) 3 3) rvs G jb) := by
                                  have hjF3 : jb ∉ F3 := fun hm => by
                                    rcases uj.new jb hm with h | h
                                    · exact HM9.out.jF h
                                    · have := HM9.out.jt.lt; omega
                                  have hsc : Same [jb] wj (wj.setCell ⟨jb, (1 + q).toNat, none⟩ (.int .i64 (1 + r))) := (Same.refl _ _).setCell (.inl (by simp)) _
                                  refine Lib.hid ⟨(HM9.out.st.upd hoj uj (rowsOf_setT _ _ _) (by rw [setT_len]; exact HM9.out.st.nt) HM9.out.st.nl).same hsc (fun y hy hm => hjF3 (by rw [← List.mem_singleton.1 hm]; exact hy)) (fun y hy hm => HM9.out.jG (by rw [← List.mem_singleton.1 hm]; exact hy)), (hjt.set (1 + q).toNat (.int .i64 (1 + r))).congr (fun i _ => ?_), hjF3, HM9.out.jG, HM9.out.jn, zr_setT HM9.out.zr (1 + q) HIS.out _ ⟨rfl, rfl, rfl⟩, ?_⟩
                                  · simp only [jV]
                                    rw [jf_setT HM9.out.st.nt (1 + q) HIS.out]
                                    by_cases c : (i : Int) = 1 + q
                                    · rw [if_pos c, if_pos (by omega)]
                                    · rw [if_neg c, if_neg (by omega)]
                                  · exact ((HM9.out.same.trans' uj.same (fun y hy => .inr (HM9.out.st.own.new y hy)))).setCell (.inr HM9.out.jn) _
                                clear hbj hjt hoj uj hro hne HJN HED2 hw0 he0
                                generalize jf m (1 + q).toNat = jold at *
                                go_wp2
                                go_meet
                                case rel => exact ⟨rfl, rfl, _, _, _, _, HMT.out⟩
                          · by_cases k2 : kd = 2
                            · as_aux_lemma =>
                              subst k2
                              have HST := Lib.hid (endT_any (1 + q) x e 2 t l jb HM7.out.st HM7.out.jt HM7.out.jF HM7.out.jG HIS.out HG.out)
                              have HZR := Lib.hid (end_zr HM7.out.st.own.ok HM7.out.zr x e HIS.out HG.out)
                              go_wp2_with fail
                              refine HST.out.mono ?_
                              rintro en wt ⟨rfl, F3, rvs3, G3, hst, hjt, hjF, hjG, hsm⟩
                              have HMT : Hid (Mn w1 wt B (endM m (1 + q) x e) F3 (.slice (some ⟨rb, 0, none⟩) 3 3) rvs3 G3 jb) := Lib.hid ⟨hst, hjt, hjF, hjG, HM7.out.jn, HZR.out, HM7.out.same.trans' hsm (fun y hy => by
                                rcases List.mem_cons.1 hy with h | h
                                · rw [h]; exact .inr HM7.out.jn
                                · rcases List.mem_append.1 h with h | h
                                  · exact .inr (HM7.out.st.own.new y h)
                                  · exact .inr (HM7.out.st.gn y h))⟩
                              clear hst hjt hjF hjG hsm
                              go_wp2
                              go_meet
                              case rel => exact ⟨rfl, rfl, _, _, _, _, HMT.out⟩
                            · as_aux_lemma =>
                              have n4 : (kd == 4) = false := by simpa using k4
                              have n5 : (kd == 5) = false := by simpa using k5
                              have n3 : (kd == 3) = false := by simpa using k3
                              have n2 : (kd == 2) = false := by simpa using k2
                              have HMT := Lib.hid HM7.out
                              go_wp2
                              go_meet
                              case rel => exact ⟨rfl, rfl, _, _, _, _, HMT.out⟩
                    case rest => as_aux_lemma =>
                      obtain ⟨rfl, rfl, mt, F3, rvs3, G3, hMT⟩ := hcut
                      have HMT := Lib.hid hMT
                      clear hMT HB7 HM7 HED HWT HGDEF HG HIS HIL x0 f0 f1 f2 f3 f4 flt HP1 HP2 HP3 HB5 HM5
                      obtain ⟨wt, hwt⟩ : ∃ wt, wt = wc := ⟨_, rfl⟩
                      subst hwt
                      obtain ⟨hokT, h5T, h3T, hwaT, hhoT⟩ : Ok mt ∧ mt.ths.length = 5 ∧ mt.lks.length = 3 ∧ Hid (∀ kk : Nat, 1 ≤ kk → kk ≤ 5 → Calls Tryd.prog 12 #[.pointer (some ⟨B, 0, none⟩), .int .i64 kk] wt fun en w' => en = .returned (.bool (wV mt kk 3)) ∧ wt = w') ∧ Hid (∀ j : Nat, j < 3 → Calls Tryd.prog 18 #[.pointer (some ⟨B, 0, none⟩), .int .i64 j] wt fun en w' => en = .returned (.int .i64 (mt.lo (j : Int)).ho) ∧ wt = w') :=
                        ⟨HMT.out.st.own.ok, HMT.out.st.nt, HMT.out.st.nl, Lib.hid (fun kk h1 h2 => own_waits HMT.out.st.own kk _ (wV_all HMT.out.st.own.ok HMT.out.st.nt HMT.out.st.nl kk h1 h2)), Lib.hid (fun j hj => own_holder HMT.out.st.own j _ (by
                          have : mt.isL (j : Int) = true := by rw [isL_iff, HMT.out.st.nl]; omega
                          simp [holderF, this]))⟩
                      have HOKT := Lib.hid hokT
                      have H3T := Lib.hid h3T
                      clear hokT h5T h3T
                      go_wp2
                      go_loopw [24] (fun c wx => ∃ kk : Nat, 1 ≤ kk ∧ kk ≤ 6 ∧ c = .int .i64 kk ∧ wt = wx) (fun c _ => 6 - (intOf c).toNat)
                      case atStart => exact ⟨1, by omega, by omega, by go_num, rfl⟩
                      case round =>
                        obtain ⟨kk, hk1, hk6, rfl, rfl⟩ := hrel
                        by_cases hlk : kk < 6
                        · have hk5 : (kk : Int) ≤ 5 := by omega
                          have cj := HMT.out.jt.cell kk (by omega)
                          simp only [jV] at cj
                          have HZ := Lib.hid (wV_zero mt kk)
                          obtain ⟨y, hy⟩ : ∃ y, y = jf mt kk := ⟨_, rfl⟩
                          rw [← hy] at cj
                          have HY := Lib.hid hy
                          clear hy
                          go_wp2
                          go_loopw [25, 26] (fun wv c wx => ∃ j : Nat, j ≤ 3 ∧ c = .int .i64 j ∧ wv = .bool (wV mt kk j) ∧ wt = wx) (fun _ c _ => 3 - (intOf c).toNat)
                          case atStart => exact ⟨0, by omega, rfl, by rw [HZ.out, ← HY.out], rfl⟩
                          case round =>
                            obtain ⟨j, hj3, rfl, rfl, rfl⟩ := hrel
                            by_cases hlj : j < 3
                            · have hll := HMT.out.st.ll
                              have hjr : j < (rowsOf mt).length := by rw [rowsOf_len, H3T.out]; exact hlj
                              obtain ⟨g, off, cap, hro, hglt, -, hcell, -, -, -⟩ := hll.at_ j hjr (by decide)
                              rw [rowsOf_len, H3T.out] at hro
                              injection hro with hro _ hro2
                              injection hro with hro
                              injection hro with hro hro3 _
                              subst hro hro2 hro3
                              have hrow := hll.rows j hjr
                              rw [rowsOf_get mt j (by rw [H3T.out]; exact hlj)] at hrow
                              have hlm : mt.isL (j : Int) = true := by rw [isL_iff, H3T.out]; omega
                              have hheld := row_held HOKT.out (j : Int) hlm
                              have hlen8 := row_len8 HOKT.out hlm
                              obtain ⟨ra, rc, hra, -, -, -⟩ := hrow.form
                              rw [hra] at hcell hrow
                              simp only [Nat.zero_add] at hcell
                              have hws := wV_succ mt kk j
                              have hhc := hhoT.out j hlj
                              obtain ⟨row, hrw⟩ : ∃ row, row = (mt.lo (j : Int)).row := ⟨_, rfl⟩
                              rw [← hrw] at hcell hrow hheld hlen8 hws
                              obtain ⟨b0, hb0⟩ : ∃ b0, b0 = wV mt kk j := ⟨_, rfl⟩
                              rw [← hb0] at hws ⊢
                              obtain ⟨ho0, hho0⟩ : ∃ ho0, ho0 = (mt.lo (j : Int)).ho := ⟨_, rfl⟩
                              rw [← hho0] at hhc hheld
                              obtain ⟨ln, hln⟩ : ∃ ln, ln = row.length := ⟨_, rfl⟩
                              rw [← hln] at hcell hlen8 hrow
                              have HROW := Lib.hid hrow
                              have HHELD := Lib.hid hheld
                              have HWS := Lib.hid hws
                              have HHC := Lib.hid hhc
                              have HLN := Lib.hid hln
                              clear hll hjr hlm hra hrow hheld hws hhc hrw hb0 hho0 hln
                              go_wp2
                              go_loopw [25, 27] (fun wv c wx => ∃ i : Nat, i ≤ ln ∧ c = .int .i64 i ∧ wv = .bool (b0 || decide ((kk : Int) ∈ row.take i)) ∧ wt = wx) (fun _ c _ => ln - (intOf c).toNat)
                              case atStart => exact ⟨0, by omega, rfl, by simp, rfl⟩
                              case round =>
                                obtain ⟨i, hi, rfl, rfl, rfl⟩ := hrel
                                by_cases hli : i < ln
                                · as_aux_lemma =>
                                  obtain ⟨ga, oa, ca, ea, -, -, hca, -⟩ := HROW.out.at_ (by omega)
                                  injection ea with ea _ ea2
                                  subst ea ea2
                                  have ka := hca i (by omega)
                                  rw [word_get _ _ (by rw [← HLN.out]; exact hli)] at ka
                                  have htx : row.take (i + 1) = row.take i ++ [row.getD i 0] := by
                                    have : i < row.length := by rw [← HLN.out]; exact hli
                                    rw [List.take_succ_eq_append_getElem this]; simp [List.getD, this]
                                  have HTX := Lib.hid htx
                                  clear hca htx
                                  generalize row.getD i 0 = y1 at *
                                  cases hb : (b0 || decide ((kk : Int) ∈ row.take i)) with
                                  | true =>
                                    have HN : Hid ((b0 || decide ((kk : Int) ∈ row.take (i + 1))) = true) := Lib.hid (by
                                      rw [HTX.out]; simp only [Bool.or_eq_true, decide_eq_true_eq, List.mem_append] at hb ⊢
                                      rcases hb with h | h
                                      · exact .inl h
                                      · exact .inr (.inl h))
                                    clear hb
                                    go_wp2
                                    go_roundw
                                    case rel => exact ⟨i + 1, by omega, by go_num, by rw [HN.out], (by first | rfl | trivial)⟩
                                    case measure => simp [intOf]; omega
                                  | false =>
                                    by_cases he : y1 = (kk : Int)
                                    · have e2 : (y1 == (kk : Int)) = true := by simpa using he
                                      have HN : Hid ((b0 || decide ((kk : Int) ∈ row.take (i + 1))) = true) := Lib.hid (by
                                        rw [HTX.out, he]; simp)
                                      clear hb he
                                      go_wp2
                                      go_roundw
                                      case rel => exact ⟨i + 1, by omega, by go_num, by rw [HN.out], (by first | rfl | trivial)⟩
                                      case measure => simp [intOf]; omega
                                    · have e2 : (y1 == (kk : Int)) = false := by simpa using he
                                      have HN : Hid ((b0 || decide ((kk : Int) ∈ row.take (i + 1))) = false) := Lib.hid (by
                                        rw [HTX.out]
                                        simp only [Bool.or_eq_false_iff, decide_eq_false_iff_not, List.mem_append, List.mem_singleton, not_or] at hb ⊢
                                        exact ⟨hb.1, hb.2, fun h => he h.symm⟩)
                                      clear hb he
                                      go_wp2
                                      go_roundw
                                      case rel => exact ⟨i + 1, by omega, by go_num, by rw [HN.out], (by first | rfl | trivial)⟩
                                      case measure => simp [intOf]; omega
                                · as_aux_lemma =>
                                  have hil : i = ln := by omega
                                  subst hil
                                  have HEQ : Hid ((b0 || decide ((kk : Int) ∈ row.take i)) = wV mt kk (j + 1)) := Lib.hid (by rw [HWS.out, HLN.out, List.take_length])
                                  rw [HEQ.out]
                                  obtain ⟨b1, hb1⟩ : ∃ b1, b1 = wV mt kk (j + 1) := ⟨_, rfl⟩
                                  rw [← hb1]
                                  have HBX := Lib.hid hb1
                                  clear hb1 HEQ
                                  by_cases hl0 : i = 0
                                  · subst hl0
                                    clear hli
                                    rw [show ((0 : Nat) : Int) = 0 from rfl]
                                    go_wp2
                                    go_roundw
                                    case rel => exact ⟨j + 1, by omega, by go_num, by rw [HBX.out], (by first | rfl | trivial)⟩
                                    case measure => simp [intOf]; omega
                                  · have e1 : (0 : Int) < (i : Int) := by omega
                                    have e2 := HHELD.out (fun h => hl0 (by rw [HLN.out, h]; rfl))
                                    clear hli
                                    go_wp2_with fail
                                    refine HHC.out.mono ?_
                                    rintro en w9 ⟨rfl, rfl⟩
                                    go_wp2
                                    go_roundw
                                    case rel => exact ⟨j + 1, by omega, by go_num, by rw [HBX.out], (by first | rfl | trivial)⟩
                                    case measure => simp [intOf]; omega
                            · as_aux_lemma =>
                              have hj : j = 3 := by omega
                              subst hj
                              have HWA := Lib.hid (hwaT.out kk hk1 (by omega))
                              generalize wV mt kk 3 = b2 at *
                              have eb : (b2 != b2) = false := by simp
                              go_wp2_with fail
                              refine HWA.out.mono ?_
                              rintro en w9 ⟨rfl, rfl⟩
                              go_wp2
                              go_roundw
                              case rel => exact ⟨kk + 1, by omega, by omega, by go_num, (by first | rfl | trivial)⟩
                              case measure => simp [intOf]; omega
                        · as_aux_lemma =>
                          have hkk : kk = 6 := by omega
                          subst hkk
                          rw [show ((6 : Nat) : Int) = 6 from rfl]
                          go_wp2
                          go_roundg (n - (k + 1))
                          case measure => omega
                          case rel => exact ⟨k + 1, by omega, rfl, by go_num, rfl, mt, _, _, _, HMT.out⟩
              · have hS : Hid (Same [] w wr) := Lib.hid (HS1.out.trans hM.same)
                clear hM
                go_wp2
                go_ret
                exact ⟨rfl, hS.out⟩
end Lk
end Go.Proofs.YtkfdoocmapjkbaaDoor
