/- Layer 19, LocksStay: the walk. -/
import Derived.Test.YtkfdoocmapjkbaaDoorLsW
import Derived.Deep.CutBlock
import Derived.Deep.LoopGhost
namespace Go.Proofs.YtkfdoocmapjkbaaDoor
open Go.RowKit Hp
namespace Lk
variable {w w' W : World}

theorem Bks.frame {B R : Nat} {W' : World} (h : Bks w W B R) (hs : Same [] W W') : Bks w W' B R := by
  obtain ⟨m, mr, F, G, p⟩ := h
  exact ⟨m, mr, F, G, p.frame hs (by simp) (by simp)⟩

/-- The two books, and the list of who is stuck. -/
def Stk (w W : World) (B R : Nat) (l : List Int) (v : Value) : Prop :=
  ∃ m mr F G, Pair w W B R m mr F G ∧ Same [] w W ∧ (∀ t ∈ l, t ∈ stuckF m) ∧ Row W 3 1 v l.length (l.flatMap (nE .i64)) ∧ ∀ k ∈ blk v, k ∉ F ∧ k ∉ G

theorem stuckF_len {m : Bk} (ok : Ok m) : (stuckF m).length ≤ 8 := by
  unfold stuckF
  refine Nat.le_trans (List.length_filter_le _ _) ?_
  have := ok.nt
  simp; omega

set_option maxHeartbeats 3200000 in
set_option maxRecDepth 100000 in
theorem stay_any (v1 v2 : Value) (n1 n2 : Nat) (hs1 : Sc w v1 n1) (hs2 : Sc w v2 n2) (hb : Bnd w) : Calls Tryd.prog 5 #[v1, v2] w fun e w' => e = .returned (.bool true) ∧ Same [] w w' := by
  obtain ⟨A1, c1, rfl, hnc1, hcm1, hops1⟩ := hs1
  obtain ⟨A2, c2, rfl, hnc2, hcm2, hops2⟩ := hs2
  have HO1 := Lib.hid hops1
  have HO2 := Lib.hid hops2
  have HB := Lib.hid hb
  clear hops1 hops2 hb
  by_cases g1 : (5000 : Int) < n1
  · go_enter Tryd.func5, Tryd.ntmps5
    go_wp2
    go_ret
    exact ⟨rfl, Same.refl _ _⟩
  by_cases g2 : (5000 : Int) < n2
  · have g1' : (n1 : Int) ≤ 5000 := by omega
    clear g1
    go_enter Tryd.func5, Tryd.ntmps5
    go_wp2
    go_ret
    exact ⟨rfl, Same.refl _ _⟩
  have g1' : (n1 : Int) ≤ 5000 := by omega
  have g2' : (n2 : Int) ≤ 5000 := by omega
  clear g1 g2
  go_enter Tryd.func5, Tryd.ntmps5
  go_wp2_with fail
  refine (known_any HB.out).mono ?_
  rintro en w1 ⟨rfl, hk1⟩
  have HB1 : Hid (Bnd w1) := Lib.hid (HB.out.frame hk1 (by simp))
  have HK1 := Lib.hid hk1
  clear hk1
  go_wp2_with fail
  refine (own_new (w := w1) 3 2 (by omega) (by omega) (Nat.le_refl _) HB1.out).mono ?_
  rintro en w2 ⟨B, F, rfl, ho2, u2⟩
  have HO := Lib.hid ho2
  have HU := Lib.hid u2
  clear ho2 u2
  go_wp2
  go_loopw [8] (fun c wr => ∃ k : Nat, k ≤ 6 ∧ c = .int .i64 k ∧ ∃ m F, Own w1 wr B m F ∧ Same [] w1 wr) (fun c _ => 6 - (intOf c).toNat)
  case atStart => exact ⟨0, Nat.zero_le _, rfl, _, F, HO.out, HU.out.same⟩
  case round =>
    obtain ⟨k, hk, rfl, m, F1, ho, hu⟩ := hrel
    by_cases hlt : k < 6
    · obtain ⟨⟨a, b, m'⟩, hst⟩ : ∃ r, start m = r := ⟨_, rfl⟩
      have HCAL := Lib.hid (own_start ho hu.size _ _ _ hst)
      have HN := Lib.hid ho.new
      have HUU := Lib.hid hu
      clear ho hu hst
      go_wp2_with fail
      refine HCAL.out.mono ?_
      rintro en w5 ⟨rfl, F2, ho5, u5⟩
      have HO5 := Lib.hid ho5
      have HU5 : Hid (Same [] w1 w5) := Lib.hid (HUU.out.trans' u5.same (fun y hy => .inr (HN.out y hy)))
      clear ho5 u5
      go_wp2
      go_roundw
      case rel => exact ⟨k + 1, by omega, by go_num, m', F2, HO5.out, HU5.out⟩
      case measure => simp [intOf]; omega
    · have hk6 : k = 6 := by omega
      subst hk6
      obtain ⟨wb, hwb⟩ : ∃ wb, wb = wr := ⟨_, rfl⟩
      subst hwb
      rw [show ((6 : Nat) : Int) = 6 from rfl]
      have HNEW := Lib.hid (r_new (w := wb) 3 2 (by omega) (by omega) (HB1.out.frame hu (by simp)))
      have HOB := Lib.hid ho
      have HUB := Lib.hid hu
      clear ho hu
      go_wp2_with fail
      refine HNEW.out.mono ?_
      rintro en wc ⟨R, G, rfl, hr, hsr, hnr⟩
      have P0 : Hid (Bks w1 wc B R) := Lib.hid ⟨m, newM 3 2, F1, G, HOB.out.frame hsr (by simp), newM_ok 3 2 (by omega) (by omega), (fun t ht => by have := (is_iff _ t).1 ht; simp [newM] at this; omega), hr, fun k hk => Nat.le_trans HUB.out.size (hnr k hk), fun k hk hm => by have := HOB.out.rep.lt k hk; have := hnr k hm; omega⟩
      have S0 : Hid (Same [] w wc) := Lib.hid ((HK1.out.trans HUB.out).trans hsr)
      have Z0 : Hid (Same [] w1 wc) := Lib.hid (HUB.out.trans hsr)
      clear hr hsr hnr
      go_wp2
      go_loopw [11, 12] (fun c _ wr => ∃ k : Nat, k ≤ n1 ∧ c = .int .i64 k ∧ Bks w1 wr B R ∧ Same [] w1 wr) (fun c _ _ => n1 - (intOf c).toNat)
      case atStart => exact ⟨0, Nat.zero_le _, rfl, P0.out, Z0.out⟩
      case round =>
        obtain ⟨k, hk, rfl, hbk, hsk⟩ := hrel
        have HBK := Lib.hid hbk
        have HSK := Lib.hid hsk
        have hsw := HK1.out.trans hsk
        by_cases hlt : k < n1
        · obtain ⟨a, ha, hblt, kd, t, l, x, e, -, ht, hl, f0, f1, f2, f3, f4⟩ := HO1.out k hlt
          have hfr : ∀ b : Addr, b.block = (a.add (k * 5)).block → w.cell? b = wr.cell? b := fun b hb => (World.cell?_of_block (w := w) (a := b) (hsw.block b.block (by rw [hb]; exact hblt) (by simp))).symm
          rw [hfr _ rfl] at f0
          rw [hfr ⟨(a.add (k * 5)).block, (a.add (k * 5)).off + 1, none⟩ rfl] at f1
          rw [hfr ⟨(a.add (k * 5)).block, (a.add (k * 5)).off + 2, none⟩ rfl] at f2
          rw [hfr ⟨(a.add (k * 5)).block, (a.add (k * 5)).off + 3, none⟩ rfl] at f3
          rw [hfr ⟨(a.add (k * 5)).block, (a.add (k * 5)).off + 4, none⟩ rfl] at f4
          have hblt' : (a.add (k * 5)).block < wr.heap.size := Nat.lt_of_lt_of_le hblt hsw.size
          have i1 : (k : Int) < n1 := by omega
          subst ha
          have HSM := Lib.hid (small_any (W := wr) kd t l x e ht hl)
          clear hbk hsk hsw hfr hblt ht hl
          go_wp2_with fail
          refine HSM.out.mono ?_
          rintro en w5 ⟨t', l', rfl, hs5⟩
          obtain ⟨m, mr, F, G, hp⟩ := HBK.out
          obtain ⟨w6, hw6⟩ : ∃ w6, w6 = w5.alloc (.cells #[.int .i64 kd, .int .i64 t', .int .i64 l', .int .u64 x, .int .i64 e] 35) := ⟨_, rfl⟩
          have hs6 : Same [] wr w6 := by rw [hw6]; exact hs5.alloc _
          have hz6 : w6.heap.size = w5.heap.size + 1 := by rw [hw6]; simp
          have hst := step_fresh kd t' l' x e (hp.frame hs6 (by simp) (by simp)) (Nat.le_trans HSK.out.size hs6.size) _ rfl
          rw [hz6] at hst
          have HST := Lib.hid hst
          have HS6 := Lib.hid hs6
          have HRN := Lib.hid hp.b.new
          have HRG := Lib.hid hp.rn
          have HW6 := Lib.hid hw6
          clear hst hs6 hs5 hz6 hp hw6 f0 f1 f2 f3 f4 hblt'
          go_wp2_with fail
          rw [← HW6.out]
          refine HST.out.mono ?_
          rintro en w7 ⟨c, rfl, F', G', p7, u7⟩
          have B7 : Hid (Bks w1 w7 B R) := Lib.hid ⟨_, _, _, _, p7⟩
          have S7 : Hid (Same [] w1 w7) := Lib.hid ((HSK.out.trans HS6.out).trans' u7.same (fun y hy => .inr (by
            rcases List.mem_append.1 hy with h | h
            · exact HRN.out y h
            · exact HRG.out y h)))
          clear p7 u7
          go_wp2
          go_roundw
          case rel => exact ⟨k + 1, by omega, by go_num, B7.out, S7.out⟩
          case measure => simp [intOf]; omega
        · have hkn : k = n1 := by omega
          subst hkn
          have hge : (k : Int) ≤ (k : Int) := by omega
          obtain ⟨m, mr, F, G, hp⟩ := HBK.out
          obtain ⟨l, hl⟩ : ∃ l, l = stuckF m := ⟨_, rfl⟩
          have hl8 : l.length ≤ 8 := by rw [hl]; exact stuckF_len hp.b.ok
          have HSTK := Lib.hid (own_stuck hp.b l hl.symm)
          have HP := Lib.hid hp
          have HL := Lib.hid hl
          obtain ⟨wd, hwd⟩ : ∃ wd, wd = wr := ⟨_, rfl⟩
          subst hwd
          clear hbk hsk hsw hp hl hlt hk
          go_wp2_with fail
          refine HSTK.out.mono ?_
          rintro en we ⟨v, rfl, -, hse, hrow, hnew⟩
          obtain ⟨va, vc, rfl, -, -, -⟩ := hrow.form
          have K0 : Hid (Stk w1 we B R l (.slice va l.length vc)) := Lib.hid ⟨m, mr, F, G, HP.out.frame hse (by simp) (by simp), HSK.out.trans hse, fun t ht => by rw [← HL.out]; exact ht, hrow, fun k hk => ⟨fun hm => by have := HP.out.b.rep.lt k hm; have := hnew k hk; omega, fun hm => by have := HP.out.r.lt k hm; have := hnew k hk; omega⟩⟩
          clear hse hrow hnew
          go_wp2
          go_loopw [14] (fun c wr => ∃ k : Nat, k ≤ n2 ∧ c = .int .i64 k ∧ Stk w1 wr B R l (.slice va l.length vc)) (fun c _ => n2 - (intOf c).toNat)
          case atStart => exact ⟨0, Nat.zero_le _, rfl, K0.out⟩
          case round =>
            obtain ⟨k2, hk2, rfl, hstk⟩ := hrel
            obtain ⟨m2, mr2, F2, G2, hp, hsk, hsub, hrow, hoff⟩ := hstk
            have hsw := HK1.out.trans hsk
            by_cases hlt : k2 < n2
            · obtain ⟨a, ha, hblt, kd, t, lk, x, e, -, ht, hlk, f0, f1, f2, f3, f4⟩ := HO2.out k2 hlt
              have hfr : ∀ b : Addr, b.block = (a.add (k2 * 5)).block → w.cell? b = wr.cell? b := fun b hb => (World.cell?_of_block (w := w) (a := b) (hsw.block b.block (by rw [hb]; exact hblt) (by simp))).symm
              rw [hfr _ rfl] at f0
              rw [hfr ⟨(a.add (k2 * 5)).block, (a.add (k2 * 5)).off + 1, none⟩ rfl] at f1
              rw [hfr ⟨(a.add (k2 * 5)).block, (a.add (k2 * 5)).off + 2, none⟩ rfl] at f2
              rw [hfr ⟨(a.add (k2 * 5)).block, (a.add (k2 * 5)).off + 3, none⟩ rfl] at f3
              rw [hfr ⟨(a.add (k2 * 5)).block, (a.add (k2 * 5)).off + 4, none⟩ rfl] at f4
              have hblt' : (a.add (k2 * 5)).block < wr.heap.size := Nat.lt_of_lt_of_le hblt hsw.size
              have i1 : (k2 : Int) < n2 := by omega
              subst ha
              have HSM := Lib.hid (small_any (W := wr) kd t lk x e ht hlk)
              have HPP := Lib.hid hp
              have HSK2 := Lib.hid hsk
              have HSUB := Lib.hid hsub
              have HROW := Lib.hid hrow
              have HOFF := Lib.hid hoff
              clear hsk hsw hfr hblt ht hlk hp hsub hrow hoff
              go_wp2_with fail
              refine HSM.out.mono ?_
              rintro en w5 ⟨t', l', rfl, hs5⟩
              obtain ⟨w6, hw6⟩ : ∃ w6, w6 = w5.alloc (.cells #[.int .i64 kd, .int .i64 t', .int .i64 l', .int .u64 x, .int .i64 e] 35) := ⟨_, rfl⟩
              have hs6 : Same [] wr w6 := by rw [hw6]; exact hs5.alloc _
              have hz6 : w6.heap.size = w5.heap.size + 1 := by rw [hw6]; simp
              have hst := step_fresh kd t' l' x e (HPP.out.frame hs6 (by simp) (by simp)) (Nat.le_trans HSK2.out.size hs6.size) _ rfl
              rw [hz6] at hst
              have HST := Lib.hid hst
              have HS6 := Lib.hid hs6
              have HW6 := Lib.hid hw6
              clear hst hs6 hs5 hz6 hw6 f0 f1 f2 f3 f4 hblt'
              go_wp2_with fail
              rw [← HW6.out]
              refine HST.out.mono ?_
              rintro en w7 ⟨c, rfl, F', G', p7, u7⟩
              have hoffA : ∀ y ∈ blk (.slice va l.length vc), y ∉ F2 ++ G2 := fun y hy hm => by
                rcases List.mem_append.1 hm with h | h
                · exact (HOFF.out y hy).1 h
                · exact (HOFF.out y hy).2 h
              have r7 := (HROW.out.frame HS6.out (by simp)).frame u7.same hoffA
              have o7 : ∀ y ∈ blk (.slice va l.length vc), y ∉ F' ++ G' := u7.apart hoffA (fun y hy => (HROW.out.frame HS6.out (by simp)).lt y hy)
              have s7 : Same [] w1 w7 := (HSK2.out.trans HS6.out).trans' u7.same (fun y hy => .inr (by
                rcases List.mem_append.1 hy with h | h
                · exact HPP.out.b.new y h
                · exact HPP.out.rn y h))
              have sub7 : ∀ i ∈ l, i ∈ stuckF (stepM m2 kd t' l' x e) := fun i hi => stepM_stuck HPP.out.b.ok kd t' l' x e i (HSUB.out i hi)
              generalize stepM m2 kd t' l' x e = m7 at *
              generalize stepM mr2 kd t' l' x e = mr7 at *
              obtain ⟨now, hnow⟩ : ∃ now, now = stuckF m7 := ⟨_, rfl⟩
              have hn8 : now.length ≤ 8 := by rw [hnow]; exact stuckF_len p7.b.ok
              have HSTK2 := Lib.hid (own_stuck p7.b now hnow.symm)
              have P7 := Lib.hid p7
              have R7 := Lib.hid r7
              have O7 := Lib.hid o7
              have S7 := Lib.hid s7
              have SUB7 : Hid (∀ i ∈ l, i ∈ now) := Lib.hid (by rw [hnow]; exact sub7)
              have HNOW := Lib.hid hnow
              clear p7 u7 r7 o7 s7 sub7 hoffA hnow HPP HSUB HROW HOFF HSK2 HST HS6 HW6 HSM
              go_wp2_with fail
              refine HSTK2.out.mono ?_
              rintro en w8 ⟨v2, rfl, -, hs8, hrow2, hnew2⟩
              obtain ⟨v2a, v2c, rfl, -, -, -⟩ := hrow2.form
              have P8 := Lib.hid (P7.out.frame hs8 (by simp) (by simp))
              have R8 := Lib.hid (R7.out.frame hs8 (by simp))
              have S8 := Lib.hid (S7.out.trans hs8)
              have N8 := Lib.hid hrow2
              clear hs8 hrow2 hnew2 P7 R7 S7 HSTK2
              have LL8 := Lib.hid hl8
              go_wp2
              go_loopw [17] (fun c wr => ∃ j : Nat, j ≤ l.length ∧ c = .int .i64 j ∧ Same [] w8 wr) (fun c _ => l.length - (intOf c).toNat)
              case atStart => exact ⟨0, Nat.zero_le _, rfl, Same.refl _ _⟩
              case round =>
                obtain ⟨j, hj, rfl, hs9⟩ := hrel
                by_cases hjl : j < l.length
                · have hjl' : (j : Int) < (l.length : Int) := by omega
                  have p9 := P8.out.frame hs9 (by simp) (by simp)
                  have r9 := R8.out.frame hs9 (by simp)
                  have n9 := N8.out.frame hs9 (by simp)
                  obtain ⟨ga, oa, ca, ea, -, hgl, hca, -⟩ := r9.at_ (by omega)
                  injection ea with ea _ ea2
                  subst ea ea2
                  have ka := hca j (by omega)
                  rw [word_get _ _ hjl] at ka
                  have htl : l.getD j 0 ∈ l := by rw [List.getD_eq_getElem?_getD, List.getElem?_eq_getElem hjl]; simp
                  have hsn := SUB7.out _ htl
                  rw [HNOW.out] at hsn
                  obtain ⟨hti, htw, hte⟩ := stuck_waits p9.b.ok _ hsn
                  have hed := ended_any (l.getD j 0) p9.b.rep p9.b.ok.nt
                  rw [if_pos hti, hte] at hed
                  have HED := Lib.hid hed
                  have hin : l.getD j 0 ∈ now := SUB7.out _ htl
                  have HIN := Lib.hid hin
                  have HW9 : Hid (∀ wz, Same [] wr wz → Calls Tryd.prog 12 #[.pointer (some ⟨B, 0, none⟩), .int .i64 (l.getD j 0)] wz fun en w' => en = .returned (.bool true) ∧ wz = w') := Lib.hid (fun wz hz => own_waits (p9.b.frame hz (by simp)) _ _ htw)
                  have HS9 := Lib.hid hs9
                  have R9 := Lib.hid r9
                  have N9 := Lib.hid n9
                  have KA := Lib.hid ka
                  clear p9 r9 n9 hca hsn hti htw hte hed hin htl hs9
                  generalize l.getD j 0 = tt at *
                  generalize (m7.th tt).w = tw at *
                  generalize (m7.th tt).e = te at *
                  go_wp2_with fail
                  refine HED.out.mono ?_
                  rintro en wy ⟨rfl, hsy⟩
                  obtain ⟨xb, hxb⟩ : ∃ xb, xb = wy.heap.size := ⟨_, rfl⟩
                  obtain ⟨wz, hwz⟩ : ∃ wz, wz = wy.alloc (.cells #[.bool false, .int .u64 tw, .int .i64 te] 38) := ⟨_, rfl⟩
                  have hb10 : Blk wz wy.heap.size 38 [.bool false, .int .u64 tw, .int .i64 te] := by rw [hwz]; exact Blk.new wy 38 _
                  have hs10 : Same [] wr wz := by rw [hwz]; exact hsy.alloc _
                  rw [← hxb] at hb10
                  have HB10 := Lib.hid hb10
                  have HS10 := Lib.hid hs10
                  have HWZ := Lib.hid hwz
                  have HXB := Lib.hid hxb
                  clear hb10 hs10 hwz hxb hsy
                  have hfound : ∀ i, i < now.length → now.take (i + 1) = now.take i ++ [now.getD i 0] := fun i hi => by
                    rw [List.take_succ_eq_append_getElem hi]; simp [List.getD, hi]
                  have HFND := Lib.hid hfound
                  clear hfound
                  obtain ⟨wq, hwq⟩ : ∃ wq, wq = wr := ⟨_, rfl⟩
                  subst hwq
                  go_wp2
                  rw [← HWZ.out, ← HXB.out]
                  go_loopw [20, 21] (fun th c wr => ∃ i : Nat, i ≤ now.length ∧ c = .int .i64 i ∧ th = .bool (decide (tt ∈ now.take i)) ∧ Same [] wz wr) (fun _ c _ => now.length - (intOf c).toNat)
                  case atStart => exact ⟨0, Nat.zero_le _, rfl, by simp, Same.refl _ _⟩
                  case round =>
                    obtain ⟨i, hi, rfl, rfl, hsi⟩ := hrel
                    have hsq := HS10.out.trans hsi
                    have ka := (hsq.cell (b := ga) (o := oa + j) hgl (by simp)).trans KA.out
                    by_cases hli : i < now.length
                    · have hli' : (i : Int) < (now.length : Int) := by omega
                      have n10 := N9.out.frame hsq (by simp)
                      obtain ⟨gb, ob, cb, eb, -, -, hcb, -⟩ := n10.at_ (by omega)
                      injection eb with eb _ eb2
                      subst eb eb2
                      have kb := hcb i (by omega)
                      rw [word_get _ _ hli] at kb
                      have HTK := Lib.hid (HFND.out i hli)
                      have HSI := Lib.hid hsi
                      clear n10 hcb hsi hsq
                      generalize now.getD i 0 = y at *
                      cases hth : decide (tt ∈ now.take i) with
                      | true =>
                        have HN : Hid (decide (tt ∈ now.take (i + 1)) = true) := Lib.hid (by
                          rw [HTK.out]; simp only [decide_eq_true_eq, List.mem_append] at hth ⊢; exact .inl hth)
                        clear hth
                        go_wp2
                        go_region
                        go_wp2
                        go_roundw
                        case rel => exact ⟨i + 1, by omega, by go_num, by rw [HN.out], HSI.out.drew⟩
                        case measure => simp [intOf]; omega
                      | false =>
                        by_cases hy : y = tt
                        · have e2 : (y == tt) = true := by simpa using hy
                          have HN : Hid (decide (tt ∈ now.take (i + 1)) = true) := Lib.hid (by
                            rw [HTK.out, hy]; simp)
                          clear hth hy
                          go_wp2
                          go_region
                          go_wp2
                          go_roundw
                          case rel => exact ⟨i + 1, by omega, by go_num, by rw [HN.out], HSI.out.drew⟩
                          case measure => simp [intOf]; omega
                        · have e2 : (y == tt) = false := by simpa using hy
                          have HN : Hid (decide (tt ∈ now.take (i + 1)) = false) := Lib.hid (by
                            rw [HTK.out]
                            simp only [decide_eq_false_iff_not, List.mem_append, List.mem_singleton, not_or] at hth ⊢
                            exact ⟨hth, fun h => hy h.symm⟩)
                          clear hth hy
                          go_wp2
                          go_region
                          go_wp2
                          go_roundw
                          case rel => exact ⟨i + 1, by omega, by go_num, by rw [HN.out], HSI.out.drew⟩
                          case measure => simp [intOf]; omega
                    · have hii : i = now.length := by omega
                      have hge : (now.length : Int) ≤ (i : Int) := by omega
                      have HT : Hid (decide (tt ∈ now.take i) = true) := Lib.hid (by rw [hii, List.take_length]; simpa using HIN.out)
                      rw [HT.out]
                      have HWA := Lib.hid (HW9.out _ hsq)
                      have x0 : wr.cell? ⟨xb, 0, none⟩ = some (.bool false) := (HB10.out.frame hsi (by simp)).cell 0
                      have HSQ := Lib.hid (HS9.out.trans hsq)
                      clear hsi hsq hii hli
                      go_wp2_with fail
                      refine HWA.out.mono ?_
                      rintro en w12 ⟨rfl, rfl⟩
                      go_wp2
                      go_roundw
                      case rel => exact ⟨j + 1, by omega, by go_num, HSQ.out⟩
                      case measure => simp [intOf]; omega
                · have hjj : j = l.length := by omega
                  have hge : (l.length : Int) ≤ (j : Int) := by omega
                  have K9 : Hid (Stk w1 wr B R l (.slice va l.length vc)) := Lib.hid ⟨m7, mr7, F', G', P8.out.frame hs9 (by simp) (by simp), S8.out.trans hs9, fun t ht => by rw [← HNOW.out]; exact SUB7.out t ht, R8.out.frame hs9 (by simp), fun k hk => ⟨fun hm => O7.out k hk (by simp [hm]), fun hm => O7.out k hk (by simp [hm])⟩⟩
                  clear hs9 hjj hjl
                  go_wp2
                  go_roundw
                  case rel => exact ⟨k2 + 1, by omega, by go_num, K9.out⟩
                  case measure => simp [intOf]; omega
            · have hge : (n2 : Int) ≤ (k2 : Int) := by omega
              have HS1 := Lib.hid hsw
              clear hsk hp hsub hrow hoff hsw hlt
              go_wp2
              go_ret
              exact ⟨rfl, HS1.out⟩
end Lk
end Go.Proofs.YtkfdoocmapjkbaaDoor
