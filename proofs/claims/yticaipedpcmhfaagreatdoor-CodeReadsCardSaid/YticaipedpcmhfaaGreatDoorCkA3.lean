/- Layer 8, the document's answer on depths: the walk. -/
import Derived.Test.YticaipedpcmhfaaGreatDoorCkA2
namespace Go.Proofs.YticaipedpcmhfaaGreatDoor
open Go.RowKit Hp
namespace Ck
variable {w w' : World}

def firstBad (code : List Cd.In) : Int := match (List.range code.length).find? (Cd.badD code) with | some k => (k : Int) | none => -1

theorem first_some {code : List Cd.In} {k : Nat} (hk : k < code.length) (h0 : ∀ j, j < k → Cd.badD code j = false) (h1 : Cd.badD code k = true) : firstBad code = k := by
  unfold firstBad; rw [Cd.find_range _ _ k hk h0 h1]
theorem ret_fb {code : List Cd.In} {z : Int} (h : firstBad code = z) : Ending.returned (.int .i64 z) = .returned (.int .i64 (firstBad code)) := by rw [h]
theorem first_none {code : List Cd.In} (h0 : ∀ j, j < code.length → Cd.badD code j = false) : firstBad code = -1 := by
  unfold firstBad; rw [Cd.find_range_none _ _ h0]

set_option maxHeartbeats 8000000 in
set_option maxRecDepth 100000 in
theorem wrong_any (v : Value) (p : Cd.Pr) (hr : RPr w v p) (hn : 1 ≤ p.code.length ∧ p.code.length ≤ 4096) (hf : ∀ i ∈ p.code, Cd.Fit p.code.length i) (hl : (p.code.getLastD ⟨0, 0⟩).op = 8 ∨ (p.code.getLastD ⟨0, 0⟩).op = 11 ∨ (p.code.getLastD ⟨0, 0⟩).op = 12) :
    Calls Tryz.prog 90 #[v] w fun e w' => e = .returned (.int .i64 (firstBad p.code)) ∧ Same [] w w' := by
  obtain ⟨kv, rfl, hk⟩ := hr
  have hww := Cd.ways_of hf hl
  obtain ⟨A, cap, rfl, k1, k2, k3⟩ := hk
  obtain ⟨b, off, rfl, hb, hc⟩ := k3 (by omega)
  unfold maxLen at k2
  obtain ⟨code, hcode⟩ : ∃ code, p.code = code := ⟨_, rfl⟩
  obtain ⟨pm, hpm⟩ : ∃ pm, p.params = pm := ⟨_, rfl⟩
  rw [hcode] at hn hf hl hww k1 hc
  rw [hcode, hpm]
  obtain ⟨n, hnl⟩ : ∃ n, code.length = n := ⟨_, rfl⟩
  have HP : Hid (∀ W, Same [] w W → RPr W (.agg #[.int .i64 pm, .slice (some ⟨b, off, none⟩) n cap]) ⟨pm, code⟩) := Lib.hid (fun W hs => ⟨_, rfl, some ⟨b, off, none⟩, cap, by rw [← hnl], k1, by unfold maxLen; exact k2, fun _ => ⟨b, off, rfl, Nat.lt_of_lt_of_le hb hs.size, fun i j hi hj => by rw [hs.cell hb (by simp)]; exact hc i j hi hj⟩⟩)
  have HC : Hid (∀ W, Same [] w W → ∀ k, k < n → W.cell? ⟨b, off + k * 2, none⟩ = some (.int .u8 (code.getD k ⟨0, 0⟩).op) ∧ W.cell? ⟨b, off + k * 2 + 1, none⟩ = some (.int .i64 (code.getD k ⟨0, 0⟩).a) ∧ b < W.heap.size) := Lib.hid (fun W hs k hk => by
    have c0 := hc k 0 (by omega) (by omega)
    have c1 := hc k 1 (by omega) (by omega)
    exact ⟨by rw [hs.cell hb (by simp)]; exact c0, by rw [hs.cell hb (by simp)]; exact c1, Nat.lt_of_lt_of_le hb hs.size⟩)
  have HF := Lib.hid hf
  have HWW := Lib.hid hww
  have HNL := Lib.hid hnl
  rw [hnl] at hn k1
  rw [hnl]
  obtain ⟨hn1, hn2⟩ := hn
  clear hc hf hl hww hcode hpm k3 hnl
  go_enter Tryz.func90, Tryz.ntmps90
  go_wp2_with (refine wpList_make_blk _ rfl (.tmp 24) (.tmp 24) 186 rfl 4 _ 1 1 Tryz.underlying186 infoBool n rfl rfl (by omega) (by unfold maxLen; omega) ?_)
  intro w1 hcb hs1
  rw [made_bools] at hcb
  have hpb1 : Blk w1 w.heap.size 68 [.int .i64 pm, .slice (some ⟨b, off, none⟩) n cap] := Blk.frame (Blk.new w _ _) hs1 (by simp)
  replace hs1 := ((Same.refl [] w).alloc _).trans hs1
  have HCB := Lib.hid hcb
  have HPB := Lib.hid hpb1
  have HS1 := Lib.hid hs1
  clear hcb hpb1 hs1
  go_wp2_with (refine wpList_make_blk _ rfl (.tmp 26) (.tmp 26) 186 rfl 4 _ 1 1 Tryz.underlying186 infoBool n rfl rfl (by omega) (by unfold maxLen; omega) ?_)
  intro w2 htb hs2
  rw [made_bools] at htb
  have HTB := Lib.hid htb
  have HS2 := Lib.hid hs2
  clear htb hs2
  go_wp2_with (refine wpList_make_blk _ rfl (.tmp 28) (.tmp 28) 169 rfl 3 _ 1 8 Tryz.underlying169 infoInt n rfl rfl (by omega) (by unfold maxLen; omega) ?_)
  intro w3 hdb hs3
  rw [made_ints] at hdb
  have hlt1 := HCB.out.lt
  have hlt2 := HTB.out.lt
  have hlt3 := hdb.lt
  obtain ⟨P, hP⟩ : ∃ P, P = w.heap.size := ⟨_, rfl⟩
  obtain ⟨C, hC⟩ : ∃ C, C = w.heap.size + 1 := ⟨_, rfl⟩
  obtain ⟨T, hT⟩ : ∃ T, T = w1.heap.size := ⟨_, rfl⟩
  obtain ⟨D, hD⟩ : ∃ D, D = w2.heap.size := ⟨_, rfl⟩
  have hWR0 : WR w w3 P C T D [.int .i64 pm, .slice (some ⟨b, off, none⟩) n cap] (List.replicate n false) (List.replicate n false) (List.replicate n 0) :=
    ⟨by rw [hP]; exact (HPB.out.frame HS2.out (by simp)).frame hs3 (by simp), by rw [hC]; exact (HCB.out.frame HS2.out (by simp)).frame hs3 (by simp), by rw [hT]; exact HTB.out.frame hs3 (by simp), by rw [hD]; exact hdb, (HS1.out.trans HS2.out).trans hs3, by omega⟩
  rw [← hC, ← hT, ← hD, ← hP]
  have hlo := hWR0.lo
  have hD3 : D < w3.heap.size := by omega
  have c0 := hWR0.cb.cell 0
  rw [bools_at _ _ (by simp; omega)] at c0
  have cz := hWR0.cb.lt
  have cf := hWR0.cb.frozen
  have pz := hWR0.pb.lt
  have HWR0 := Lib.hid hWR0
  clear hWR0 hdb hs3 HCB HPB HTB HS1 HS2 hlt1 hlt2 hlt3 hP hC hT hD w1 w2
  go_wp2_with fail
  have hW0 := (HWR0.out.setC 0)
  have hRR0 : RR ((w3.setCell ⟨C, 0, none⟩ (.bool true)).alloc (.cells #[.int .i64 0] 3)) D (.slice (some ⟨w3.heap.size, 0, none⟩) 1 1) [0] :=
    ⟨Row.full (blk_end (cs := [.int .i64 0]) (by simp)) 1 1 rfl (by unfold maxLen; omega), by simp [blk]; omega⟩
  have HW0 := Lib.hid (hW0.frame ((Same.refl [] _).alloc (.cells #[.int .i64 0] 3)) (by simp))
  have HRR0 := Lib.hid hRR0
  have HST : Hid (Cd.S1 code ((List.replicate n false).set 0 true) (List.replicate n 0) [0]) := Lib.hid (by
    obtain ⟨m, rfl⟩ : ∃ m, n = m + 1 := ⟨n - 1, by omega⟩
    exact Cd.S1.start HNL.out)
  clear hW0 hRR0 c0 cz cf pz HWR0
  go_loopg [7, 8] n (fun gk rv ki wr => ∃ (come : List Bool) (dep : List Int) (row : List Nat) (k : Nat), gk = n - k ∧ ki = .int .i64 k ∧ k ≤ row.length ∧ Cd.S1 code come dep row ∧ Cd.Done code come row k ∧ Bd (5000 * k) dep ∧ WR w wr P C T D [.int .i64 pm, .slice (some ⟨b, off, none⟩) n cap] come (List.replicate n false) dep ∧ RR wr D rv row)
  case atStart => exact ⟨_, _, [0], 0, rfl, rfl, Nat.zero_le _, HST.out, fun q hq => absurd hq (Nat.not_lt_zero _), fun i => by simp [List.getD_eq_getElem?_getD, List.getElem?_replicate]; split <;> simp, HW0.out, HRR0.out⟩
  case round =>
    obtain ⟨come, dep, row, k, rfl, rfl, hk, hst, hdone, hbd, hwr, hrr⟩ := hrel
    have hrl : row.length ≤ n := by have := hst.bf.le; rw [HNL.out] at this; exact this
    have pb0 := hwr.pb.cell 0
    have pb1 := hwr.pb.cell 1
    have pz := hwr.pb.lt
    by_cases hlt : k < row.length
    ·
      as_aux_lemma =>
        obtain ⟨g, go, gc, rfl, hgc, hg, hgcell, -⟩ := hrr.row.at_ (by omega)
        obtain ⟨i, hi⟩ : ∃ i, row.getD k 0 = i := ⟨_, rfl⟩
        have hri : wr.cell? ⟨g, go + k, none⟩ = some (.int .i64 i) := by rw [hgcell k (by omega), nats_at' _ _ hlt, hi]
        have hin : i < n ∧ come.getD i false = true := by
          have := hst.bf.inn i (by rw [← hi, List.getD, List.getElem?_eq_getElem hlt]; exact List.getElem_mem hlt)
          rwa [HNL.out] at this
        obtain ⟨hin1, hin2⟩ := hin
        have hgc2 : gc ≤ maxLen := by obtain ⟨_, _, e, _, h, _⟩ := hrr.row.form; cases e; exact h
        unfold maxLen at hgc2
        obtain ⟨rl, hrlE⟩ : ∃ rl, row.length = rl := ⟨_, rfl⟩
        have HRR := Lib.hid hrr
        have HWR := Lib.hid hwr
        have HST := Lib.hid hst
        have HDN := Lib.hid hdone
        have HBD := Lib.hid hbd
        have HI := Lib.hid hi
        have HI2 := Lib.hid hin2
        rw [hrlE] at hk hlt hrl hgc ⊢
        have HRL := Lib.hid hrlE
        clear hgcell hrr hwr hst hdone hbd hi hin2 hrlE
        go_wp2_with fail
        refine (behind_any _ ⟨pm, code⟩ (HP.out wr HWR.out.same) HF.out i (by rw [HNL.out]; exact hin1) (by rw [HNL.out]; exact hn2)).mono ?_
        rintro e w4 ⟨lv, lb, rfl, hlb1, hlb2, hlr, hs4⟩
        dsimp only at hlr
        obtain ⟨x, hx⟩ : ∃ x, code.getD i ⟨0, 0⟩ = x := ⟨_, rfl⟩
        have hfi := HF.out x (by rw [← hx]; exact Cd.getD_mem _ _ (by rw [HNL.out]; exact hin1))
        have hwr4 := HWR.out.frame hs4 (by simp)
        obtain ⟨ci0, ci1, cib⟩ := HC.out w4 hwr4.same i hin1
        rw [hx] at ci0 ci1
        have hdi := hwr4.db.cell i
        rw [ints_at' _ _ (by rw [HST.out.dl, HNL.out]; exact hin1)] at hdi
        have hdb := HBD.out i
        obtain ⟨di, hdiE⟩ : ∃ di, dep.getD i 0 = di := ⟨_, rfl⟩
        rw [hdiE] at hdi hdb
        have hdz := hwr4.db.lt
        have htl := Cd.took_le hfi
        have hpl := Cd.puts_le x
        have HTK : Hid (∀ W, Calls Tryz.prog 117 #[.agg #[.int .u8 x.op, .int .i64 x.a]] W fun e w' => e = .returned (.int .i64 (Cd.took x)) ∧ Same [] W w') := Lib.hid (fun W => took_r x hfi.op hfi.prim (by have := hfi.a; omega) (by have := hfi.a; omega))
        have HPT : Hid (∀ W, Calls Tryz.prog 118 #[.agg #[.int .u8 x.op, .int .i64 x.a]] W fun e w' => e = .returned (.int .i64 (Cd.puts x)) ∧ Same [] W w') := Lib.hid (fun W => puts_r x hfi.op)
        have hdel : Cd.delta code i = Cd.puts x - Cd.took x := by unfold Cd.delta; rw [hx]
        obtain ⟨tk, htk⟩ : ∃ tk, Cd.took x = tk := ⟨_, rfl⟩
        obtain ⟨pt, hpt⟩ : ∃ pt, Cd.puts x = pt := ⟨_, rfl⟩
        rw [htk] at HTK htl hdel
        rw [hpt] at HPT hpl hdel
        obtain ⟨xop, hxop⟩ : ∃ xop, x.op = xop := ⟨_, rfl⟩
        obtain ⟨xa, hxa⟩ : ∃ xa, x.a = xa := ⟨_, rfl⟩
        rw [hxop] at ci0 HTK HPT
        rw [hxa] at ci1 HTK HPT
        have HDEL := Lib.hid hdel
        have HLR := Lib.hid hlr
        have HS4 := Lib.hid hs4
        have HWR4 := Lib.hid hwr4
        have HDI := Lib.hid hdiE
        have p40 := hwr4.pb.cell 0
        have p41 := hwr4.pb.cell 1
        have p4z := hwr4.pb.lt
        clear hx hfi hdiE hdel htk hpt hxop hxa hlr hs4 hwr4 pb0 pb1 pz hri hg
        go_upto_region 12 with fail
        go_cut [11] (fun s11 wx => s11 = .int .i64 (di - tk + pt) ∧ Same [] w4 wx)
        case first =>
          go_region_held3 (fun W => (W.cell? ⟨P, 0, none⟩ = some (.int .i64 pm) ∧ W.cell? ⟨P, 1, none⟩ = some (.slice (some ⟨b, off, none⟩) n cap)) ∧ W.cell? ⟨D, i, none⟩ = some (.int .i64 di) ∧ W.cell? ⟨b, off + i * 2, none⟩ = some (.int .u8 xop) ∧ W.cell? ⟨b, off + i * 2 + 1, none⟩ = some (.int .i64 xa)) (go_keep) (first
            | (go_simp; go_at_call 117; refine (HTK.out _).mono ?_; rintro e wA ⟨rfl, hsa⟩; have HSA : Hid (Same [] w4 wA) := Lib.hid (Same.trans (by repeat (first | exact Same.refl _ _ | exact HSB.out | refine Same.drew ?_ | refine Same.drewN ?_ _ | refine Same.alloc ?_ _)) hsa); have p40a := (HSA.out.cell p4z (by simp)).trans p40; have p41a := (HSA.out.cell p4z (by simp)).trans p41; have dia := (HSA.out.cell hdz (by simp)).trans hdi; have c0a := (HSA.out.cell cib (by simp)).trans ci0; have c1a := (HSA.out.cell cib (by simp)).trans ci1; clear hsa)
            | (go_simp; go_at_call 118; refine (HPT.out _).mono ?_; rintro e wB ⟨rfl, hsb⟩; have HSB : Hid (Same [] w4 wB) := Lib.hid (Same.trans (by repeat (first | exact Same.refl _ _ | exact HSA.out | refine Same.drew ?_ | refine Same.drewN ?_ _ | refine Same.alloc ?_ _)) hsb); have p40b := (HSB.out.cell p4z (by simp)).trans p40; have p41b := (HSB.out.cell p4z (by simp)).trans p41; have dib := (HSB.out.cell hdz (by simp)).trans hdi; have c0b := (HSB.out.cell cib (by simp)).trans ci0; have c1b := (HSB.out.cell cib (by simp)).trans ci1; clear hsb))
          all_goals
            go_wp2_with fail
            go_meet
            refine ⟨?_, by repeat (first | exact HSB.out | exact HSA.out | refine Same.drew ?_ | refine Same.drewN ?_ _ | refine Same.alloc ?_ _)⟩
            have e1 : IntKind.i64.wrap (di - tk) = di - tk := IntWalk.i64_in _ (by omega)
            have e2 : IntKind.i64.wrap (di - tk + pt) = di - tk + pt := IntWalk.i64_in _ (by omega)
            simp only [e1, e2]
        case rest =>
          obtain ⟨rfl, hs5⟩ := hcut
          have hs45 := HS4.out.trans hs5
          have HWR5 := Lib.hid (HWR4.out.frame hs5 (by simp))
          have HRR5 := Lib.hid (HRR.out.frame hs45 (by simp))
          have HLR5 := Lib.hid (HLR.out.frame hs5 (by simp))
          have hwk : Cd.Wk code i di := by have := HST.out.wk i HI2.out; rw [HDI.out] at this; exact this
          obtain ⟨L, hLE⟩ : ∃ L, succsR code i = L := ⟨_, rfl⟩
          rw [hLE] at HLR5
          have hLm : ∀ q, q < L.length → L.getD q 0 ∈ Cd.succs code i := fun q hq => by
            rw [← succsR_mem, hLE, List.getD, List.getElem?_eq_getElem hq]; exact List.getElem_mem hq
          have hLwk : ∀ q, q < L.length → Cd.Wk code (L.getD q 0) (di - tk + pt) ∧ L.getD q 0 < n := fun q hq => by
            have h1 := hwk.step (by rw [HNL.out]; exact hin1) (hLm q hq)
            rw [HDEL.out] at h1
            have h2 := Cd.succs_in HWW.out (by rw [HNL.out]; exact hin1) _ (hLm q hq)
            rw [HNL.out] at h2
            exact ⟨by rw [show di - tk + pt = di + (pt - tk) by omega]; exact h1, h2⟩
          have hl2 : L.length ≤ 2 := by rw [← hLE]; exact succsR_len code i
          obtain ⟨LA, rfl⟩ := HLR5.out.form
          have hlbr : lb ∉ blk (Value.slice (some ⟨g, go, none⟩) rl gc) := fun hm => by
            have := HRR.out.row.lt lb hm
            omega
          have hlbz : lb < wc.heap.size := Nat.lt_of_lt_of_le hlb2 hs5.size
          have hlbD : D < lb := by
            have := HWR.out.db.lt
            omega
          have HLWK := Lib.hid hLwk
          have HLE := Lib.hid hLE
          obtain ⟨d, hd⟩ : ∃ d, di - tk + pt = d := ⟨_, rfl⟩
          have hdB : -(5000 * ((k : Int) + 1)) ≤ d ∧ d ≤ 5000 * ((k : Int) + 1) := by omega
          rw [hd] at HLWK ⊢
          have HLBR := Lib.hid hlbr
          have HLBZ := Lib.hid hlbz
          clear hs5 hs45 hwk hLE hLm hLwk hlbr hlbz hd p40 p41 p4z ci0 ci1 cib hdi hdz htl hpl hdb HTK HPT
          go_wp2_with fail
          go_loopg [7, 12] L.length (fun gk rv mj wq => ∃ (come2 : List Bool) (dep2 : List Int) (row2 : List Nat) (m : Nat), gk = L.length - m ∧ mj = .int .i64 m ∧ m ≤ L.length ∧ Cd.S1 code come2 dep2 row2 ∧ Cd.Done code come2 row2 k ∧ (∀ q, q < m → come2.getD (L.getD q 0) false = true) ∧ Bd (5000 * (k + 1)) dep2 ∧ WR w wq P C T D [.int .i64 pm, .slice (some ⟨b, off, none⟩) n cap] come2 (List.replicate n false) dep2 ∧ RR wq D rv row2 ∧ LRow wq (.slice LA L.length L.length) L lb ∧ lb ∉ blk rv ∧ lb < wq.heap.size ∧ k < row2.length ∧ row2.getD k 0 = i)
          case atStart => exact ⟨come, dep, row, 0, rfl, rfl, Nat.zero_le _, HST.out, HDN.out, fun q hq => absurd hq (Nat.not_lt_zero _), HBD.out.mono (by omega), HWR5.out, by have := HRR5.out; rw [HRL.out] at this; exact this, HLR5.out, HLBR.out, HLBZ.out, by rw [HRL.out]; exact hlt, HI.out⟩
          case round =>
            obtain ⟨come2, dep2, row2, m, rfl, rfl, hm, hst2, hdn2, hmk, hbd2, hwr2, hrr2, hlr2, hlb2, hlbz2, hk2, hi2⟩ := hrel
            have HST2 := Lib.hid hst2
            have HDN2 := Lib.hid hdn2
            have HMK := Lib.hid hmk
            have HBD2 := Lib.hid hbd2
            have HWR2 := Lib.hid hwr2
            have HRR2 := Lib.hid hrr2
            have HLR2 := Lib.hid hlr2
            have HLB2 := Lib.hid hlb2
            have HI2' := Lib.hid hi2
            have hrl2 : row2.length ≤ n := by have := hst2.bf.le; rw [HNL.out] at this; exact this
            by_cases hml : m < L.length
            · obtain ⟨rfl, hlc⟩ := hlr2.at_ hml
              obtain ⟨hjw, hjn⟩ := HLWK.out m hml
              obtain ⟨j, hj⟩ : ∃ j, L.getD m 0 = j := ⟨_, rfl⟩
              rw [hj] at hlc hjw hjn
              have hcj := hwr2.cb.cell j
              rw [bools_at _ _ (by rw [hst2.bf.len, HNL.out]; exact hjn)] at hcj
              have hdj := hwr2.db.cell j
              rw [ints_at' _ _ (by rw [hst2.dl, HNL.out]; exact hjn)] at hdj
              have hcz := hwr2.cb.lt
              have hcf := hwr2.cb.frozen
              have hdz := hwr2.db.lt
              have hdf := hwr2.db.frozen
              have hlo2 := hwr2.lo
              have q1 : lb ≠ C := by omega
              have q2 : lb ≠ D := by omega
              have q3 : C ≠ D := by omega
              have q4 : D ≠ C := by omega
              have HJ := Lib.hid hj
              have HJW := Lib.hid hjw
              obtain ⟨cj, hcjE⟩ : ∃ cj, come2.getD j false = cj := ⟨_, rfl⟩
              rw [hcjE] at hcj
              have HCJ := Lib.hid hcjE
              clear hst2 hdn2 hmk hbd2 hwr2 hlr2 hlb2 hi2 hj hjw hcjE
              cases cj
              · obtain ⟨RA, rc2, hrvf, hrc1, hrc2, _⟩ := hrr2.row.form
                subst hrvf
                have hsCD : Same [C, D] wr (((wr.setCell ⟨C, j, none⟩ (.bool true)).setCell ⟨D, j, none⟩ (.int .i64 d)).alloc (.cells #[.int .i64 j] 3)) := (((Same.refl _ _).setCell (.inl (by simp)) _).setCell (.inl (by simp)) _).alloc _
                have hD2 := hrr2.frame hsCD (fun b hb hm => by have := hrr2.hi b hb; simp at hm; omega)
                have hlr3 := HLR2.out.frame hsCD (by simp; omega)
                have hwr3 := ((HWR2.out.setC j).setD j d).frame ((Same.refl [] _).alloc (.cells #[.int .i64 j] 3)) (by simp)
                have HRR3 := Lib.hid hD2
                have HLR3 := Lib.hid hlr3
                have HWR3 := Lib.hid hwr3
                clear hrr2 hD2 hsCD hlr3 hwr3
                go_wp2_with (first | (at_builtin; refine wpList_append_row _ rfl (.tmp 91) (.tmp 96) 169 rfl 3 (.int .i64 0) 1 8 Tryz.underlying169 infoInt rfl (by decide) (.slice RA row2.length rc2) row2.length (natsV row2) rfl HRR3.out.row ⟨wr.heap.size, 0, none⟩ 1 1 [.int .i64 j] rfl rfl (cell_one_at _ _ _ (by simp)) (by intro u hu; simp at hu; subst hu; rfl) (by unfold maxLen; omega) (by omega) ?_))
                intro rv' w6 hrow hs hb
                have hrr4 := HRR3.out.push (Z := wr.heap.size + 1) (by omega) j hrow hb
                have HRR4 := Lib.hid hrr4
                have HWR4' := Lib.hid (HWR3.out.frame hs (fun x hx => HRR3.out.hi x hx))
                have HLR4 := Lib.hid (HLR3.out.frame hs HLB2.out)
                have HB4 : Hid (lb ∉ blk rv') := Lib.hid (fun hm => by
                  rcases hb lb hm with h | h
                  · exact HLB2.out h
                  · omega)
                have HZ4 : Hid (lb < w6.heap.size) := Lib.hid (by have := hs.size; simp at this; omega)
                clear hrr4 hrow hs hb
                go_wp2_with fail
                go_roundg (L.length - (m + 1))
                case measure => omega
                case rel =>
                  refine ⟨_, _, _, m + 1, rfl, by go_num, by omega, HST2.out.push (by rw [HNL.out]; exact hjn) HCJ.out HJW.out, HDN2.out.push (Nat.le_of_lt hk2) j, fun q hq => ?_, HBD2.out.set j d hdB, HWR4'.out, HRR4.out, HLR4.out, HB4.out, HZ4.out, by rw [List.length_append]; omega, ?_⟩
                  · rw [Cd.getD_setB]
                    rcases Nat.lt_or_eq_of_le (Nat.le_of_lt_succ hq) with h | h
                    · rw [HMK.out q h, Bool.or_true]
                    · subst h; rw [HJ.out]; simp [HST2.out.bf.len, HNL.out, hjn]
                  · have := HI2'.out
                    rwa [List.getD, List.getElem?_append_left hk2]
              · clear hrr2
                go_wp2_with fail
                go_roundg (L.length - (m + 1))
                case measure => omega
                case rel =>
                  refine ⟨come2, dep2, row2, m + 1, rfl, by go_num, by omega, HST2.out, HDN2.out, fun q hq => ?_, HBD2.out, HWR2.out, HRR2.out, HLR2.out, HLB2.out, hlbz2, hk2, HI2'.out⟩
                  rcases Nat.lt_or_eq_of_le (Nat.le_of_lt_succ hq) with h | h
                  · exact HMK.out q h
                  · subst h; rw [HJ.out]; exact HCJ.out
            · clear hst2 hdn2 hmk hbd2 hwr2 hrr2 hlr2 hlb2 hi2
              go_wp2_with fail
              go_roundg (n - (k + 1))
              case measure => omega
              case rel =>
                refine ⟨come2, dep2, row2, k + 1, rfl, by go_num, hk2, HST2.out, fun q hq => ?_, by have := HBD2.out; simpa using this, HWR2.out, HRR2.out⟩
                rcases Nat.lt_or_eq_of_le (Nat.le_of_lt_succ hq) with h | h
                · exact HDN2.out q h
                · subst h
                  rw [HI2'.out]
                  intro j hj
                  rw [← succsR_mem, HLE.out] at hj
                  obtain ⟨q, hq, e⟩ := List.getElem_of_mem hj
                  have e2 : L.getD q 0 = j := by rw [List.getD, List.getElem?_eq_getElem hq, Option.getD_some, e]
                  rw [← e2]; exact HMK.out q (by omega)
    · have hDone : Cd.Done code come row row.length := by rw [show row.length = k by omega]; exact hdone
      have hbd2 : Bd 25000000 dep := hbd.mono (by omega)
      have HDN := Lib.hid hDone
      have HST := Lib.hid hst
      have HBD := Lib.hid hbd2
      have HS2 : Hid (Cd.S2 code come dep (List.replicate n false) 0) := Lib.hid (by have := Cd.S2.start code come dep; rw [HNL.out] at this; exact this)
      have HWR := Lib.hid hwr
      obtain ⟨RA, rc, rfl, hrc1, hrc2, _⟩ := hrr.row.form
      unfold maxLen at hrc2
      clear hdone hbd hst hwr hrr hDone hbd2 pb0 pb1 pz
      go_wp2_with fail
      go_loopg [13] n (fun gk ki wq => ∃ (two : List Bool) (k : Nat), gk = n - k ∧ ki = .int .i64 k ∧ k ≤ n ∧ Cd.S2 code come dep two k ∧ WR w wq P C T D [.int .i64 pm, .slice (some ⟨b, off, none⟩) n cap] come two dep)
      case atStart => exact ⟨_, 0, rfl, rfl, Nat.zero_le _, HS2.out, HWR.out⟩
      case round =>
        obtain ⟨two, k2, rfl, rfl, hk2, hs2, hwr⟩ := hrel
        have pb0 := hwr.pb.cell 0
        have pb1 := hwr.pb.cell 1
        have pz := hwr.pb.lt
        by_cases hlt2 : k2 < n
        ·
          as_aux_lemma =>
            have HS2' := Lib.hid hs2
            have HWR2 := Lib.hid hwr
            clear hs2 hwr
            go_wp2_with fail
            refine (behind_any _ ⟨pm, code⟩ (HP.out wr HWR2.out.same) HF.out k2 (by rw [HNL.out]; exact hlt2) (by rw [HNL.out]; exact hn2)).mono ?_
            rintro e w4 ⟨lv, lb, rfl, hlb1, hlb2, hlr, hs4⟩
            dsimp only at hlr
            obtain ⟨x, hx⟩ : ∃ x, code.getD k2 ⟨0, 0⟩ = x := ⟨_, rfl⟩
            have hfi := HF.out x (by rw [← hx]; exact Cd.getD_mem _ _ (by rw [HNL.out]; exact hlt2))
            have HWR4 := Lib.hid (HWR2.out.frame hs4 (by simp))
            have hdb := HBD.out k2
            obtain ⟨di, hdiE⟩ : ∃ di, dep.getD k2 0 = di := ⟨_, rfl⟩
            rw [hdiE] at hdb
            have htl := Cd.took_le hfi
            have hpl := Cd.puts_le x
            have HTK : Hid (∀ W, Calls Tryz.prog 117 #[.agg #[.int .u8 x.op, .int .i64 x.a]] W fun e w' => e = .returned (.int .i64 (Cd.took x)) ∧ Same [] W w') := Lib.hid (fun W => took_r x hfi.op hfi.prim (by have := hfi.a; omega) (by have := hfi.a; omega))
            have HPT : Hid (∀ W, Calls Tryz.prog 118 #[.agg #[.int .u8 x.op, .int .i64 x.a]] W fun e w' => e = .returned (.int .i64 (Cd.puts x)) ∧ Same [] W w') := Lib.hid (fun W => puts_r x hfi.op)
            have hdel : Cd.delta code k2 = Cd.puts x - Cd.took x := by unfold Cd.delta; rw [hx]
            obtain ⟨tk, htk⟩ : ∃ tk, Cd.took x = tk := ⟨_, rfl⟩
            obtain ⟨pt, hpt⟩ : ∃ pt, Cd.puts x = pt := ⟨_, rfl⟩
            rw [htk] at HTK htl hdel
            rw [hpt] at HPT hpl hdel
            obtain ⟨xop, hxop⟩ : ∃ xop, x.op = xop := ⟨_, rfl⟩
            obtain ⟨xa, hxa⟩ : ∃ xa, x.a = xa := ⟨_, rfl⟩
            rw [hxop] at HTK HPT
            rw [hxa] at HTK HPT
            have HXC : Hid (∀ W, Same [] w W → W.cell? ⟨b, off + k2 * 2, none⟩ = some (.int .u8 xop) ∧ W.cell? ⟨b, off + k2 * 2 + 1, none⟩ = some (.int .i64 xa) ∧ b < W.heap.size) := Lib.hid (fun W h => by
              have := HC.out W h k2 hlt2
              rw [hx, hxop, hxa] at this; exact this)
            obtain ⟨L, hLE⟩ : ∃ L, succsR code k2 = L := ⟨_, rfl⟩
            rw [hLE] at hlr
            have hLm : ∀ q, q < L.length → L.getD q 0 ∈ Cd.succs code k2 := fun q hq => by
              rw [← succsR_mem, hLE, List.getD, List.getElem?_eq_getElem hq]; exact List.getElem_mem hq
            have hl2 : L.length ≤ 2 := by rw [← hLE]; exact succsR_len code k2
            obtain ⟨LA, rfl⟩ := hlr.form
            have HLM := Lib.hid hLm
            have HLE := Lib.hid hLE
            have HLR := Lib.hid hlr
            have HLB := Lib.hid hlb2
            have HDI := Lib.hid hdiE
            have HDEL := Lib.hid hdel
            have hlbD : D < lb := by have := HWR2.out.db.lt; omega
            clear hx hfi hdiE hdel htk hpt hxop hxa hlr hs4 pb0 pb1 pz hLE hLm hlb1 hlb2
            go_wp2_with fail
            go_loopg [15] L.length (fun gk mj wq => ∃ (two2 : List Bool) (m : Nat), gk = L.length - m ∧ mj = .int .i64 m ∧ m ≤ L.length ∧ Cd.S2 code come dep two2 k2 ∧ (∀ q, q < m → two2.getD (L.getD q 0) false = true ∨ dep.getD (L.getD q 0) 0 = di - tk + pt) ∧ WR w wq P C T D [.int .i64 pm, .slice (some ⟨b, off, none⟩) n cap] come two2 dep ∧ LRow wq (.slice LA L.length L.length) L lb ∧ lb < wq.heap.size)
            case atStart => exact ⟨two, 0, rfl, rfl, Nat.zero_le _, HS2'.out, fun q hq => absurd hq (Nat.not_lt_zero _), HWR4.out, HLR.out, HLB.out⟩
            case round =>
              obtain ⟨two2, m, rfl, rfl, hm, hs2, hmk, hwr, hlr, hlbz⟩ := hrel
              have HS2' := Lib.hid hs2
              have HMK := Lib.hid hmk
              have HWR5 := Lib.hid hwr
              have HLR5 := Lib.hid hlr
              obtain ⟨ci, hciE⟩ : ∃ ci, come.getD k2 false = ci := ⟨_, rfl⟩
              have hci := hwr.cb.cell k2
              rw [bools_at _ _ (by rw [HST.out.bf.len, HNL.out]; exact hlt2), hciE] at hci
              have hcz := hwr.cb.lt
              have HCI := Lib.hid hciE
              clear hciE
              by_cases hml : m < L.length
              · cases ci
                · clear hs2 hmk hwr hlr
                  go_wp2_with fail
                  go_roundg (n - (k2 + 1))
                  case measure => omega
                  case rel => exact ⟨two2, k2 + 1, rfl, by go_num, by omega, HS2'.out.next (fun h => by rw [HCI.out] at h; cases h), HWR5.out⟩
                · obtain ⟨rfl, hlc⟩ := hlr.at_ hml
                  obtain ⟨j, hj⟩ : ∃ j, L.getD m 0 = j := ⟨_, rfl⟩
                  have hjs := HLM.out m hml
                  rw [hj] at hlc hjs
                  have hjn := Cd.succs_in HWW.out (by rw [HNL.out]; exact hlt2) j hjs
                  rw [HNL.out] at hjn
                  have hdj := hwr.db.cell j
                  rw [ints_at' _ _ (by rw [HST.out.dl, HNL.out]; exact hjn)] at hdj
                  have hdi := hwr.db.cell k2
                  rw [ints_at' _ _ (by rw [HST.out.dl, HNL.out]; exact hlt2), HDI.out] at hdi
                  obtain ⟨dj, hdjE⟩ : ∃ dj, dep.getD j 0 = dj := ⟨_, rfl⟩
                  rw [hdjE] at hdj
                  have hdz := hwr.db.lt
                  obtain ⟨ci0, ci1, cib⟩ := HXC.out wr hwr.same
                  have p40 := hwr.pb.cell 0
                  have p41 := hwr.pb.cell 1
                  have p4z := hwr.pb.lt
                  have HJ := Lib.hid hj
                  have HJS := Lib.hid hjs
                  have HDJ := Lib.hid hdjE
                  clear hs2 hmk hwr hlr hj hjs hdjE
                  go_upto_region 27 with fail
                  go_cut [143] (fun s143 wx => s143 = .bool (dj != di - tk + pt) ∧ Same [] wr wx)
                  case first =>
                    go_region_held3 (fun W => (W.cell? ⟨P, 0, none⟩ = some (.int .i64 pm) ∧ W.cell? ⟨P, 1, none⟩ = some (.slice (some ⟨b, off, none⟩) n cap)) ∧ W.cell? ⟨D, k2, none⟩ = some (.int .i64 di) ∧ W.cell? ⟨D, j, none⟩ = some (.int .i64 dj) ∧ W.cell? ⟨lb, m, none⟩ = some (.int .i64 j) ∧ W.cell? ⟨b, off + k2 * 2, none⟩ = some (.int .u8 xop) ∧ W.cell? ⟨b, off + k2 * 2 + 1, none⟩ = some (.int .i64 xa)) (go_keep) (first
                      | (go_simp; go_at_call 117; refine (HTK.out _).mono ?_; rintro e wA ⟨rfl, hsa⟩; have HSA : Hid (Same [] wr wA) := Lib.hid (Same.trans (by repeat (first | exact Same.refl _ _ | exact HSB.out | refine Same.drew ?_ | refine Same.drewN ?_ _ | refine Same.alloc ?_ _)) hsa); have p40a := (HSA.out.cell p4z (by simp)).trans p40; have p41a := (HSA.out.cell p4z (by simp)).trans p41; have dia := (HSA.out.cell hdz (by simp)).trans hdi; have dja := (HSA.out.cell hdz (by simp)).trans hdj; have lca := (HSA.out.cell hlbz (by simp)).trans hlc; have c0a := (HSA.out.cell cib (by simp)).trans ci0; have c1a := (HSA.out.cell cib (by simp)).trans ci1; clear hsa)
                      | (go_simp; go_at_call 118; refine (HPT.out _).mono ?_; rintro e wB ⟨rfl, hsb⟩; have HSB : Hid (Same [] wr wB) := Lib.hid (Same.trans (by repeat (first | exact Same.refl _ _ | exact HSA.out | refine Same.drew ?_ | refine Same.drewN ?_ _ | refine Same.alloc ?_ _)) hsb); have p40b := (HSB.out.cell p4z (by simp)).trans p40; have p41b := (HSB.out.cell p4z (by simp)).trans p41; have dib := (HSB.out.cell hdz (by simp)).trans hdi; have djb := (HSB.out.cell hdz (by simp)).trans hdj; have lcb := (HSB.out.cell hlbz (by simp)).trans hlc; have c0b := (HSB.out.cell cib (by simp)).trans ci0; have c1b := (HSB.out.cell cib (by simp)).trans ci1; clear hsb))
                    all_goals
                      go_wp2_with fail
                      go_meet
                      refine ⟨?_, by repeat (first | exact HSB.out | exact HSA.out | refine Same.drew ?_ | refine Same.drewN ?_ _ | refine Same.alloc ?_ _)⟩
                      have e1 : IntKind.i64.wrap (di - tk) = di - tk := IntWalk.i64_in _ (by omega)
                      have e2 : IntKind.i64.wrap (di - tk + pt) = di - tk + pt := IntWalk.i64_in _ (by omega)
                      simp only [e1, e2]
                  case rest =>
                    obtain ⟨rfl, hs5⟩ := hcut
                    have HWR6 := Lib.hid (HWR5.out.frame hs5 (by simp))
                    have HLR6 := Lib.hid (HLR5.out.frame hs5 (by simp))
                    have hlc6 := (hs5.cell hlbz (by simp)).trans hlc
                    have hlbz6 := Nat.lt_of_lt_of_le hlbz hs5.size
                    have htj := HWR6.out.tb.cell j
                    have htz := HWR6.out.tb.lt
                    have htf := HWR6.out.tb.frozen
                    rw [bools_at _ _ (by rw [HS2'.out.len, HNL.out]; exact hjn)] at htj
                    obtain ⟨t0, ht0⟩ : ∃ t, two2.getD j false = t := ⟨_, rfl⟩
                    rw [ht0] at htj
                    have hne1 : lb ≠ T := by have := HWR6.out.lo; omega
                    obtain ⟨q, hq⟩ : ∃ q, (dj != di - tk + pt) = q := ⟨_, rfl⟩
                    have HQ := Lib.hid hq
                    rw [hq]
                    clear ht0 hs5 p40 p41 p4z ci0 ci1 cib hdi hdj hdz hlbz hlc hq htl hpl hdb HTK HPT hci hcz
                    cases q
                    · go_wp2_with fail
                      go_roundg (L.length - (m + 1))
                      case measure => omega
                      case rel =>
                        refine ⟨two2, m + 1, rfl, by go_num, by omega, HS2'.out, fun q hq => ?_, HWR6.out, HLR6.out, hlbz6⟩
                        rcases Nat.lt_or_eq_of_le (Nat.le_of_lt_succ hq) with h | h
                        · exact HMK.out q h
                        · subst h
                          right
                          rw [HJ.out, HDJ.out]
                          exact eq_of_beq (by simpa using HQ.out)
                    · go_wp2_with fail
                      go_roundg (L.length - (m + 1))
                      case measure => omega
                      case rel =>
                        have hw1 := HST.out.wk k2 HCI.out
                        have hTwo : Cd.Two code j := by
                          have h1 := hw1.step (by rw [HNL.out]; exact hlt2) HJS.out
                          rw [HDI.out, HDEL.out] at h1
                          have h2 := HST.out.wk j (HST.out.all HDN.out h1)
                          rw [HDJ.out] at h2
                          refine ⟨_, _, fun e => ?_, h1, h2⟩
                          have := HQ.out
                          rw [bne_iff_ne] at this
                          omega
                        refine ⟨two2.set j true, m + 1, rfl, by go_num, by omega, HS2'.out.mark hTwo, fun q hq => ?_, HWR6.out.setT j, HLR6.out.frame ((Same.refl [T] _).setCell (.inl (by simp)) _) (by simpa using hne1), by simpa using hlbz6⟩
                        rw [Cd.getD_setB]
                        rcases Nat.lt_or_eq_of_le (Nat.le_of_lt_succ hq) with h | h
                        · rcases HMK.out q h with h | h
                          · left; rw [h, Bool.or_true]
                          · exact .inr h
                        · subst h; left; rw [HJ.out]; simp [HS2'.out.len, HNL.out, hjn]
              · clear hs2 hmk hwr hlr
                go_wp2_with fail
                go_roundg (n - (k2 + 1))
                case measure => omega
                case rel =>
                  refine ⟨two2, k2 + 1, rfl, by go_num, by omega, HS2'.out.next (fun _ j hj => ?_), HWR5.out⟩
                  rw [← succsR_mem, HLE.out] at hj
                  obtain ⟨q, hq, e⟩ := List.getElem_of_mem hj
                  have e2 : L.getD q 0 = j := by rw [List.getD, List.getElem?_eq_getElem hq, Option.getD_some, e]
                  have := HMK.out q (by omega)
                  rw [e2] at this
                  rcases this with h | h
                  · exact .inl h
                  · right; rw [h, HDI.out, HDEL.out]; omega
        · have hs2n : Cd.S2 code come dep two n := by rw [show n = k2 by omega]; exact hs2
          have HS2' := Lib.hid hs2n
          have HWR2 := Lib.hid hwr
          clear hs2 hwr hs2n pb0 pb1 pz
          go_wp2_with fail
          go_loopg [7, 16] n (fun gk rv ki wq => ∃ (row : List Nat) (k : Nat), gk = n - k ∧ ki = .int .i64 k ∧ k ≤ n ∧ Cd.Cf two row k ∧ WR w wq P C T D [.int .i64 pm, .slice (some ⟨b, off, none⟩) n cap] come two dep ∧ RR wq D rv row)
          case atStart => exact ⟨[], 0, rfl, rfl, Nat.zero_le _, Cd.Cf.start two, HWR2.out, ⟨Row.nil _ _ _, by simp [blk]⟩⟩
          case round =>
            obtain ⟨row3, k3, rfl, rfl, hk3, hcf, hwr, hrr⟩ := hrel
            have hle3 := hcf.le
            obtain ⟨RA3, rc3, rfl, hrc3, hrc4, _⟩ := hrr.row.form
            unfold maxLen at hrc4
            have HCF := Lib.hid hcf
            have HWR3 := Lib.hid hwr
            have HRR3 := Lib.hid hrr
            have htz := hwr.tb.lt
            have hDz := hwr.db.lt
            by_cases hlt3 : k3 < n
            ·
              as_aux_lemma =>
                have htk := hwr.tb.cell k3
                rw [bools_at _ _ (by rw [HS2'.out.len, HNL.out]; exact hlt3)] at htk
                obtain ⟨t3, ht3⟩ : ∃ t, two.getD k3 false = t := ⟨_, rfl⟩
                rw [ht3] at htk
                have HT3 := Lib.hid ht3
                have hrow := hrr.row
                have HROW := Lib.hid hrow
                clear hcf hwr hrr ht3 hrow
                cases t3
                · go_wp2_with fail
                  go_roundg (n - (k3 + 1))
                  case measure => omega
                  case rel => exact ⟨row3, k3 + 1, rfl, by go_num, by omega, HCF.out.skip HT3.out, HWR3.out, HRR3.out⟩
                · go_wp2_with (first | (at_builtin; refine wpList_append_row _ rfl (.tmp 159) (.tmp 161) 169 rfl 3 (.int .i64 0) 1 8 Tryz.underlying169 infoInt rfl (by decide) (.slice RA3 row3.length rc3) row3.length (natsV row3) rfl (HROW.out.alloc _) ⟨wr.heap.size, 0, none⟩ 1 1 [.int .i64 k3] rfl rfl (cell_one_at _ _ _ rfl) (by intro u hu; simp at hu; subst hu; rfl) (by unfold maxLen; omega) (by omega) ?_))
                  intro rv' w6 hrow hs hb
                  have HRR4 := Lib.hid ((HRR3.out.frame ((Same.refl [] _).alloc (.cells #[.int .i64 k3] 3)) (fun _ _ h => by cases h)).push (Z := wr.heap.size + 1) (by omega) k3 hrow hb)
                  have HWR4 := Lib.hid ((HWR3.out.frame ((Same.refl [] _).alloc (.cells #[.int .i64 k3] 3)) (by simp)).frame hs (fun x hx => HRR3.out.hi x hx))
                  clear hrow hs hb
                  go_wp2_with fail
                  go_roundg (n - (k3 + 1))
                  case measure => omega
                  case rel => exact ⟨_, k3 + 1, rfl, by go_num, by omega, HCF.out.push HT3.out, HWR4.out, HRR4.out⟩
            · have hbf : Cd.Bf n two row3 := by
                have h : Cd.Cf two row3 n := by rw [show n = k3 by omega]; exact hcf
                exact h.bf (by rw [HS2'.out.len, HNL.out])
              have HBF := Lib.hid hbf
              clear hcf hwr hrr hbf
              go_wp2_with fail
              go_loopg [7, 17] n (fun gk rv ki wq => ∃ (two : List Bool) (row : List Nat) (k : Nat), gk = n - k ∧ ki = .int .i64 k ∧ k ≤ row.length ∧ Cd.S2 code come dep two n ∧ Cd.Bf n two row ∧ Cd.Done code two row k ∧ WR w wq P C T D [.int .i64 pm, .slice (some ⟨b, off, none⟩) n cap] come two dep ∧ RR wq D rv row)
              case atStart => exact ⟨two, row3, 0, rfl, rfl, Nat.zero_le _, HS2'.out, HBF.out, fun q hq => absurd hq (Nat.not_lt_zero _), HWR3.out, HRR3.out⟩
              case round =>
                obtain ⟨two, row, k, rfl, rfl, hk, hs2, hbf, hdn, hwr, hrr⟩ := hrel
                have hrl := hbf.le
                have pb0 := hwr.pb.cell 0
                have pb1 := hwr.pb.cell 1
                have pz := hwr.pb.lt
                have HS2' := Lib.hid hs2
                have HBF := Lib.hid hbf
                have HDN2 := Lib.hid hdn
                have HWR := Lib.hid hwr
                have HRR := Lib.hid hrr
                by_cases hlt : k < row.length
                ·
                  as_aux_lemma =>
                    obtain ⟨g, go, gc, rfl, hgc, hg, hgcell, -⟩ := hrr.row.at_ (by omega)
                    obtain ⟨i, hi⟩ : ∃ i, row.getD k 0 = i := ⟨_, rfl⟩
                    have hri : wr.cell? ⟨g, go + k, none⟩ = some (.int .i64 i) := by rw [hgcell k (by omega), nats_at' _ _ hlt, hi]
                    have hin := hbf.inn i (by rw [← hi, List.getD, List.getElem?_eq_getElem hlt]; exact List.getElem_mem hlt)
                    obtain ⟨hin1, hin2⟩ := hin
                    have hgc2 : gc ≤ maxLen := by obtain ⟨_, _, e, _, h, _⟩ := hrr.row.form; cases e; exact h
                    unfold maxLen at hgc2
                    obtain ⟨rl, hrlE⟩ : ∃ rl, row.length = rl := ⟨_, rfl⟩
                    have HI := Lib.hid hi
                    have HI2 := Lib.hid hin2
                    rw [hrlE] at hk hlt hrl hgc ⊢
                    have HRL := Lib.hid hrlE
                    obtain ⟨L, hLE⟩ : ∃ L, succsR code i = L := ⟨_, rfl⟩
                    have HBH : Hid (∀ W, Same [] wr W → Calls Tryz.prog 116 #[.agg #[.int .i64 pm, .slice (some ⟨b, off, none⟩) n cap], .int .i64 i] W fun e w' => ∃ lv b, e = .returned lv ∧ W.heap.size ≤ b ∧ b < w'.heap.size ∧ LRow w' lv L b ∧ Same [] W w') := Lib.hid (fun W h => by
                      have := behind_any (w := W) _ ⟨pm, code⟩ (HP.out W (HWR.out.same.trans h)) HF.out i (by rw [HNL.out]; exact hin1) (by rw [HNL.out]; exact hn2)
                      rw [hLE] at this
                      exact this)
                    have HLE := Lib.hid hLE
                    clear hgcell hrr hwr hs2 hbf hdn hi hin2 hrlE hLE
                    go_upto_region 38 with fail
                    go_cut [18] (fun s18 wx => ∃ lb, wr.heap.size ≤ lb ∧ lb < wx.heap.size ∧ LRow wx s18 L lb ∧ Same [] wr wx)
                    case first =>
                      go_region_held3 (fun W => (W.cell? ⟨P, 0, none⟩ = some (.int .i64 pm) ∧ W.cell? ⟨P, 1, none⟩ = some (.slice (some ⟨b, off, none⟩) n cap)) ∧ W.cell? ⟨g, go + k, none⟩ = some (.int .i64 i)) (go_keep) (first
                        | (go_simp; go_at_call 116; refine (HBH.out _ (by repeat (first | exact Same.refl _ _ | refine Same.drew ?_ | refine Same.drewN ?_ _ | refine Same.alloc ?_ _))).mono ?_; rintro e wA ⟨lv, lb, rfl, hlb1, hlb2, hlr, hsa⟩; have HLR := Lib.hid hlr; have HSA : Hid (Same [] wr wA) := Lib.hid (Same.trans (by repeat (first | exact Same.refl _ _ | refine Same.drew ?_ | refine Same.drewN ?_ _ | refine Same.alloc ?_ _)) hsa); have p40a := (HSA.out.cell pz (by simp)).trans pb0; have p41a := (HSA.out.cell pz (by simp)).trans pb1; have gca := (HSA.out.cell hg (by simp)).trans hri; clear hsa hlr))
                      all_goals
                        go_wp2_with fail
                        go_meet
                        refine ⟨lb, by simpa using hlb1, by simpa using hlb2, HLR.out.frame (F := []) (by repeat (first | exact Same.refl _ _ | refine Same.drew ?_ | refine Same.drewN ?_ _ | refine Same.alloc ?_ _)) (fun h => by cases h), by repeat (first | exact HSA.out | refine Same.drew ?_ | refine Same.drewN ?_ _ | refine Same.alloc ?_ _)⟩
                    case rest =>
                      obtain ⟨lb, hlb1, hlb2, hlr, hs5⟩ := hcut
                      obtain ⟨LA, rfl⟩ := hlr.form
                      have hLm : ∀ q, q < L.length → L.getD q 0 ∈ Cd.succs code i := fun q hq => by
                        rw [← succsR_mem, HLE.out, List.getD, List.getElem?_eq_getElem hq]; exact List.getElem_mem hq
                      have hl2 : L.length ≤ 2 := by rw [← HLE.out]; exact succsR_len code i
                      have hlbr : lb ∉ blk (Value.slice (some ⟨g, go, none⟩) rl gc) := fun hm => by
                        have := HRR.out.row.lt lb hm
                        omega
                      have hlbD : D < lb := by have := HWR.out.db.lt; omega
                      have HLM := Lib.hid hLm
                      have HLR := Lib.hid hlr
                      have HLBR := Lib.hid hlbr
                      have HLBZ := Lib.hid hlb2
                      have HWR5 := Lib.hid (HWR.out.frame hs5 (by simp))
                      have HRR5 := Lib.hid (HRR.out.frame hs5 (by simp))
                      have htwoi := HS2'.out.ok i HI2.out
                      have HTWO := Lib.hid htwoi
                      clear hlr hLm hlbr hlb1 hlb2 hs5 htwoi pb0 pb1 pz hri hg
                      go_wp2_with fail
                      go_loopg [7, 19] L.length (fun gk rv mj wq => ∃ (two2 : List Bool) (row2 : List Nat) (m : Nat), gk = L.length - m ∧ mj = .int .i64 m ∧ m ≤ L.length ∧ Cd.S2 code come dep two2 n ∧ Cd.Bf n two2 row2 ∧ Cd.Done code two2 row2 k ∧ (∀ q, q < m → two2.getD (L.getD q 0) false = true) ∧ WR w wq P C T D [.int .i64 pm, .slice (some ⟨b, off, none⟩) n cap] come two2 dep ∧ RR wq D rv row2 ∧ LRow wq (.slice LA L.length L.length) L lb ∧ lb ∉ blk rv ∧ lb < wq.heap.size ∧ k < row2.length ∧ row2.getD k 0 = i)
                      case atStart => exact ⟨two, row, 0, rfl, rfl, Nat.zero_le _, HS2'.out, HBF.out, HDN2.out, fun q hq => absurd hq (Nat.not_lt_zero _), HWR5.out, by have := HRR5.out; rw [HRL.out] at this; exact this, HLR.out, HLBR.out, HLBZ.out, by rw [HRL.out]; exact hlt, HI.out⟩
                      case round =>
                        obtain ⟨two2, row2, m, rfl, rfl, hm, hs2, hbf, hdn2, hmk, hwr2, hrr2, hlr2, hlb2, hlbz2, hk2, hi2⟩ := hrel
                        have HS3 := Lib.hid hs2
                        have HBF2 := Lib.hid hbf
                        have HDN3 := Lib.hid hdn2
                        have HMK := Lib.hid hmk
                        have HWR3 := Lib.hid hwr2
                        have HRR2 := Lib.hid hrr2
                        have HLR2 := Lib.hid hlr2
                        have HLB2 := Lib.hid hlb2
                        have HI2' := Lib.hid hi2
                        have hrl2 : row2.length ≤ n := hbf.le
                        by_cases hml : m < L.length
                        · obtain ⟨rfl, hlc⟩ := hlr2.at_ hml
                          have hjs := HLM.out m hml
                          obtain ⟨j, hj⟩ : ∃ j, L.getD m 0 = j := ⟨_, rfl⟩
                          rw [hj] at hlc hjs
                          have hjn := Cd.succs_in HWW.out (by rw [HNL.out]; exact hin1) j hjs
                          rw [HNL.out] at hjn
                          have htj := hwr2.tb.cell j
                          rw [bools_at _ _ (by rw [hbf.len]; exact hjn)] at htj
                          have htz2 := hwr2.tb.lt
                          have htf := hwr2.tb.frozen
                          have hDz2 := hwr2.db.lt
                          have hlo2 := hwr2.lo
                          have q1 : lb ≠ T := by omega
                          have HJ := Lib.hid hj
                          have HTJ : Hid (Cd.Two code j) := Lib.hid (HTWO.out.step (by rw [HNL.out]; exact hin1) hjs)
                          obtain ⟨tj, htjE⟩ : ∃ tj, two2.getD j false = tj := ⟨_, rfl⟩
                          rw [htjE] at htj
                          have HTJE := Lib.hid htjE
                          clear hs2 hbf hdn2 hmk hwr2 hlr2 hlb2 hi2 hj hjs htjE
                          cases tj
                          · obtain ⟨RA, rc2, hrvf, hrc1, hrc2, _⟩ := hrr2.row.form
                            subst hrvf
                            have hsT : Same [T] wr ((wr.setCell ⟨T, j, none⟩ (.bool true)).alloc (.cells #[.int .i64 j] 3)) := ((Same.refl _ _).setCell (.inl (by simp)) _).alloc _
                            have HRR3 := Lib.hid (hrr2.frame hsT (fun b hb hm => by have := hrr2.hi b hb; simp at hm; omega))
                            have HLR3 := Lib.hid (HLR2.out.frame hsT (by simp; omega))
                            have HWR4 := Lib.hid ((HWR3.out.setT j).frame ((Same.refl [] _).alloc (.cells #[.int .i64 j] 3)) (by simp))
                            clear hrr2 hsT
                            go_wp2_with (first | (at_builtin; refine wpList_append_row _ rfl (.tmp 195) (.tmp 200) 169 rfl 3 (.int .i64 0) 1 8 Tryz.underlying169 infoInt rfl (by decide) (.slice RA row2.length rc2) row2.length (natsV row2) rfl HRR3.out.row ⟨wr.heap.size, 0, none⟩ 1 1 [.int .i64 j] rfl rfl (cell_one_at _ _ _ (by simp)) (by intro u hu; simp at hu; subst hu; rfl) (by unfold maxLen; omega) (by omega) ?_))
                            intro rv' w6 hrow hs hb
                            have HRR4 := Lib.hid (HRR3.out.push (Z := wr.heap.size + 1) (by omega) j hrow hb)
                            have HWR5' := Lib.hid (HWR4.out.frame hs (fun x hx => HRR3.out.hi x hx))
                            have HLR4 := Lib.hid (HLR3.out.frame hs HLB2.out)
                            have HB4 : Hid (lb ∉ blk rv') := Lib.hid (fun hm => by
                              rcases hb lb hm with h | h
                              · exact HLB2.out h
                              · omega)
                            have HZ4 : Hid (lb < w6.heap.size) := Lib.hid (by have := hs.size; simp at this; omega)
                            clear hrow hs hb
                            go_wp2_with fail
                            go_roundg (L.length - (m + 1))
                            case measure => omega
                            case rel =>
                              refine ⟨_, _, m + 1, rfl, by go_num, by omega, HS3.out.mark HTJ.out, HBF2.out.push hjn HTJE.out, HDN3.out.push (Nat.le_of_lt hk2) j, fun q hq => ?_, HWR5'.out, HRR4.out, HLR4.out, HB4.out, HZ4.out, by rw [List.length_append]; omega, ?_⟩
                              · rw [Cd.getD_setB]
                                rcases Nat.lt_or_eq_of_le (Nat.le_of_lt_succ hq) with h | h
                                · rw [HMK.out q h, Bool.or_true]
                                · subst h; rw [HJ.out]; simp [HBF2.out.len, hjn]
                              · have := HI2'.out
                                rwa [List.getD, List.getElem?_append_left hk2]
                          · clear hrr2
                            go_wp2_with fail
                            go_roundg (L.length - (m + 1))
                            case measure => omega
                            case rel =>
                              refine ⟨two2, row2, m + 1, rfl, by go_num, by omega, HS3.out, HBF2.out, HDN3.out, fun q hq => ?_, HWR3.out, HRR2.out, HLR2.out, HLB2.out, hlbz2, hk2, HI2'.out⟩
                              rcases Nat.lt_or_eq_of_le (Nat.le_of_lt_succ hq) with h | h
                              · exact HMK.out q h
                              · subst h; rw [HJ.out]; exact HTJE.out
                        · clear hs2 hbf hdn2 hmk hwr2 hrr2 hlr2 hlb2 hi2
                          go_wp2_with fail
                          go_roundg (n - (k + 1))
                          case measure => omega
                          case rel =>
                            refine ⟨two2, row2, k + 1, rfl, by go_num, hk2, HS3.out, HBF2.out, fun q hq => ?_, HWR3.out, HRR2.out⟩
                            rcases Nat.lt_or_eq_of_le (Nat.le_of_lt_succ hq) with h | h
                            · exact HDN3.out q h
                            · subst h
                              rw [HI2'.out]
                              intro j hj
                              rw [← succsR_mem, HLE.out] at hj
                              obtain ⟨q, hq, e⟩ := List.getElem_of_mem hj
                              have e2 : L.getD q 0 = j := by rw [List.getD, List.getElem?_eq_getElem hq, Option.getD_some, e]
                              rw [← e2]; exact HMK.out q (by omega)
                · have hDone : Cd.Done code two row row.length := by rw [show row.length = k by omega]; exact hdn
                  have HOK := Lib.hid (Cd.ref_ok HWW.out HST.out HDN.out (by rw [HNL.out]; exact HS2'.out) (by rw [HNL.out]; exact HBF.out) hDone)
                  obtain ⟨RA, rc, rfl, hrc1, hrc2, _⟩ := hrr.row.form
                  unfold maxLen at hrc2
                  clear hs2 hbf hdn hwr hrr hDone pb0 pb1 pz
                  go_wp2_with fail
                  go_loopg [20] n (fun gk ki wq => ∃ (k : Nat), gk = n - k ∧ ki = .int .i64 k ∧ k ≤ n ∧ (∀ q, q < k → Cd.badD code q = false) ∧ WR w wq P C T D [.int .i64 pm, .slice (some ⟨b, off, none⟩) n cap] come two dep)
                  case atStart => exact ⟨0, rfl, rfl, Nat.zero_le _, fun q hq => absurd hq (Nat.not_lt_zero _), HWR.out⟩
                  case round =>
                    obtain ⟨k, rfl, rfl, hk, hno, hwr⟩ := hrel
                    have HNO := Lib.hid hno
                    have HWR := Lib.hid hwr
                    by_cases hlt : k < n
                    ·
                      as_aux_lemma =>
                        obtain ⟨x, hx⟩ : ∃ x, code.getD k ⟨0, 0⟩ = x := ⟨_, rfl⟩
                        have hfi := HF.out x (by rw [← hx]; exact Cd.getD_mem _ _ (by rw [HNL.out]; exact hlt))
                        obtain ⟨ci0, ci1, cib⟩ := HC.out wr hwr.same k hlt
                        rw [hx] at ci0 ci1
                        have hbad : (!come.getD k false || two.getD k false || decide (dep.getD k 0 < Cd.took x) || decide (255 < dep.getD k 0)) = Cd.badD code k := by
                          have := Cd.bad_same HWW.out (by rw [HNL.out]; exact hn1) HOK.out k (by rw [HNL.out]; exact hlt)
                          unfold Cd.badR at this
                          rw [hx] at this
                          exact this
                        have hck := hwr.cb.cell k
                        rw [bools_at _ _ (by rw [HST.out.bf.len, HNL.out]; exact hlt)] at hck
                        have htk := hwr.tb.cell k
                        rw [bools_at _ _ (by rw [HBF.out.len]; exact hlt)] at htk
                        have hdk := hwr.db.cell k
                        rw [ints_at' _ _ (by rw [HST.out.dl, HNL.out]; exact hlt)] at hdk
                        have hcz := hwr.cb.lt
                        have htz3 := hwr.tb.lt
                        have hdz := hwr.db.lt
                        have p40 := hwr.pb.cell 0
                        have p41 := hwr.pb.cell 1
                        have p4z := hwr.pb.lt
                        have HTK : Hid (∀ W, Calls Tryz.prog 117 #[.agg #[.int .u8 x.op, .int .i64 x.a]] W fun e w' => e = .returned (.int .i64 (Cd.took x)) ∧ Same [] W w') := Lib.hid (fun W => took_r x hfi.op hfi.prim (by have := hfi.a; omega) (by have := hfi.a; omega))
                        obtain ⟨ck, hckE⟩ : ∃ c, come.getD k false = c := ⟨_, rfl⟩
                        obtain ⟨tw, htwE⟩ : ∃ c, two.getD k false = c := ⟨_, rfl⟩
                        obtain ⟨dk, hdkE⟩ : ∃ c, dep.getD k 0 = c := ⟨_, rfl⟩
                        obtain ⟨tk, htkE⟩ : ∃ c, Cd.took x = c := ⟨_, rfl⟩
                        obtain ⟨xop, hxop⟩ : ∃ xop, x.op = xop := ⟨_, rfl⟩
                        obtain ⟨xa, hxa⟩ : ∃ xa, x.a = xa := ⟨_, rfl⟩
                        rw [hckE] at hck
                        rw [htwE] at htk
                        rw [hdkE] at hdk
                        rw [hckE, htwE, hdkE, htkE] at hbad
                        rw [hxop, hxa, htkE] at HTK
                        rw [hxop] at ci0
                        rw [hxa] at ci1
                        obtain ⟨bd, hbdE⟩ : ∃ c, Cd.badD code k = c := ⟨_, rfl⟩
                        rw [hbdE] at hbad
                        have HBDE := Lib.hid hbdE
                        have HBAD := Lib.hid hbad
                        clear hx hfi hbad hckE htwE hdkE htkE hxop hxa hbdE hno hwr
                        go_upto_region 48 with fail
                        go_cut [237] (fun s237 wx => s237 = .bool bd ∧ Same [] wr wx)
                        case first =>
                          cases ck
                          · have e : bd = true := by have := HBAD.out; simpa using this.symm
                            subst e
                            go_quiet (fail)
                            go_wp2_with fail
                            go_meet
                            exact ⟨rfl, (Same.refl _ _).drewN _⟩
                          · cases tw
                            · have e : bd = (decide (dk < tk) || decide (255 < dk)) := by have := HBAD.out; simpa using this.symm
                              subst e
                              by_cases c1 : dk < tk
                              · have hdt : decide (dk < tk) = true := decide_eq_true c1
                                clear c1
                                refine wp_region_held_drew (S := fun W => (W.cell? ⟨P, 0, none⟩ = some (.int .i64 pm) ∧ W.cell? ⟨P, 1, none⟩ = some (.slice (some ⟨b, off, none⟩) n cap)) ∧ W.cell? ⟨C, k, none⟩ = some (.bool true) ∧ W.cell? ⟨T, k, none⟩ = some (.bool false) ∧ W.cell? ⟨D, k, none⟩ = some (.int .i64 dk) ∧ W.cell? ⟨b, off + k * 2, none⟩ = some (.int .u8 xop) ∧ W.cell? ⟨b, off + k * 2 + 1, none⟩ = some (.int .i64 xa)) (by kernel_rfl) ?_ (fun hHeld => ?_)
                                · go_keep
                                refine wpAnyH_take (i := 0) (v := ?_) rfl (by kernel_rfl) (by kernel_rfl) (by kernel_rfl) (fun _ _ _ h => h) (Or.inl ⟨by rfl, ?_⟩) (by assumption) ?_
                                rotate_left
                                · intro w hSw; (try dsimp only at hSw); simp only [List.getElem_toArray, List.getElem_cons_zero]; go_simp; (try with_reducible rfl)
                                simp only [Act.put, List.getElem_toArray, List.getElem_cons_zero, List.setIfInBounds_toArray, List.set_cons_zero, List.set_cons_succ]
                                refine wpAnyH_take (i := 1) (v := ?_) rfl (by kernel_rfl) (by kernel_rfl) (by kernel_rfl) (fun _ _ _ h => h) (Or.inl ⟨by rfl, ?_⟩) (by assumption) ?_
                                rotate_left
                                · intro w hSw; (try dsimp only at hSw); simp only [List.getElem_toArray, List.getElem_cons_zero, List.getElem_cons_succ]; go_simp; (try with_reducible rfl)
                                simp only [Act.put, List.getElem_toArray, List.getElem_cons_zero, List.getElem_cons_succ, List.setIfInBounds_toArray, List.set_cons_zero, List.set_cons_succ]
                                refine wpAnyH_take (i := 2) (v := ?_) rfl (by kernel_rfl) (by kernel_rfl) (by kernel_rfl) (fun _ _ _ h => h) (Or.inl ⟨by rfl, ?_⟩) (by assumption) ?_
                                rotate_left
                                · intro w hSw; (try dsimp only at hSw); simp only [List.getElem_toArray, List.getElem_cons_zero, List.getElem_cons_succ]; go_simp; (try with_reducible rfl)
                                simp only [Act.put, List.getElem_toArray, List.getElem_cons_zero, List.getElem_cons_succ, List.setIfInBounds_toArray, List.set_cons_zero, List.set_cons_succ]
                                refine wpAnyH_take (i := 3) (v := ?_) rfl (by kernel_rfl) (by kernel_rfl) (by kernel_rfl) (fun _ _ _ h => h) (Or.inl ⟨by rfl, ?_⟩) (by assumption) ?_
                                rotate_left
                                · intro w hSw; (try dsimp only at hSw); simp only [List.getElem_toArray, List.getElem_cons_zero, List.getElem_cons_succ]; go_simp; (try with_reducible rfl)
                                simp only [Act.put, List.getElem_toArray, List.getElem_cons_zero, List.getElem_cons_succ, List.setIfInBounds_toArray, List.set_cons_zero, List.set_cons_succ]
                                refine wpAnyH_take (i := 4) (v := ?_) rfl (by kernel_rfl) (by kernel_rfl) (by kernel_rfl) (fun _ _ _ h => h) (Or.inl ⟨by rfl, ?_⟩) (by assumption) ?_
                                rotate_left
                                · intro w hSw; (try dsimp only at hSw); simp only [List.getElem_toArray, List.getElem_cons_zero, List.getElem_cons_succ]; go_simp; (try with_reducible rfl)
                                simp only [Act.put, List.getElem_toArray, List.getElem_cons_zero, List.getElem_cons_succ, List.setIfInBounds_toArray, List.set_cons_zero, List.set_cons_succ]
                                refine wpAnyH_take (i := 5) (v := ?_) rfl (by kernel_rfl) (by kernel_rfl) (by kernel_rfl) (fun _ _ _ h => h) (Or.inl ⟨by rfl, ?_⟩) (by assumption) ?_
                                rotate_left
                                · intro w hSw; (try dsimp only at hSw); simp only [List.getElem_toArray, List.getElem_cons_zero, List.getElem_cons_succ]; go_simp; (try with_reducible rfl)
                                simp only [Act.put, List.getElem_toArray, List.getElem_cons_zero, List.getElem_cons_succ, List.setIfInBounds_toArray, List.set_cons_zero, List.set_cons_succ]
                                refine wpAnyH_take (i := 6) (v := ?_) rfl (by kernel_rfl) (by kernel_rfl) (by kernel_rfl) (fun _ _ _ h => h) (Or.inl ⟨by rfl, ?_⟩) (by assumption) ?_
                                rotate_left
                                · intro w hSw; (try dsimp only at hSw); simp only [List.getElem_toArray, List.getElem_cons_zero, List.getElem_cons_succ]; go_simp; (try with_reducible rfl)
                                simp only [Act.put, List.getElem_toArray, List.getElem_cons_zero, List.getElem_cons_succ, List.setIfInBounds_toArray, List.set_cons_zero, List.set_cons_succ]
                                refine wpAnyH_take (i := 7) (v := ?_) rfl (by kernel_rfl) (by kernel_rfl) (by kernel_rfl) (fun _ _ _ h => h) (Or.inl ⟨by rfl, ?_⟩) (by assumption) ?_
                                rotate_left
                                · intro w hSw; (try dsimp only at hSw); simp only [List.getElem_toArray, List.getElem_cons_zero, List.getElem_cons_succ]; go_simp; (try with_reducible rfl)
                                simp only [Act.put, List.getElem_toArray, List.getElem_cons_zero, List.getElem_cons_succ, List.setIfInBounds_toArray, List.set_cons_zero, List.set_cons_succ]
                                refine wpAnyH_take (i := 8) (v := ?_) rfl (by kernel_rfl) (by kernel_rfl) (by kernel_rfl) (fun _ _ _ h => h) (Or.inl ⟨by rfl, ?_⟩) (by assumption) ?_
                                rotate_left
                                · intro w hSw; (try dsimp only at hSw); simp only [List.getElem_toArray, List.getElem_cons_zero, List.getElem_cons_succ]; go_simp; (try with_reducible rfl)
                                simp only [Act.put, List.getElem_toArray, List.getElem_cons_zero, List.getElem_cons_succ, List.setIfInBounds_toArray, List.set_cons_zero, List.set_cons_succ]
                                refine wpAnyH_take (i := 9) (v := ?_) rfl (by kernel_rfl) (by kernel_rfl) (by kernel_rfl) (fun _ _ _ h => h) (Or.inl ⟨by rfl, ?_⟩) (by assumption) ?_
                                rotate_left
                                · intro w hSw; (try dsimp only at hSw); simp only [List.getElem_toArray, List.getElem_cons_zero, List.getElem_cons_succ]; go_simp; (try with_reducible rfl)
                                simp only [Act.put, List.getElem_toArray, List.getElem_cons_zero, List.getElem_cons_succ, List.setIfInBounds_toArray, List.set_cons_zero, List.set_cons_succ]
                                refine wpAnyH_take (i := 10) (v := ?_) rfl (by kernel_rfl) (by kernel_rfl) (by kernel_rfl) (fun _ _ _ h => h) (Or.inl ⟨by rfl, ?_⟩) (by assumption) ?_
                                rotate_left
                                · intro w hSw; (try dsimp only at hSw); simp only [List.getElem_toArray, List.getElem_cons_zero, List.getElem_cons_succ]; go_simp; (try with_reducible rfl)
                                simp only [Act.put, List.getElem_toArray, List.getElem_cons_zero, List.getElem_cons_succ, List.setIfInBounds_toArray, List.set_cons_zero, List.set_cons_succ]
                                refine wpAnyH_take (i := 11) (v := ?_) rfl (by kernel_rfl) (by kernel_rfl) (by kernel_rfl) (fun _ _ _ h => h) (Or.inl ⟨by rfl, ?_⟩) (by assumption) ?_
                                rotate_left
                                · intro w hSw; (try dsimp only at hSw); simp only [List.getElem_toArray, List.getElem_cons_zero, List.getElem_cons_succ]; go_simp; (try with_reducible rfl)
                                simp only [Act.put, List.getElem_toArray, List.getElem_cons_zero, List.getElem_cons_succ, List.setIfInBounds_toArray, List.set_cons_zero, List.set_cons_succ]
                                refine wpAnyH_take (i := 12) (v := ?_) rfl (by kernel_rfl) (by kernel_rfl) (by kernel_rfl) (fun _ _ _ h => h) (Or.inl ⟨by rfl, ?_⟩) (by assumption) ?_
                                rotate_left
                                · intro w hSw; (try dsimp only at hSw); simp only [List.getElem_toArray, List.getElem_cons_zero, List.getElem_cons_succ]; go_simp; (try with_reducible rfl)
                                simp only [Act.put, List.getElem_toArray, List.getElem_cons_zero, List.getElem_cons_succ, List.setIfInBounds_toArray, List.set_cons_zero, List.set_cons_succ]
                                refine wpAnyH_take (i := 13) (v := ?_) rfl (by kernel_rfl) (by kernel_rfl) (by kernel_rfl) (fun _ _ _ h => h) (Or.inl ⟨by rfl, ?_⟩) (by assumption) ?_
                                rotate_left
                                · intro w hSw; (try dsimp only at hSw); simp only [List.getElem_toArray, List.getElem_cons_zero, List.getElem_cons_succ]; go_simp; (try with_reducible rfl)
                                simp only [Act.put, List.getElem_toArray, List.getElem_cons_zero, List.getElem_cons_succ, List.setIfInBounds_toArray, List.set_cons_zero, List.set_cons_succ]
                                refine wpAnyH_take (i := 14) (v := ?_) rfl (by kernel_rfl) (by kernel_rfl) (by kernel_rfl) (fun _ _ _ h => h) (Or.inl ⟨by rfl, ?_⟩) (by assumption) ?_
                                rotate_left
                                · intro w hSw; (try dsimp only at hSw); simp only [List.getElem_toArray, List.getElem_cons_zero, List.getElem_cons_succ]; go_simp; (try with_reducible rfl)
                                simp only [Act.put, List.getElem_toArray, List.getElem_cons_zero, List.getElem_cons_succ, List.setIfInBounds_toArray, List.set_cons_zero, List.set_cons_succ]
                                refine wpAnyH_take (i := 15) (v := ?_) rfl (by kernel_rfl) (by kernel_rfl) (by kernel_rfl) (fun _ _ _ h => h) (Or.inl ⟨by rfl, ?_⟩) (by assumption) ?_
                                rotate_left
                                · intro w hSw; (try dsimp only at hSw); simp only [List.getElem_toArray, List.getElem_cons_zero, List.getElem_cons_succ]; go_simp; (try with_reducible rfl)
                                simp only [Act.put, List.getElem_toArray, List.getElem_cons_zero, List.getElem_cons_succ, List.setIfInBounds_toArray, List.set_cons_zero, List.set_cons_succ]
                                refine wpAnyH_take (i := 16) (v := ?_) rfl (by kernel_rfl) (by kernel_rfl) (by kernel_rfl) (fun _ _ _ h => h) (Or.inl ⟨by rfl, ?_⟩) (by assumption) ?_
                                rotate_left
                                · intro w hSw; (try dsimp only at hSw); simp only [List.getElem_toArray, List.getElem_cons_zero, List.getElem_cons_succ]; go_simp; (try with_reducible rfl)
                                simp only [Act.put, List.getElem_toArray, List.getElem_cons_zero, List.getElem_cons_succ, List.setIfInBounds_toArray, List.set_cons_zero, List.set_cons_succ]
                                refine wpAnyH_take (i := 17) (v := ?_) rfl (by kernel_rfl) (by kernel_rfl) (by kernel_rfl) (fun _ _ _ h => h) (Or.inl ⟨by rfl, ?_⟩) (by assumption) ?_
                                rotate_left
                                · intro w hSw; (try dsimp only at hSw); simp only [List.getElem_toArray, List.getElem_cons_zero, List.getElem_cons_succ]; go_simp; (try with_reducible rfl)
                                simp only [Act.put, List.getElem_toArray, List.getElem_cons_zero, List.getElem_cons_succ, List.setIfInBounds_toArray, List.set_cons_zero, List.set_cons_succ]
                                refine wpAnyH_take (i := 18) (v := ?_) rfl (by kernel_rfl) (by kernel_rfl) (by kernel_rfl) (fun _ _ _ h => h) (Or.inl ⟨by rfl, ?_⟩) (by assumption) ?_
                                rotate_left
                                · intro w hSw; (try dsimp only at hSw); simp only [List.getElem_toArray, List.getElem_cons_zero, List.getElem_cons_succ]; go_simp; (try with_reducible rfl)
                                simp only [Act.put, List.getElem_toArray, List.getElem_cons_zero, List.getElem_cons_succ, List.setIfInBounds_toArray, List.set_cons_zero, List.set_cons_succ]
                                refine wpAnyH_take (i := 19) (v := ?_) rfl (by kernel_rfl) (by kernel_rfl) (by kernel_rfl) (fun _ _ _ h => h) (Or.inl ⟨by rfl, ?_⟩) (by assumption) ?_
                                rotate_left
                                · intro w hSw; (try dsimp only at hSw); simp only [List.getElem_toArray, List.getElem_cons_zero, List.getElem_cons_succ]; go_simp; (try with_reducible rfl)
                                simp only [Act.put, List.getElem_toArray, List.getElem_cons_zero, List.getElem_cons_succ, List.setIfInBounds_toArray, List.set_cons_zero, List.set_cons_succ]
                                refine wpAnyH_take (i := 20) (v := ?_) rfl (by kernel_rfl) (by kernel_rfl) (by kernel_rfl) (fun _ _ _ h => h) (Or.inl ⟨by rfl, ?_⟩) (by assumption) ?_
                                rotate_left
                                · intro w hSw; (try dsimp only at hSw); simp only [List.getElem_toArray, List.getElem_cons_zero, List.getElem_cons_succ]; go_simp; (try with_reducible rfl)
                                simp only [Act.put, List.getElem_toArray, List.getElem_cons_zero, List.getElem_cons_succ, List.setIfInBounds_toArray, List.set_cons_zero, List.set_cons_succ]
                                refine wpAnyH_ready (rs := [21]) (by kernel_rfl) (by simp) ?_
                                refine AllReadyH.cons rfl (fun K hK => ?_) AllReadyH.nil
                                simp only [List.getElem_toArray, List.getElem_cons_zero, List.getElem_cons_succ]
                                go_simp
                                go_at_call 117
                                refine (HTK.out _).mono ?_
                                rintro e wA ⟨rfl, hsa⟩
                                have HSA : Hid (Same [] wr wA) := Lib.hid (Same.trans (by repeat (first | exact Same.refl _ _ | refine Same.drew ?_ | refine Same.drewN ?_ _ | refine Same.alloc ?_ _)) hsa)
                                have p40a := (HSA.out.cell p4z (by simp)).trans p40
                                have p41a := (HSA.out.cell p4z (by simp)).trans p41
                                have cka := (HSA.out.cell hcz (by simp)).trans hck
                                have tka := (HSA.out.cell htz3 (by simp)).trans htk
                                have dia := (HSA.out.cell hdz (by simp)).trans hdk
                                have c0a := (HSA.out.cell cib (by simp)).trans ci0
                                have c1a := (HSA.out.cell cib (by simp)).trans ci1
                                clear hsa hHeld
                                go_wp2_with fail
                                refine hK.out _ _ ?_ (fun hHeld => ?_)
                                · go_keep
                                clear hK K
                                try simp only [Act.put, List.getElem_toArray, List.getElem_cons_zero, List.getElem_cons_succ, List.setIfInBounds_toArray, List.set_cons_zero, List.set_cons_succ]
                                refine wpAnyH_take (i := 22) (v := ?_) rfl (by kernel_rfl) (by kernel_rfl) (by kernel_rfl) (fun _ _ _ h => h) (Or.inl ⟨by rfl, ?_⟩) (by assumption) ?_
                                rotate_left
                                · intro w hSw; (try dsimp only at hSw); simp only [List.getElem_toArray, List.getElem_cons_zero, List.getElem_cons_succ]; go_simp; (try with_reducible rfl)
                                simp only [Act.put, List.getElem_toArray, List.getElem_cons_zero, List.getElem_cons_succ, List.setIfInBounds_toArray, List.set_cons_zero, List.set_cons_succ]
                                refine wpAnyH_take (i := 23) (v := ?_) rfl (by kernel_rfl) (by kernel_rfl) (by kernel_rfl) (fun _ _ _ h => h) (Or.inl ⟨by rfl, ?_⟩) (by assumption) ?_
                                rotate_left
                                · intro w hSw; (try dsimp only at hSw); simp only [List.getElem_toArray, List.getElem_cons_zero, List.getElem_cons_succ]; go_simp; (try with_reducible rfl)
                                simp only [Act.put, List.getElem_toArray, List.getElem_cons_zero, List.getElem_cons_succ, List.setIfInBounds_toArray, List.set_cons_zero, List.set_cons_succ]
                                refine wpAnyH_take (i := 24) (v := ?_) rfl (by kernel_rfl) (by kernel_rfl) (by kernel_rfl) (fun _ _ _ h => h) (Or.inl ⟨by rfl, ?_⟩) (by assumption) ?_
                                rotate_left
                                · intro w hSw; (try dsimp only at hSw); simp only [List.getElem_toArray, List.getElem_cons_zero, List.getElem_cons_succ]; go_simp; (try with_reducible rfl)
                                simp only [Act.put, List.getElem_toArray, List.getElem_cons_zero, List.getElem_cons_succ, List.setIfInBounds_toArray, List.set_cons_zero, List.set_cons_succ]
                                refine wpAnyH_take (i := 25) (v := undef) rfl (by kernel_rfl) (by kernel_rfl) (by kernel_rfl) (fun _ _ _ h => h) (Or.inr ⟨by rfl, rfl⟩) (by assumption) ?_
                                simp only [Act.put, List.getElem_toArray, List.getElem_cons_zero, List.getElem_cons_succ, List.setIfInBounds_toArray, List.set_cons_zero, List.set_cons_succ]
                                refine wpAnyH_take (i := 26) (v := undef) rfl (by kernel_rfl) (by kernel_rfl) (by kernel_rfl) (fun _ _ _ h => h) (Or.inr ⟨by rfl, rfl⟩) (by assumption) ?_
                                simp only [Act.put, List.getElem_toArray, List.getElem_cons_zero, List.getElem_cons_succ, List.setIfInBounds_toArray, List.set_cons_zero, List.set_cons_succ]
                                refine wpAnyH_take (i := 27) (v := undef) rfl (by kernel_rfl) (by kernel_rfl) (by kernel_rfl) (fun _ _ _ h => h) (Or.inr ⟨by rfl, rfl⟩) (by assumption) ?_
                                simp only [Act.put, List.getElem_toArray, List.getElem_cons_zero, List.getElem_cons_succ, List.setIfInBounds_toArray, List.set_cons_zero, List.set_cons_succ]
                                refine wpAnyH_take (i := 28) (v := undef) rfl (by kernel_rfl) (by kernel_rfl) (by kernel_rfl) (fun _ _ _ h => h) (Or.inr ⟨by rfl, rfl⟩) (by assumption) ?_
                                simp only [Act.put, List.getElem_toArray, List.getElem_cons_zero, List.getElem_cons_succ, List.setIfInBounds_toArray, List.set_cons_zero, List.set_cons_succ]
                                refine wpAnyH_take (i := 29) (v := undef) rfl (by kernel_rfl) (by kernel_rfl) (by kernel_rfl) (fun _ _ _ h => h) (Or.inr ⟨by rfl, rfl⟩) (by assumption) ?_
                                simp only [Act.put, List.getElem_toArray, List.getElem_cons_zero, List.getElem_cons_succ, List.setIfInBounds_toArray, List.set_cons_zero, List.set_cons_succ]
                                refine wpAnyH_take (i := 30) (v := ?_) rfl (by kernel_rfl) (by kernel_rfl) (by kernel_rfl) (fun _ _ _ h => h) (Or.inl ⟨by rfl, ?_⟩) (by assumption) ?_
                                rotate_left
                                · intro w hSw; (try dsimp only at hSw); simp only [List.getElem_toArray, List.getElem_cons_zero, List.getElem_cons_succ]; go_simp; (try with_reducible rfl)
                                simp only [Act.put, List.getElem_toArray, List.getElem_cons_zero, List.getElem_cons_succ, List.setIfInBounds_toArray, List.set_cons_zero, List.set_cons_succ]
                                refine wpAnyH_done (by kernel_rfl) ?_ _
                                all_goals
                                  go_wp2_with fail
                                  go_meet
                                  exact ⟨by simp [hdt], by repeat (first | exact HSA.out | refine Same.drew ?_ | refine Same.drewN ?_ _ | refine Same.alloc ?_ _)⟩
                              · have c1' : tk ≤ dk := by omega
                                have hdt : decide (dk < tk) = false := decide_eq_false c1
                                clear c1
                                go_region_held3 (fun W => (W.cell? ⟨P, 0, none⟩ = some (.int .i64 pm) ∧ W.cell? ⟨P, 1, none⟩ = some (.slice (some ⟨b, off, none⟩) n cap)) ∧ W.cell? ⟨C, k, none⟩ = some (.bool true) ∧ W.cell? ⟨T, k, none⟩ = some (.bool false) ∧ W.cell? ⟨D, k, none⟩ = some (.int .i64 dk) ∧ W.cell? ⟨b, off + k * 2, none⟩ = some (.int .u8 xop) ∧ W.cell? ⟨b, off + k * 2 + 1, none⟩ = some (.int .i64 xa)) (go_keep) (first
                                  | (go_simp; go_at_call 117; refine (HTK.out _).mono ?_; rintro e wA ⟨rfl, hsa⟩; have HSA : Hid (Same [] wr wA) := Lib.hid (Same.trans (by repeat (first | exact Same.refl _ _ | refine Same.drew ?_ | refine Same.drewN ?_ _ | refine Same.alloc ?_ _)) hsa); have p40a := (HSA.out.cell p4z (by simp)).trans p40; have p41a := (HSA.out.cell p4z (by simp)).trans p41; have cka := (HSA.out.cell hcz (by simp)).trans hck; have tka := (HSA.out.cell htz3 (by simp)).trans htk; have dia := (HSA.out.cell hdz (by simp)).trans hdk; have c0a := (HSA.out.cell cib (by simp)).trans ci0; have c1a := (HSA.out.cell cib (by simp)).trans ci1; clear hsa))
                                all_goals
                                  go_wp2_with fail
                                  go_meet
                                  exact ⟨by simp; omega, by repeat (first | exact HSA.out | refine Same.drew ?_ | refine Same.drewN ?_ _ | refine Same.alloc ?_ _)⟩
                            · have e : bd = true := by have := HBAD.out; simpa using this.symm
                              subst e
                              go_quiet (fail)
                              go_wp2_with fail
                              go_meet
                              exact ⟨rfl, (Same.refl _ _).drewN _⟩
                        case rest =>
                          obtain ⟨rfl, hs5⟩ := hcut
                          have HWR6 := Lib.hid (HWR.out.frame hs5 (by simp))
                          clear hs5 hck htk hdk hcz htz3 hdz p40 p41 p4z ci0 ci1 cib
                          cases bd
                          · go_wp2_with fail
                            go_roundg (n - (k + 1))
                            case measure => omega
                            case rel =>
                              refine ⟨k + 1, rfl, by go_num, by omega, fun q hq => ?_, HWR6.out⟩
                              rcases Nat.lt_or_eq_of_le (Nat.le_of_lt_succ hq) with h | h
                              · exact HNO.out q h
                              · subst h; exact HBDE.out
                          · go_wp2_with fail
                            go_ret
                            exact ⟨ret_fb (first_some (by rw [HNL.out]; exact hlt) HNO.out HBDE.out), HWR6.out.same⟩
                    · clear hno hwr
                      go_wp2_with fail
                      go_ret
                      exact ⟨ret_fb (first_none (fun q hq => HNO.out q (by rw [HNL.out] at hq; omega))), HWR.out.same⟩
end Ck
end Go.Proofs.YticaipedpcmhfaaGreatDoor
