/- vm.copied: code in lists of the call's own. -/
import Derived.Test.YtkepcdbogeineaaGreatDoorVmO
import Derived.Test.YtkepcdbogeineaaGreatDoorVmB
import Derived.Test.YtkepcdbogeineaaGreatDoorCkW8
import Derived.Deep.RegionWith
import Derived.Deep.RegionHeld3
import Derived.Deep.DeepCutAuto
import Derived.Deep.LoopGhost
namespace Go.Proofs.YtkepcdbogeineaaGreatDoor
open Go.RowKit Hp Ck
namespace Vm
variable {w w' : World}

theorem vals_is {n sz : Nat} {f : Nat → Nat → Value} {xs : List Value} (hl : xs.length = n * sz) (hx : ∀ i j, i < n → j < sz → xs[i * sz + j]? = some (f i j)) (hs : 0 < sz) : vals n (cellsOf sz f) = xs := by
  apply List.ext_getElem?
  intro k
  by_cases hk : k < n * sz
  · have h1 : k / sz < n := Nat.div_lt_of_lt_mul (by rw [Nat.mul_comm]; exact hk)
    have h2 : k % sz < sz := Nat.mod_lt _ hs
    have h3 : k / sz * sz + k % sz = k := by rw [Nat.mul_comm]; exact Nat.div_add_mod k sz
    have h4 := vals_get (n := n) (cellsOf_len sz f) (k / sz) (k % sz) h1 h2
    have h5 := hx (k / sz) (k % sz) h1 h2
    rw [h3] at h4 h5
    rw [h4, h5, cellsOf_get _ _ _ _ h2]
  · rw [List.getElem?_eq_none (by rw [vals_len (cellsOf_len sz f)]; omega), List.getElem?_eq_none (by omega)]
theorem vals_W (l : List Int) : vals l.length (cellsOf 1 (fW l)) = l.map (Value.int .u64) := vals_is (by simp) (fun i j hi hj => by
  obtain rfl : j = 0 := by omega
  rw [Nat.mul_one, Nat.add_zero, List.getElem?_map, List.getElem?_eq_getElem hi, fW, List.getD, List.getElem?_eq_getElem hi]; rfl) (by decide)
theorem vals_S (l : List ByteArray) : vals l.length (cellsOf 1 (fS l)) = l.map Value.string := vals_is (by simp) (fun i j hi hj => by
  obtain rfl : j = 0 := by omega
  rw [Nat.mul_one, Nat.add_zero, List.getElem?_map, List.getElem?_eq_getElem hi, fS, List.getD, List.getElem?_eq_getElem hi]; rfl) (by decide)
theorem vals_I (l : List Cd.In) : vals l.length (cellsOf 2 (fI l)) = flatI l := vals_is (flatI_len l) (fun i j hi hj => flatI_at l i j hi hj) (by decide)
theorem ks_get (n : Nat) (kv : Nat → Value) (i : Nat) (hi : i < n) : ((List.range n).map kv).getD i undef = kv i := by
  rw [List.getD, List.getElem?_map, List.getElem?_range hi]; rfl
theorem vals_P (l : List Cd.Pr) (kv : Nat → Value) : vals l.length (cellsOf 2 (fP l kv)) = flatP l ((List.range l.length).map kv) := vals_is (flatP_len l _ (by simp)) (fun i j hi hj => by
  rw [flatP_at l _ i j (by simp) hi hj]
  unfold fP
  dsimp only
  rw [ks_get l.length kv i hi]) (by decide)

theorem own_set {e size n g cap : Nat} {xs : List Value} (h : Ow w e size (.slice (some ⟨g, 0, none⟩) n cap) n xs) (j : Nat) (hj : j < n * size) (u : Value) : Ow (w.setCell ⟨g, j, none⟩ u) e size (.slice (some ⟨g, 0, none⟩) n cap) n (xs.set j u) := by
  have hr := (Row.of_own h).set j hj u
  rw [Nat.zero_add] at hr
  refine ⟨hr.1, ?_⟩
  rcases h.2 with ⟨h0, _⟩ | ⟨g', cap', cur, hv, _, hc, hn, hm, hz, ht⟩
  · cases h0
  · injection hv with hv1 _ hv2
    injection hv1 with hv1
    injection hv1 with hv1 _ _
    subst hv1 hv2
    refine .inr ⟨g, cap, cur.setIfInBounds j u, rfl, Nat.zero_le _, by simp [World.setCell, Array.getElem?_modify, hc], hn, hm, by simpa using hz, ?_⟩
    rw [← ht]
    apply List.ext_getElem?
    intro i
    by_cases hi : i < n * size
    · rw [List.getElem?_take_of_lt hi, List.getElem?_set]
      simp only [Array.toList_setIfInBounds, List.getElem?_set, Array.length_toList, List.length_take]
      by_cases hij : j = i
      · subst hij
        have hcs : j < cur.size := by have : n * size ≤ cap * size := Nat.mul_le_mul_right _ hn; omega
        simp [hcs]; omega
      · rw [if_neg hij, if_neg hij, List.getElem?_take_of_lt hi]
    · rw [List.getElem?_eq_none (by simp; omega), List.getElem?_eq_none (by simp; omega)]

theorem own_box {wX wC : World} {t sz n N K : Nat} {v : Value} {xs : List Value} (h : Ow wX t sz v n xs) (hs : Same [] wX wC) (hb : ∀ b, v.ownBlock = some b → N ≤ b) (hK : K < N) (x y z : Value) (i j k : Nat) :
    Ow (((wC.setCell ⟨K, i, none⟩ x).setCell ⟨K, j, none⟩ y).setCell ⟨K, k, none⟩ z) t sz v n xs :=
  h.frame (F := [K]) ((((hs.mono (by simp)).setCell (.inl (by simp)) x).setCell (.inl (by simp)) y).setCell (.inl (by simp)) z) (fun b hb' hm => by have := hb b hb'; have := List.mem_singleton.1 hm; omega)

set_option maxHeartbeats 8000000 in
set_option maxRecDepth 100000 in
theorem copied_any (cv pv gv : Value) (c : Cd.Co) (hr : RCoAt w cv pv gv c) (h1 : c.consts.length ≤ 1024) (h2 : c.procs.length ≤ 256) (h3 : c.globals.length ≤ 64) (h4 : ∀ p ∈ c.procs, p.code.length ≤ 4096) :
    Calls Tryz.prog 29 #[.agg #[cv, pv, gv]] w fun e w' => ∃ cv' pv' gv' kvs F, e = .returned (.agg #[cv', pv', gv']) ∧ OCo w' cv' pv' gv' kvs c F ∧ (∀ b ∈ F, w.heap.size ≤ b) ∧ Same [] w w' := by
  obtain ⟨kv, hps, hks⟩ := hr.procs
  have HCW : Hid (∀ W, Same [] w W → Calls Tryz.prog 36 #[cv] W (Cln W 30 c.consts.length 1 (fW c.consts))) := Lib.hid (fun W hs => cloneW_any _ _ _ (hr.consts.frame hs) (fun i j _ _ => rfl) (by omega))
  have HCG : Hid (∀ W, Same [] w W → Calls Tryz.prog 40 #[gv] W (Cln W 9 c.globals.length 1 (fS c.globals))) := Lib.hid (fun W hs => cloneS_any _ _ _ (hr.globals.frame hs) (fun i j _ _ => rfl) (by omega))
  have hone : ∀ i j, i < c.procs.length → j < 2 → (fP c.procs kv i j).oneCell' = true := fun i j hi hj => by
    match j, hj with
    | 0, _ => rfl
    | 1, _ =>
      obtain ⟨A, cap, e, _⟩ := hks i hi
      show (kv i).oneCell' = true
      rw [e]; rfl
  have HCP : Hid (∀ W, Same [] w W → Calls Tryz.prog 41 #[pv] W (Cln W 56 c.procs.length 2 (fP c.procs kv))) := Lib.hid (fun W hs => cloneP_any _ _ _ (hps.frame hs) hone (by omega))
  obtain ⟨A1, c1, rfl, hc1, hc1'⟩ := hr.consts.form
  obtain ⟨A2, c2, rfl, hc2, hc2'⟩ := hps.form
  obtain ⟨A3, c3, rfl, hc3, hc3'⟩ := hr.globals.form
  have HR := Lib.hid hr
  have HPS := Lib.hid hps
  have HKS := Lib.hid hks
  clear hr hps hks hone
  unfold Cln at HCW HCG HCP
  go_enter Tryz.func29, Tryz.ntmps29
  go_wp2_with fail
  obtain ⟨w0, hw0⟩ : ∃ w0, w0 = (w.alloc (.cells #[.slice A1 c.consts.length c1, .slice A2 c.procs.length c2, .slice A3 c.globals.length c3] 27)).alloc (.cells #[.slice none 0 0, .slice none 0 0, .slice none 0 0] 27) := ⟨_, rfl⟩
  rw [← hw0]
  have hs0 : Same [] w w0 := by rw [hw0]; exact ((Same.refl [] w).alloc _).alloc _
  have hkb : Blk w0 w.heap.size 27 [.slice A1 c.consts.length c1, .slice A2 c.procs.length c2, .slice A3 c.globals.length c3] := by rw [hw0]; exact (Blk.new w _ _).alloc _
  have hrb : Blk w0 (w.heap.size + 1) 27 [.slice none 0 0, .slice none 0 0, .slice none 0 0] := by
    rw [hw0]
    have := Blk.new (w.alloc (.cells #[.slice A1 c.consts.length c1, .slice A2 c.procs.length c2, .slice A3 c.globals.length c3] 27)) 27 [.slice none 0 0, .slice none 0 0, .slice none 0 0]
    simpa using this
  obtain ⟨K, hK⟩ : ∃ K, K = w.heap.size := ⟨_, rfl⟩
  rw [← hK] at hkb hrb ⊢
  have HK := Lib.hid hK
  have b0 := hkb.cell 0
  have b1 := hkb.cell 1
  have b2 := hkb.cell 2
  have bz := hkb.lt
  have bf := hkb.frozen
  have HS0 := Lib.hid hs0
  have HKB := Lib.hid hkb
  have HRB := Lib.hid hrb
  have HCW' : Hid (∀ W, Same [] w0 W → _) := Lib.hid (fun W hs => HCW.out W (hs0.trans hs))
  have HCG' : Hid (∀ W, Same [] w0 W → _) := Lib.hid (fun W hs => HCG.out W (hs0.trans hs))
  have HCP' : Hid (∀ W, Same [] w0 W → _) := Lib.hid (fun W hs => HCP.out W (hs0.trans hs))
  clear hs0 hkb hrb hK hw0 HCW HCG HCP
  go_upto_region 1 with fail
  go_cut [] (fun wx => ∃ A4 C4 A5 C5 A6 C6, Blk wx K 27 [.slice A4 c.consts.length C4, .slice A5 c.procs.length C5, .slice A6 c.globals.length C6] ∧ Blk wx (K + 1) 27 [.slice none 0 0, .slice none 0 0, .slice none 0 0] ∧ wx.ownsRow 0 30 1 (.slice A4 c.consts.length C4) c.consts.length (vals c.consts.length (cellsOf 1 (fW c.consts))) ∧ wx.ownsRow 0 56 2 (.slice A5 c.procs.length C5) c.procs.length (vals c.procs.length (cellsOf 2 (fP c.procs kv))) ∧ wx.ownsRow 0 9 1 (.slice A6 c.globals.length C6) c.globals.length (vals c.globals.length (cellsOf 1 (fS c.globals))) ∧ (∀ b, b ∈ (Value.slice A4 c.consts.length C4).ownBlock ∨ b ∈ (Value.slice A5 c.procs.length C5).ownBlock ∨ b ∈ (Value.slice A6 c.globals.length C6).ownBlock → w0.heap.size ≤ b) ∧ w0.heap.size ≤ wx.heap.size ∧ Same [] w wx)
  case first =>
    go_region_with (first
      | (go_simp; go_at_call 36; refine (HCW'.out _ (by repeat (first | exact Same.refl _ _ | exact HSC.out | exact HSB.out | exact HSA.out | refine Same.drew ?_ | refine Same.drewN ?_ _ | refine Same.alloc ?_ _))).mono ?_; rintro e wA ⟨A4, C4, rfl, hoA, hgA, hsA⟩; have HSA : Hid (Same [] w0 wA) := Lib.hid (Same.trans (by repeat (first | exact Same.refl _ _ | exact HSC.out | exact HSB.out | exact HSA.out | refine Same.drew ?_ | refine Same.drewN ?_ _ | refine Same.alloc ?_ _)) hsA); have xa0 := (HSA.out.cell bz (by simp)).trans b0; have xa1 := (HSA.out.cell bz (by simp)).trans b1; have xa2 := (HSA.out.cell bz (by simp)).trans b2; have xaf : ∀ j, wA.frozen? ⟨K, j, none⟩ = false := (fun j => (HSA.out.frozen bz (by simp)).trans (bf j)); have xaz := Nat.lt_of_lt_of_le bz HSA.out.size; have HOA := Lib.hid hoA; have HGA := Lib.hid hgA; have HTA := Lib.hid hsA; clear hoA hgA hsA)
      | (go_simp; go_at_call 40; refine (HCG'.out _ (by repeat (first | exact Same.refl _ _ | exact HSC.out | exact HSB.out | exact HSA.out | refine Same.drew ?_ | refine Same.drewN ?_ _ | refine Same.alloc ?_ _))).mono ?_; rintro e wB ⟨A6, C6, rfl, hoB, hgB, hsB⟩; have HSB : Hid (Same [] w0 wB) := Lib.hid (Same.trans (by repeat (first | exact Same.refl _ _ | exact HSC.out | exact HSB.out | exact HSA.out | refine Same.drew ?_ | refine Same.drewN ?_ _ | refine Same.alloc ?_ _)) hsB); have xb0 := (HSB.out.cell bz (by simp)).trans b0; have xb1 := (HSB.out.cell bz (by simp)).trans b1; have xb2 := (HSB.out.cell bz (by simp)).trans b2; have xbf : ∀ j, wB.frozen? ⟨K, j, none⟩ = false := (fun j => (HSB.out.frozen bz (by simp)).trans (bf j)); have xbz := Nat.lt_of_lt_of_le bz HSB.out.size; have HOB := Lib.hid hoB; have HGB := Lib.hid hgB; have HTB := Lib.hid hsB; clear hoB hgB hsB)
      | (go_simp; go_at_call 41; refine (HCP'.out _ (by repeat (first | exact Same.refl _ _ | exact HSC.out | exact HSB.out | exact HSA.out | refine Same.drew ?_ | refine Same.drewN ?_ _ | refine Same.alloc ?_ _))).mono ?_; rintro e wC ⟨A5, C5, rfl, hoC, hgC, hsC⟩; have HSC : Hid (Same [] w0 wC) := Lib.hid (Same.trans (by repeat (first | exact Same.refl _ _ | exact HSC.out | exact HSB.out | exact HSA.out | refine Same.drew ?_ | refine Same.drewN ?_ _ | refine Same.alloc ?_ _)) hsC); have xc0 := (HSC.out.cell bz (by simp)).trans b0; have xc1 := (HSC.out.cell bz (by simp)).trans b1; have xc2 := (HSC.out.cell bz (by simp)).trans b2; have xcf : ∀ j, wC.frozen? ⟨K, j, none⟩ = false := (fun j => (HSC.out.frozen bz (by simp)).trans (bf j)); have xcz := Nat.lt_of_lt_of_le bz HSC.out.size; have HOC := Lib.hid hoC; have HGC := Lib.hid hgC; have HTC := Lib.hid hsC; clear hoC hgC hsC))
    all_goals
      go_wp2_with fail
      go_meet
      have hz := HSA.out.size
      have hzB := HSB.out.size
      have hKz : K < w0.heap.size := bz
      have hab : Same [] wA wC := (by first | exact HTB.out.trans HTC.out | exact ((Same.refl [] wA).drew.trans HTB.out).trans HTC.out)
      refine ⟨A4, C4, A5, C5, A6, C6, (((HKB.out.frame HSC.out (by simp)).set 0 _).set 2 _).set 1 _, (((HRB.out.frame HSC.out (by simp)).setOther (by simp) _).setOther (by simp) _).setOther (by simp) _, own_box HOA.out hab (fun b hb => ?_) hKz _ _ _ _ _ _, own_box HOC.out (Same.refl _ _) (fun b hb => ?_) hKz _ _ _ _ _ _, own_box HOB.out HTC.out (fun b hb => ?_) hKz _ _ _ _ _ _, fun b hb => ?_, (by simpa using HSC.out.size), (((HS0.out.trans HSC.out).setCell (.inr (by rw [HK.out]; exact Nat.le_refl _)) _).setCell (.inr (by rw [HK.out]; exact Nat.le_refl _)) _).setCell (.inr (by rw [HK.out]; exact Nat.le_refl _)) _⟩
      · exact HGA.out b hb
      · exact Nat.le_trans hzB (HGC.out b hb)
      · exact Nat.le_trans hz (HGB.out b hb)
      · rcases hb with hb | hb | hb
        · exact HGA.out b hb
        · exact Nat.le_trans hzB (HGC.out b hb)
        · exact Nat.le_trans hz (HGB.out b hb)
  case rest =>
    obtain ⟨A4, C4, A5, C5, A6, C6, hkb, hrb, hw, hp, hg, hge, hwz, hsx⟩ := hcut
    have HWX := Lib.hid hwz
    have HKZ2 : Hid (K + 1 < w0.heap.size) := Lib.hid HRB.out.lt
    rw [vals_W] at hw
    rw [vals_S] at hg
    rw [vals_P] at hp
    have HCI : Hid (∀ W, Same [] w W → ∀ i, i < c.procs.length → Calls Tryz.prog 42 #[kv i] W (Cln W 53 (c.procs.getD i ⟨0, []⟩).code.length 2 (fI (c.procs.getD i ⟨0, []⟩).code))) := Lib.hid (fun W hs i hi => cloneI_any _ _ _ ((HKS.out i hi).frame hs) (fun a b ha hb => by
      unfold fI; split <;> rfl) (by
      have := h4 (c.procs.getD i ⟨0, []⟩) (by rw [List.getD_eq_getElem?_getD, List.getElem?_eq_getElem hi]; exact List.getElem_mem hi)
      omega))
    have HGE := Lib.hid hge
    have k1 := hkb.cell 1
    have HW := Lib.hid hw
    have HG := Lib.hid hg
    have HP := Lib.hid hp
    have HKB := Lib.hid hkb
    have HRB := Lib.hid hrb
    have HSX := Lib.hid hsx
    have HKZ : Hid (K < w0.heap.size) := Lib.hid bz
    have HWZ : Hid (w.heap.size ≤ w0.heap.size) := Lib.hid HS0.out.size
    clear hkb hrb hw hp hg hsx hge hwz b0 b1 b2 bz bf HCW' HCG' HCP'
    go_wp2_with fail
    go_loopg [19] c.procs.length (fun gk a19 wr => ∃ (i : Nat) (ks : List Value), i ≤ c.procs.length ∧ gk = c.procs.length - i ∧ a19 = .int .i64 i ∧ ks.length = c.procs.length ∧ Blk wr K 27 [.slice A4 c.consts.length C4, .slice A5 c.procs.length C5, .slice A6 c.globals.length C6] ∧ Blk wr (K + 1) 27 [.slice none 0 0, .slice none 0 0, .slice none 0 0] ∧ Ow wr 30 1 (.slice A4 c.consts.length C4) c.consts.length (c.consts.map (Value.int .u64)) ∧ Ow wr 9 1 (.slice A6 c.globals.length C6) c.globals.length (c.globals.map Value.string) ∧ Ow wr 56 2 (.slice A5 c.procs.length C5) c.procs.length (flatP c.procs ks) ∧ (∀ j, i ≤ j → j < c.procs.length → ks.getD j undef = kv j) ∧ (∀ j, j < i → Ow wr 53 2 (ks.getD j undef) (c.procs.getD j ⟨0, []⟩).code.length (flatI (c.procs.getD j ⟨0, []⟩).code) ∧ ∀ b, (ks.getD j undef).ownBlock = some b → w0.heap.size ≤ b) ∧ (∀ j k b, j < i → k < i → (ks.getD j undef).ownBlock = some b → (ks.getD k undef).ownBlock = some b → j = k) ∧ w0.heap.size ≤ wr.heap.size ∧ Same [] w wr)
    case atStart => exact ⟨0, (List.range c.procs.length).map kv, Nat.zero_le _, rfl, rfl, by simp, HKB.out, HRB.out, HW.out, HG.out, HP.out, fun j _ hj => ks_get _ kv j hj, fun j hj => by omega, fun j k b hj => by omega, HWX.out, HSX.out⟩
    case round =>
      obtain ⟨i, ks, hi, rfl, rfl, q1, q2, q3, q4, q5, q6, q7, q8, q9, q11, q10⟩ := hrel
      have Q11 := Lib.hid q11
      have Q2 := Lib.hid q2
      have Q3 := Lib.hid q3
      have Q4 := Lib.hid q4
      have Q5 := Lib.hid q5
      have Q6 := Lib.hid q6
      have Q7 := Lib.hid q7
      have Q8 := Lib.hid q8
      have Q9 := Lib.hid q9
      have Q10 := Lib.hid q10
      have r1 := q2.cell 1
      have rz := q2.lt
      clear q2 q3 q4 q5 q6 q7 q8 q9 q10 q11 k1
      by_cases hlt : i < c.procs.length
      · have hlt' : (i : Int) < (c.procs.length : Int) := by omega
        have hlt0 : (0 : Int) ≤ (i : Int) := by omega
        obtain ⟨g, hA5⟩ : ∃ g, A5 = some ⟨g, 0, none⟩ := by
          rcases Q6.out.2 with ⟨h0, h1⟩ | ⟨g, cap, cur, h0, _⟩
          · omega
          · injection h0 with h0
            exact ⟨g, h0⟩
        subst hA5
        obtain ⟨PL, hPL⟩ : ∃ l, l = (c.procs.getD i ⟨0, []⟩).code := ⟨_, rfl⟩
        have HCI2 := Lib.hid (fun W (hs : Same [] wr W) => HCI.out W (Q10.out.trans hs) i hlt)
        obtain ⟨ki, hki⟩ : ∃ k, k = kv i := ⟨_, rfl⟩
        rw [← hPL, ← hki] at HCI2
        unfold Cln at HCI2
        obtain ⟨Ak, Ck', hkv, -, -, -⟩ := HKS.out i hlt
        rw [← hki, ← hPL] at hkv
        subst hkv
        have gz : g < wr.heap.size := Q6.out.lt rfl
        have pc : wr.cell? ⟨g, i * 2 + 1, none⟩ = some (.slice Ak PL.length Ck') := by
          obtain ⟨g', off, cap, e, -, -, hc, -⟩ := (Row.of_own Q6.out).at_ (by omega)
          injection e with e _ _
          injection e with e
          injection e with e1 e2 _
          subst e1 e2
          have h := hc (i * 2 + 1) (by omega)
          rw [flatP_at _ _ i 1 q1 hlt (by omega)] at h
          simp only [fP, Nat.one_ne_zero, if_false, Nat.zero_add] at h
          rw [Q7.out i (Nat.le_refl _) hlt, ← hki] at h
          exact h
        have pf : wr.frozen? ⟨g, i * 2 + 1, none⟩ = false := by
          obtain ⟨g', off, cap, e, -, -, -, hf⟩ := (Row.of_own Q6.out).at_ (by omega)
          injection e with e _ _
          injection e with e
          injection e with e1 e2 _
          subst e1
          exact hf _
        have HPL := Lib.hid hPL
        have HKI := Lib.hid hki
        have HKG : Hid (g ≠ K) := Lib.hid (fun e => Q6.out.ne_blk Q2.out (by decide) (by rw [← e]; rfl))
        clear hPL hki
        go_upto_region 5 with fail
        go_region_with (first
          | (go_simp; go_at_call 42; refine (HCI2.out _ (by repeat (first | exact Same.refl _ _ | refine Same.drew ?_ | refine Same.drewN ?_ _ | refine Same.alloc ?_ _))).mono ?_; rintro e wA ⟨A7, C7, rfl, hoA, hgA, hsA⟩; have HSA : Hid (Same [] wr wA) := Lib.hid (Same.trans (by repeat (first | exact Same.refl _ _ | refine Same.drew ?_ | refine Same.drewN ?_ _ | refine Same.alloc ?_ _)) hsA); have s1 := (HSA.out.cell rz (by simp)).trans r1; have s2 := (HSA.out.cell gz (by simp)).trans pc; have s3 := (HSA.out.frozen gz (by simp)).trans pf; have hgg := HKG.out; have HOA := Lib.hid hoA; have HGA := Lib.hid hgA; clear hoA hgA hsA))
        all_goals
          go_wp2_with fail
          go_roundg (c.procs.length - (i + 1))
          case measure => omega
          case rel =>
            have hS : Same [g] wr (wA.setCell ⟨g, i * 2 + 1, none⟩ (.slice A7 PL.length C7)) := (HSA.out.mono (F' := [g]) (by simp)).setCell (.inl (by simp)) _
            have hne : ∀ {e s n : Nat} {v : Value} {xs : List Value}, Ow wr e s v n xs → e ≠ 56 → ∀ b, v.ownBlock = some b → b ∉ [g] := fun ho hn b hb hm => ho.ne Q6.out hn hb (by rw [List.mem_singleton.1 hm]; rfl)
            have hgi : (ks.set i (.slice A7 PL.length C7)).getD i undef = .slice A7 PL.length C7 := by
              rw [List.getD_eq_getElem?_getD, List.getElem?_set_self (by omega)]; rfl
            have hgj : ∀ j, j ≠ i → (ks.set i (.slice A7 PL.length C7)).getD j undef = ks.getD j undef := fun j hj => by
              rw [List.getD_eq_getElem?_getD, List.getElem?_set_ne (fun e => hj e.symm), ← List.getD_eq_getElem?_getD]
            have hnew : ∀ b, (Value.slice A7 PL.length C7).ownBlock = some b → wr.heap.size ≤ b := fun b hb => by have := HGA.out b hb; simpa using this
            have hpw := Q11.out
            refine ⟨i + 1, ks.set i (.slice A7 PL.length C7), by omega, rfl, by go_num, by rw [List.length_set]; exact q1, Q2.out.frame hS (fun hm => HKG.out (List.mem_singleton.1 hm).symm), Q3.out.frame hS (fun hm => Q6.out.ne_blk Q3.out (by decide) (by rw [List.mem_singleton.1 hm]; rfl)), Q4.out.frame hS (hne Q4.out (by decide)), Q5.out.frame hS (hne Q5.out (by decide)), ?_, fun j h1 h2 => ?_, fun j hj => ?_, fun j k b hj hk hbj hbk => ?_, Nat.le_trans hpw hS.size, Q10.out.trans' (HSA.out) (by simp) |>.setCell (.inr ?_) _⟩
            · rw [← flatP_set _ _ i _ q1 hlt]
              exact own_set (Q6.out.frame HSA.out (by simp)) (i * 2 + 1) (by omega) _
            · rw [hgj j (by omega)]; exact Q7.out j (by omega) h2
            · by_cases e : j = i
              · subst e
                rw [hgi]
                have ho := HOA.out
                rw [vals_I] at ho
                refine ⟨?_, fun b hb => Nat.le_trans hpw (hnew b hb)⟩
                have h2 := Ow.frame (F := [g]) ho ((Same.refl _ _).setCell (.inl (by simp)) (.slice A7 PL.length C7)) (w' := wA.setCell ⟨g, j * 2 + 1, none⟩ (.slice A7 PL.length C7)) (fun b hb hm => by have := hnew b hb; have := List.mem_singleton.1 hm; omega)
                rw [HPL.out] at h2 ⊢
                exact h2
              · rw [hgj j e]
                obtain ⟨ho, hb⟩ := Q8.out j (by omega)
                exact ⟨ho.frame hS (hne ho (by decide)), hb⟩
            · by_cases e : j = i
              · by_cases e2 : k = i
                · rw [e, e2]
                · rw [e, hgi] at hbj
                  rw [hgj k e2] at hbk
                  have := hnew b hbj
                  have := (Q8.out k (by omega)).1.lt hbk
                  omega
              · rw [hgj j e] at hbj
                by_cases e2 : k = i
                · rw [e2, hgi] at hbk
                  have := hnew b hbk
                  have := (Q8.out j (by omega)).1.lt hbj
                  omega
                · rw [hgj k e2] at hbk
                  exact Q9.out j k b (by omega) (by omega) hbj hbk
            · have := HGE.out g (.inr (.inl (by rfl)))
              have := HWZ.out
              show w.heap.size ≤ g
              omega
      · have hge2 : (c.procs.length : Int) ≤ (i : Int) := by omega
        have hie : i = c.procs.length := by omega
        have HIE := Lib.hid hie
        have r0 := Q2.out.cell 0
        have r2 := Q2.out.cell 2
        have t0 := Q3.out.cell 0
        have t1 := Q3.out.cell 1
        have t2 := Q3.out.cell 2
        have tz := Q3.out.lt
        have tf := Q3.out.frozen
        clear hie
        go_wp2_with fail
        refine bodyPost_ret (v := .agg #[.slice A4 c.consts.length C4, .slice A5 c.procs.length C5, .slice A6 c.globals.length C6]) (by simp [results, Tryz.results29, go_sem, t0, t1, t2]) rfl ?_
        have hie := HIE.out
        have mem : ∀ b, w0.heap.size ≤ b → b < wr.heap.size → b ∈ (List.range wr.heap.size).filter (fun b => decide (w0.heap.size ≤ b)) := fun b h1 h2 => List.mem_filter.2 ⟨List.mem_range.2 h2, by simpa using h1⟩
        have ho : OCo wr (.slice A4 c.consts.length C4) (.slice A5 c.procs.length C5) (.slice A6 c.globals.length C6) ks c ((List.range wr.heap.size).filter (fun b => decide (w0.heap.size ≤ b))) :=
          ⟨Q4.out, Q5.out, Q6.out, q1, fun j hj => (Q8.out j (by omega)).1, fun j k b hj hk h1 h2 => Q9.out j k b (by omega) (by omega) h1 h2, fun b hb => mem b (HGE.out b (.inl hb)) (Q4.out.lt hb), fun b hb => mem b (HGE.out b (.inr (.inr hb))) (Q5.out.lt hb), fun b hb => mem b (HGE.out b (.inr (.inl hb))) (Q6.out.lt hb), fun j b hj hb => mem b ((Q8.out j (by omega)).2 b hb) ((Q8.out j (by omega)).1.lt hb)⟩
        have hge : ∀ b ∈ (List.range wr.heap.size).filter (fun b => decide (w0.heap.size ≤ b)), w0.heap.size ≤ b := fun b hb => by simpa using (List.mem_filter.1 hb).2
        have hw2 : w.heap.size ≤ K + 1 := by have := HK.out; omega
        refine ⟨_, _, _, ks, _, rfl, ho.frame (F := _) (G := [K + 1]) ((((Same.refl _ wr).setCell (.inl (by simp)) _).setCell (.inl (by simp)) _).setCell (.inl (by simp)) _) (fun b hb hm => by have := hge b hb; have := List.mem_singleton.1 hm; have := HKZ2.out; omega), fun b hb => Nat.le_trans HWZ.out (hge b hb), ((Q10.out.setCell (.inr hw2) _).setCell (.inr hw2) _).setCell (.inr hw2) _⟩
end Vm
end Go.Proofs.YtkepcdbogeineaaGreatDoor
