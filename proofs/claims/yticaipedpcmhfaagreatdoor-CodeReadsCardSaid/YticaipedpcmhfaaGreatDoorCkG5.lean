/- ownWords: lists that share no memory, nor room behind, keep their marks. -/
import Derived.Test.YticaipedpcmhfaaGreatDoorHpVal
import Derived.Test.YticaipedpcmhfaaGreatDoorProg
import Derived.IntWalk
import Derived.Deep.DeepCutAuto
namespace Go.Proofs.YticaipedpcmhfaaGreatDoor
open Go.RowKit Hp
namespace Ck
variable {w w' W : World} {ro : Value} {rvs : List Value} {N : Nat} {n : Nat → Nat} {c : Nat → Nat → List Value} {V : List Nat}

def mk_words (i k : Nat) : List Value := [.int .u64 ((i : Int) * 1000 + k + 7000000)]
def gw_words (i k : Nat) : List Value := [.int .u64 ((-1 - (i : Int)) * 1000 + k + 7000000)]
theorem info_words : (Tryz.prog.info? 22).map (fun i => (i.zero, i.size, i.bytes)) = some (some (.slice none 0 0), 1, 24) := by kernel_rfl
theorem infoE_words : (Tryz.prog.info? 74).map (fun i => (i.zero, i.size, i.bytes)) = some (some (.int .u64 0), 1, 8) := by kernel_rfl

set_option maxHeartbeats 3200000 in
set_option maxRecDepth 100000 in
theorem ownWords_any (h : FamV 22 74 1 W ro rvs N n c V) (hV : ∀ x ∈ V, x < W.heap.size) (hN : N ≤ 6000) (hn : ∀ i, i < N → n i ≤ 100000) : Calls Tryz.prog 67 #[ro] W fun e w' => e = .returned (.bool true) ∧ Same V W w' := by
  obtain ⟨ra, rc, rfl, -, -, -⟩ := h.top.form
  have H0 := Lib.hid h
  have HV := Lib.hid hV
  have HN := Lib.hid hn
  clear h hV hn
  go_enter Tryz.func67, Tryz.ntmps67
  go_wp2
  go_loopw [3] (fun v wr => ∃ (i : Nat) (c' : Nat → Nat → List Value), i ≤ N ∧ v = .int .i64 i ∧ FamV 22 74 1 wr (.slice ra N rc) rvs N n c' V ∧ (∀ a b, a < i → b < n a → c' a b = mk_words a b) ∧ Same V W wr) (fun v _ => N - (intOf v).toNat)
  case atStart => exact ⟨0, c, Nat.zero_le _, rfl, H0.out, fun a b h => by omega, Same.refl _ _⟩
  case round =>
    obtain ⟨i, c', hi, rfl, hf, hc, hs⟩ := hrel
    by_cases hlt : i < N
    · have hlt' : (i : Int) < (N : Int) := by omega
      obtain ⟨g, off, cap, hro, hgl, hgV, hcell⟩ := hf.at_ i hlt
      injection hro with hro _ hro2
      subst hro hro2
      have hni := HN.out i hlt
      obtain ⟨ia, ic, hiv, -, -, -⟩ := (hf.rows i hlt).form
      rw [hiv] at hcell
      have HF := Lib.hid hf
      have HC := Lib.hid hc
      have HS := Lib.hid hs
      have HIV := Lib.hid hiv
      clear hf hc hs hiv
      obtain ⟨wo, hwo⟩ : ∃ wo, wo = wr := ⟨_, rfl⟩
      subst hwo
      go_wp2
      go_loopw [4] (fun v wr => ∃ (j : Nat) (c2 : Nat → Nat → List Value), j ≤ n i ∧ v = .int .i64 j ∧ FamV 22 74 1 wr (.slice (some ⟨g, off, none⟩) N rc) rvs N n c2 V ∧ (∀ a b, a < i → b < n a → c2 a b = mk_words a b) ∧ (∀ b, b < j → c2 i b = mk_words i b) ∧ Same V W wr) (fun v _ => n i - (intOf v).toNat)
      case atStart => exact ⟨0, c', Nat.zero_le _, rfl, HF.out, HC.out, fun b h => by omega, HS.out⟩
      case round =>
        obtain ⟨j, c2, hj, rfl, hf2, hc2, hc3, hs2⟩ := hrel
        obtain ⟨g2, off2, cap2, hro, hgl2, hgV2, hcell2⟩ := hf2.at_ i hlt
        injection hro with hro _ hro2
        injection hro with hro
        injection hro with hro hro3 _
        subst hro hro2 hro3
        rw [HIV.out] at hcell2
        by_cases hjn : j < n i
        · have hjn' : (j : Int) < (n i : Int) := by omega
          obtain ⟨gi, oi, ci, hri, -, hgil, hci, hcf⟩ := vals_cells1 (hf2.rows i hlt) (hf2.cl i) (by omega)
          rw [HIV.out] at hri
          injection hri with hri _ hri2
          subst hri hri2
          have kj := hci j hjn
          have hlc := hf2.cl i j
          rw [List.getElem?_eq_getElem (by omega)] at kj
          have hfz := hcf (oi + j)
          have hgiV : gi ∈ V := hf2.rowIn i hlt gi (by rw [HIV.out]; simp [blk])
          have HF2x := hf2
          have HNEW := Lib.hid (HF2x.put1 (by decide) i j hlt hjn gi oi ic HIV.out (.int .u64 ((i : Int) * 1000 + (j : Int) + 7000000)))
          have hwr : IntKind.u64.wrap ((i : Int) * 1000 + (j : Int) + 7000000) = (i : Int) * 1000 + (j : Int) + 7000000 := by rw [IntKind.wrap_u64]; omega
          have HC2 := Lib.hid hc2
          have HC3 := Lib.hid hc3
          have HS2 : Hid (Same V W (wr.setCell ⟨gi, oi + j, none⟩ (.int .u64 ((i : Int) * 1000 + (j : Int) + 7000000)))) := Lib.hid (hs2.setCell (.inl hgiV) _)
          clear hf2 hc2 hc3 hs2 hci hcf HF2x hgiV
          go_wp2
          go_roundw
          case rel =>
            refine ⟨j + 1, _, by omega, by go_num, HNEW.out, fun a b h1 h2 => ?_, fun b h1 => ?_, HS2.out⟩
            · rw [if_neg (by omega)]; exact HC2.out a b h1 h2
            · by_cases e : b = j
              · rw [if_pos ⟨rfl, e⟩, e]; rfl
              · rw [if_neg (by omega)]; exact HC3.out b (by omega)
          case measure => simp [intOf]; omega
        · have hge : (n i : Int) ≤ (j : Int) := by omega
          have hje : j = n i := by omega
          have HX : Hid (∀ a b, a < i + 1 → b < n a → c2 a b = mk_words a b) := Lib.hid (fun a b h1 h2 => by
            by_cases e : a = i
            · subst e; exact hc3 b (by omega)
            · exact hc2 a b (by omega) h2)
          have HF2 := Lib.hid hf2
          have HS2 := Lib.hid hs2
          clear hf2 hc2 hc3 hs2 hje
          go_wp2
          go_roundw
          case rel => exact ⟨i + 1, c2, by omega, by go_num, HF2.out, HX.out, HS2.out⟩
          case measure => simp [intOf]; omega
    · have hiN : i = N := by omega
      have hge : (N : Int) ≤ (i : Int) := by omega
      have hL0 : Lgv 22 74 1 mk_words gw_words W.heap.size wr (.slice ra N rc) rvs N n V 0 (.slice none 0 0) [] := ⟨hf.congr (fun _ _ => rfl) (fun a b ha hb => (hc a b (by omega) hb).symm), fun _ _ => rfl, by decide, Row.nil _ _ _, by simp [blk], fun a ha => by omega, fun a ha => by omega, fun a b ha => by omega⟩
      have HL0 := Lib.hid hL0
      have HS0 := Lib.hid hs
      clear hf hc hs hL0 hlt hi
      obtain ⟨wa, hwa⟩ : ∃ wa, wa = wr := ⟨_, rfl⟩
      subst hwa
      subst hiN
      go_wp2
      go_loopw [5, 6] (fun lo v wr => ∃ (j : Nat) (lvs : List Value), j ≤ i ∧ v = .int .i64 j ∧ Lgv 22 74 1 mk_words gw_words W.heap.size wr (.slice ra i rc) rvs i n V j lo lvs ∧ Same V W wr) (fun _ v _ => i - (intOf v).toNat)
      case atStart => exact ⟨0, [], Nat.zero_le _, rfl, HL0.out, HS0.out⟩
      case round =>
        obtain ⟨j, lvs, hj, rfl, hl, hs⟩ := hrel
        obtain ⟨loa, loc, rfl, -, -, -⟩ := hl.top.form
        by_cases hlt : j < i
        · have hlt' : (j : Int) < (i : Int) := by omega
          obtain ⟨g, off, cap, hro, hgl, hgV, hcell⟩ := hl.f.at_ j hlt
          injection hro with hro _ hro2
          subst hro hro2
          have hni := HN.out j hlt
          have hx0 := hl.start hlt HV.out
          obtain ⟨ia, ic, hiv, -, -, -⟩ := (hl.f.rows j hlt).form
          rw [hiv] at hcell hx0
          have HX0 := Lib.hid hx0
          have HS := Lib.hid hs
          have HIV := Lib.hid hiv
          clear hl hx0 hs hiv
          obtain ⟨wo, hwo⟩ : ∃ wo, wo = wr := ⟨_, rfl⟩
          subst hwo
          go_wp2
          go_loopw [7, 8] (fun x v wr => ∃ k : Nat, k ≤ 16 ∧ v = .int .i64 k ∧ Lxv 22 74 1 mk_words gw_words W.heap.size wr (.slice (some ⟨g, off, none⟩) i rc) rvs i n V j (.slice loa j loc) lvs k x ∧ Same V W wr) (fun _ v _ => 16 - (intOf v).toNat)
          case atStart => exact ⟨0, Nat.zero_le _, rfl, HX0.out, HS.out⟩
          case round =>
            obtain ⟨k, hk, rfl, hx, hs2⟩ := hrel
            obtain ⟨xa, xc, rfl, -, -, -⟩ := hx.row.form
            by_cases hk16 : k < 16
            · have hk' : (k : Int) < 16 := by omega
              have hwr : IntKind.u64.wrap ((-1 - (j : Int)) * 1000 + (k : Int) + 7000000) = (-1 - (j : Int)) * 1000 + (k : Int) + 7000000 := by rw [IntKind.wrap_u64]; omega
              have HX := Lib.hid hx
              have HS2 := Lib.hid hs2
              have HNUM : Hid (vals (n j + k) (grown mk_words gw_words (n j) j) ++ [.int .u64 ((-1 - (j : Int)) * 1000 + (k : Int) + 7000000)] = vals (n j + (k + 1)) (grown mk_words gw_words (n j) j)) := Lib.hid (by
                rw [← Nat.add_assoc, vals_succ, grown_hi]; rfl)
              clear hx hs2
              go_wp2_with (at_builtin; refine wpList_append_two _ rfl (.tmp 54) (.tmp 62) 22 rfl 74 (.int .u64 0) 1 8 Tryz.underlying22 infoE_words rfl (by decide) (.slice xa (n j + k) xc) (n j + k) (vals (n j + k) (grown mk_words gw_words (n j) j)) rfl ?a1 ⟨wr.heap.size, 0, none⟩ 1 1 [.int .u64 ((-1 - (j : Int)) * 1000 + (k : Int) + 7000000)] rfl rfl ?a2 ?a3 ?a4 ?a5 ?a6)
              case a1 => exact HX.out.row.alloc _
              case a2 => exact cells1_new _ _ _
              case a3 => intro u hu; simp at hu; subst hu; rfl
              case a4 => unfold maxLen; omega
              case a5 => omega
              case a6 =>
                intro v' w1 hrow hcase
                have hc2 : (∃ A C, Value.slice xa (n j + k) xc = .slice A (n j + k) C ∧ v' = .slice A (n j + k + 1) C) ∧ Same (blk (.slice xa (n j + k) xc)) wr w1 ∨ Same [] wr w1 ∧ ∀ y ∈ blk v', wr.heap.size ≤ y := by
                  rcases hcase with ⟨⟨A, C, e1, e2⟩, h1⟩ | ⟨h1, h2⟩
                  · exact .inl ⟨⟨A, C, by rw [e1.1, e1.2], e2⟩, ((Same.refl _ _).alloc _).trans h1⟩
                  · exact .inr ⟨((Same.refl _ _).alloc _).trans h1, fun y hy => by have := h2 y hy; omega⟩
                have hsz := HS2.out.size
                have hx1 := HX.out.step hlt HV.out hsz (by rw [← HNUM.out]; exact hrow) hc2
                have hs1 : Same V W w1 := by
                  rcases hc2 with ⟨_, h1⟩ | ⟨h1, _⟩
                  · refine HS2.out.trans' h1 (fun y hy => ?_)
                    rcases HX.out.own y hy with h3 | h3
                    · exact .inl (HX.out.l.f.rowIn j hlt y h3)
                    · exact .inr h3
                  · exact HS2.out.trans' h1 (by simp)
                obtain ⟨a5, c5, rfl, -, -, -⟩ := hrow.form
                have HX1 := Lib.hid hx1
                have HS1 := Lib.hid hs1
                clear hrow hcase hc2 hx1 hs1 hsz
                go_wp2
                go_roundw
                case rel => exact ⟨k + 1, by omega, by go_num, HX1.out, HS1.out⟩
                case measure => simp [intOf]; omega
            · have hke : k = 16 := by omega
              subst hke
              have HX := Lib.hid hx
              have HS2 := Lib.hid hs2
              clear hx hs2 hk16
              rw [show ((16 : Nat) : Int) = 16 from rfl]
              go_wp2_with (at_builtin; refine wpList_append_row _ rfl (.tmp 64) (.tmp 66) 46 rfl 22 (.slice none 0 0) 1 24 Tryz.underlying46 info_words rfl (by decide) (.slice loa j loc) j lvs rfl ?b1 ⟨wr.heap.size, 0, none⟩ 1 1 [.slice xa (n j + 16) xc] rfl rfl ?b2 ?b3 ?b4 ?b5 ?b6)
              case b1 => exact HX.out.l.top.alloc _
              case b2 => exact cells1_new _ _ _
              case b3 => intro u hu; simp at hu; subst hu; rfl
              case b4 => unfold maxLen; omega
              case b5 => omega
              case b6 =>
                intro v' w1 hrow hsm hbk
                have hs1 : Same (blk (.slice loa j loc)) wr w1 := ((Same.refl _ _).alloc _).trans hsm
                have hl1 := HX.out.done hlt HV.out HS2.out.size (by simpa using hrow) hs1 (fun y hy => by
                  rcases hbk y hy with h | h
                  · exact .inl h
                  · right; omega)
                have hsv : Same V W w1 := HS2.out.trans' hs1 (fun y hy => .inr (HX.out.l.topN y hy))
                obtain ⟨a5, c5, rfl, -, -, -⟩ := hrow.form
                have HL1 := Lib.hid hl1
                have HSV := Lib.hid hsv
                clear hrow hsm hbk hs1 hl1 hsv
                go_wp2
                go_roundw
                case rel => exact ⟨j + 1, _, by omega, by go_num, HL1.out, HSV.out⟩
                case measure => simp [intOf]; omega
        · have hje : j = i := by omega
          have hge2 : (i : Int) ≤ (j : Int) := by omega
          subst hje
          have HL := Lib.hid hl
          have HS := Lib.hid hs
          clear hl hs hlt hj
          obtain ⟨wc, hwc⟩ : ∃ wc, wc = wr := ⟨_, rfl⟩
          subst hwc
          go_wp2
          go_loopw [9] (fun v wr => ∃ a : Nat, a ≤ j ∧ v = .int .i64 a ∧ wc = wr) (fun v _ => j - (intOf v).toNat)
          case atStart => exact ⟨0, Nat.zero_le _, rfl, rfl⟩
          case round =>
            obtain ⟨a, ha, rfl, rfl⟩ := hrel
            by_cases hlt : a < j
            · have hlt' : (a : Int) < (j : Int) := by omega
              obtain ⟨g, off, cap, hro, -, -, hcell⟩ := HL.out.f.at_ a hlt
              injection hro with hro _ hro2
              subst hro hro2
              have hni := HN.out a hlt
              obtain ⟨ia, ic, hiv, -, -, -⟩ := (HL.out.f.rows a hlt).form
              rw [hiv] at hcell
              have hlen : lvs.length = j := by have := HL.out.top.1; omega
              obtain ⟨g2, off2, cap2, hlo, -, -, hc2, -⟩ := HL.out.top.at_ (by omega)
              injection hlo with hlo _ hlo2
              subst hlo hlo2
              have hcell2 := hc2 a (by omega)
              have hlr := HL.out.rows a hlt
              obtain ⟨gl, ol, lc, hlv, -, -, hlc, -⟩ := vals_cells1 hlr (grown_len (mk := mk_words) (gw := gw_words) (sz := 1) (fun _ _ => rfl) (fun _ _ => rfl) _ _) (by omega)
              have hgd : lvs[a]? = some (lvs.getD a undef) := by
                rw [List.getD_eq_getElem?_getD, List.getElem?_eq_getElem (by omega)]; rfl
              rw [hgd, hlv] at hcell2
              have HLC : Hid (∀ k, k < n a + 16 → wc.cell? ⟨gl, ol + k, none⟩ = (grown mk_words gw_words (n a) a k)[0]?) := Lib.hid (fun k hk => hlc k hk)
              have HIC : Hid (∀ k, k < n a → ∃ gi oi, ia = some ⟨gi, oi, none⟩ ∧ wc.cell? ⟨gi, oi + k, none⟩ = (mk_words a k)[0]?) := Lib.hid (fun k hk => by
                obtain ⟨gi, oi, ci, e, -, -, hc, -⟩ := vals_cells1 (HL.out.f.rows a hlt) (HL.out.f.cl a) (by omega)
                rw [hiv] at e
                injection e with e _ _
                exact ⟨gi, oi, e, hc k hk⟩)
              clear hc2 hlr hlc hgd hlv hiv hlen
              go_wp2
              go_loopw [11] (fun v wr => ∃ k : Nat, k ≤ n a ∧ v = .int .i64 k ∧ wc = wr) (fun v _ => n a - (intOf v).toNat)
              case atStart => exact ⟨0, Nat.zero_le _, rfl, rfl⟩
              case round =>
                obtain ⟨k, hk, rfl, rfl⟩ := hrel
                by_cases hkn : k < n a
                · have hkn' : (k : Int) < (n a : Int) := by omega
                  obtain ⟨gi, oi, rfl, kc⟩ := HIC.out k hkn
                  have kl := HLC.out k (by omega)
                  rw [grown_lo hkn] at kl
                  unfold mk_words at kc kl
                  simp only [List.getElem?_cons_zero] at kc kl
                  have hwr : IntKind.u64.wrap ((a : Int) * 1000 + (k : Int) + 7000000) = (a : Int) * 1000 + (k : Int) + 7000000 := by rw [IntKind.wrap_u64]; omega
                  have e1 : ((a : Int) * 1000 + (k : Int) + 7000000 != (a : Int) * 1000 + (k : Int) + 7000000) = false := by simp
                  go_wp2
                  go_roundw
                  case rel => exact ⟨k + 1, by omega, by go_num, (by first | rfl | trivial)⟩
                  case measure => simp [intOf]; omega
                · have hkn' : (n a : Int) ≤ (k : Int) := by omega
                  go_wp2
                  go_loopw [12] (fun v wr => ∃ q : Nat, q ≤ 16 ∧ v = .int .i64 q ∧ wc = wr) (fun v _ => 16 - (intOf v).toNat)
                  case atStart => exact ⟨0, Nat.zero_le _, rfl, rfl⟩
                  case round =>
                    obtain ⟨q, hq, rfl, rfl⟩ := hrel
                    by_cases hqn : q < 16
                    · have hqn' : (q : Int) < 16 := by omega
                      have kl := HLC.out (n a + q) (by omega)
                      rw [grown_hi] at kl
                      unfold gw_words at kl
                      simp only [List.getElem?_cons_zero] at kl
                      have hwr : IntKind.u64.wrap ((-1 - (a : Int)) * 1000 + (q : Int) + 7000000) = (-1 - (a : Int)) * 1000 + (q : Int) + 7000000 := by rw [IntKind.wrap_u64]; omega
                      have e1 : ((-1 - (a : Int)) * 1000 + (q : Int) + 7000000 != (-1 - (a : Int)) * 1000 + (q : Int) + 7000000) = false := by simp
                      go_wp2
                      go_roundw
                      case rel => exact ⟨q + 1, by omega, by go_num, (by first | rfl | trivial)⟩
                      case measure => simp [intOf]; omega
                    · have hqn' : (16 : Int) ≤ (q : Int) := by omega
                      go_wp2
                      go_roundw
                      case rel => exact ⟨a + 1, by omega, by go_num, (by first | rfl | trivial)⟩
                      case measure => simp [intOf]; omega
            · have hlt' : (j : Int) ≤ (a : Int) := by omega
              go_wp2
              go_ret
              exact ⟨rfl, HS.out⟩
end Ck
end Go.Proofs.YticaipedpcmhfaaGreatDoor
/- ownInstrs: lists that share no memory, nor room behind, keep their marks. -/
namespace Go.Proofs.YticaipedpcmhfaaGreatDoor
open Go.RowKit Hp
namespace Ck
variable {w w' W : World} {ro : Value} {rvs : List Value} {N : Nat} {n : Nat → Nat} {c : Nat → Nat → List Value} {V : List Nat}

def mk_instrs (i k : Nat) : List Value := [.int .u8 0, .int .i64 ((i : Int) * 1000 + k)]
def gw_instrs (i k : Nat) : List Value := [.int .u8 0, .int .i64 ((-1 - (i : Int)) * 1000 + k)]
theorem info_instrs : (Tryz.prog.info? 66).map (fun i => (i.zero, i.size, i.bytes)) = some (some (.slice none 0 0), 1, 24) := by kernel_rfl
theorem infoE_instrs : (Tryz.prog.info? 82).map (fun i => (i.zero, i.size, i.bytes)) = some (some (.agg #[.int .u8 0, .int .i64 0]), 2, 16) := by kernel_rfl

set_option maxHeartbeats 3200000 in
set_option maxRecDepth 100000 in
theorem ownInstrs_any (h : FamV 66 82 2 W ro rvs N n c V) (hV : ∀ x ∈ V, x < W.heap.size) (hN : N ≤ 6000) (hn : ∀ i, i < N → n i ≤ 100000) : Calls Tryz.prog 69 #[ro] W fun e w' => e = .returned (.bool true) ∧ Same V W w' := by
  obtain ⟨ra, rc, rfl, -, -, -⟩ := h.top.form
  have H0 := Lib.hid h
  have HV := Lib.hid hV
  have HN := Lib.hid hn
  clear h hV hn
  go_enter Tryz.func69, Tryz.ntmps69
  go_wp2
  go_loopw [3] (fun v wr => ∃ (i : Nat) (c' : Nat → Nat → List Value), i ≤ N ∧ v = .int .i64 i ∧ FamV 66 82 2 wr (.slice ra N rc) rvs N n c' V ∧ (∀ a b, a < i → b < n a → c' a b = mk_instrs a b) ∧ Same V W wr) (fun v _ => N - (intOf v).toNat)
  case atStart => exact ⟨0, c, Nat.zero_le _, rfl, H0.out, fun a b h => by omega, Same.refl _ _⟩
  case round =>
    obtain ⟨i, c', hi, rfl, hf, hc, hs⟩ := hrel
    by_cases hlt : i < N
    · have hlt' : (i : Int) < (N : Int) := by omega
      obtain ⟨g, off, cap, hro, hgl, hgV, hcell⟩ := hf.at_ i hlt
      injection hro with hro _ hro2
      subst hro hro2
      have hni := HN.out i hlt
      obtain ⟨ia, ic, hiv, -, -, -⟩ := (hf.rows i hlt).form
      rw [hiv] at hcell
      have HF := Lib.hid hf
      have HC := Lib.hid hc
      have HS := Lib.hid hs
      have HIV := Lib.hid hiv
      clear hf hc hs hiv
      obtain ⟨wo, hwo⟩ : ∃ wo, wo = wr := ⟨_, rfl⟩
      subst hwo
      go_wp2
      go_loopw [4] (fun v wr => ∃ (j : Nat) (c2 : Nat → Nat → List Value), j ≤ n i ∧ v = .int .i64 j ∧ FamV 66 82 2 wr (.slice (some ⟨g, off, none⟩) N rc) rvs N n c2 V ∧ (∀ a b, a < i → b < n a → c2 a b = mk_instrs a b) ∧ (∀ b, b < j → c2 i b = mk_instrs i b) ∧ Same V W wr) (fun v _ => n i - (intOf v).toNat)
      case atStart => exact ⟨0, c', Nat.zero_le _, rfl, HF.out, HC.out, fun b h => by omega, HS.out⟩
      case round =>
        obtain ⟨j, c2, hj, rfl, hf2, hc2, hc3, hs2⟩ := hrel
        obtain ⟨g2, off2, cap2, hro, hgl2, hgV2, hcell2⟩ := hf2.at_ i hlt
        injection hro with hro _ hro2
        injection hro with hro
        injection hro with hro hro3 _
        subst hro hro2 hro3
        rw [HIV.out] at hcell2
        by_cases hjn : j < n i
        · have hjn' : (j : Int) < (n i : Int) := by omega
          obtain ⟨gi, oi, ci, hri, -, hgil, hci, hcf⟩ := vals_cells (hf2.rows i hlt) (hf2.cl i) (by omega)
          rw [HIV.out] at hri
          injection hri with hri _ hri2
          subst hri hri2
          have kj0 := hci j 0 hjn (by omega)
          have kj1 := hci j 1 hjn (by omega)
          have hlc := hf2.cl i j
          rw [List.getElem?_eq_getElem (by omega)] at kj0 kj1
          rw [Nat.add_zero] at kj0
          have hfz0 := hcf (oi + j * 2)
          have hfz1 := hcf (oi + j * 2 + 1)
          have hgiV : gi ∈ V := hf2.rowIn i hlt gi (by rw [HIV.out]; simp [blk])
          have HF2x := hf2
          have HNEW := Lib.hid (HF2x.put2 (by decide) i j hlt hjn gi oi ic HIV.out (.int .u8 0) (.int .i64 ((i : Int) * 1000 + (j : Int))))
          have HC2 := Lib.hid hc2
          have HC3 := Lib.hid hc3
          have HS2 : Hid (Same V W ((wr.setCell ⟨gi, oi + j * 2, none⟩ (.int .u8 0)).setCell ⟨gi, oi + j * 2 + 1, none⟩ (.int .i64 ((i : Int) * 1000 + (j : Int))))) := Lib.hid ((hs2.setCell (.inl hgiV) _).setCell (.inl hgiV) _)
          clear hf2 hc2 hc3 hs2 hci hcf HF2x hgiV
          go_wp2
          go_roundw
          case rel =>
            refine ⟨j + 1, _, by omega, by go_num, HNEW.out, fun a b h1 h2 => ?_, fun b h1 => ?_, HS2.out⟩
            · rw [if_neg (by omega)]; exact HC2.out a b h1 h2
            · by_cases e : b = j
              · rw [if_pos ⟨rfl, e⟩, e]; rfl
              · rw [if_neg (by omega)]; exact HC3.out b (by omega)
          case measure => simp [intOf]; omega
        · have hge : (n i : Int) ≤ (j : Int) := by omega
          have hje : j = n i := by omega
          have HX : Hid (∀ a b, a < i + 1 → b < n a → c2 a b = mk_instrs a b) := Lib.hid (fun a b h1 h2 => by
            by_cases e : a = i
            · subst e; exact hc3 b (by omega)
            · exact hc2 a b (by omega) h2)
          have HF2 := Lib.hid hf2
          have HS2 := Lib.hid hs2
          clear hf2 hc2 hc3 hs2 hje
          go_wp2
          go_roundw
          case rel => exact ⟨i + 1, c2, by omega, by go_num, HF2.out, HX.out, HS2.out⟩
          case measure => simp [intOf]; omega
    · have hiN : i = N := by omega
      have hge : (N : Int) ≤ (i : Int) := by omega
      have hL0 : Lgv 66 82 2 mk_instrs gw_instrs W.heap.size wr (.slice ra N rc) rvs N n V 0 (.slice none 0 0) [] := ⟨hf.congr (fun _ _ => rfl) (fun a b ha hb => (hc a b (by omega) hb).symm), fun _ _ => rfl, by decide, Row.nil _ _ _, by simp [blk], fun a ha => by omega, fun a ha => by omega, fun a b ha => by omega⟩
      have HL0 := Lib.hid hL0
      have HS0 := Lib.hid hs
      clear hf hc hs hL0 hlt hi
      obtain ⟨wa, hwa⟩ : ∃ wa, wa = wr := ⟨_, rfl⟩
      subst hwa
      subst hiN
      go_wp2
      go_loopw [5, 6] (fun lo v wr => ∃ (j : Nat) (lvs : List Value), j ≤ i ∧ v = .int .i64 j ∧ Lgv 66 82 2 mk_instrs gw_instrs W.heap.size wr (.slice ra i rc) rvs i n V j lo lvs ∧ Same V W wr) (fun _ v _ => i - (intOf v).toNat)
      case atStart => exact ⟨0, [], Nat.zero_le _, rfl, HL0.out, HS0.out⟩
      case round =>
        obtain ⟨j, lvs, hj, rfl, hl, hs⟩ := hrel
        obtain ⟨loa, loc, rfl, -, -, -⟩ := hl.top.form
        by_cases hlt : j < i
        · have hlt' : (j : Int) < (i : Int) := by omega
          obtain ⟨g, off, cap, hro, hgl, hgV, hcell⟩ := hl.f.at_ j hlt
          injection hro with hro _ hro2
          subst hro hro2
          have hni := HN.out j hlt
          have hx0 := hl.start hlt HV.out
          obtain ⟨ia, ic, hiv, -, -, -⟩ := (hl.f.rows j hlt).form
          rw [hiv] at hcell hx0
          have HX0 := Lib.hid hx0
          have HS := Lib.hid hs
          have HIV := Lib.hid hiv
          clear hl hx0 hs hiv
          obtain ⟨wo, hwo⟩ : ∃ wo, wo = wr := ⟨_, rfl⟩
          subst hwo
          go_wp2
          go_loopw [7, 8] (fun x v wr => ∃ k : Nat, k ≤ 16 ∧ v = .int .i64 k ∧ Lxv 66 82 2 mk_instrs gw_instrs W.heap.size wr (.slice (some ⟨g, off, none⟩) i rc) rvs i n V j (.slice loa j loc) lvs k x ∧ Same V W wr) (fun _ v _ => 16 - (intOf v).toNat)
          case atStart => exact ⟨0, Nat.zero_le _, rfl, HX0.out, HS.out⟩
          case round =>
            obtain ⟨k, hk, rfl, hx, hs2⟩ := hrel
            obtain ⟨xa, xc, rfl, -, -, -⟩ := hx.row.form
            by_cases hk16 : k < 16
            · have hk' : (k : Int) < 16 := by omega
              have HX := Lib.hid hx
              have HS2 := Lib.hid hs2
              have HNUM : Hid (vals (n j + k) (grown mk_instrs gw_instrs (n j) j) ++ [.int .u8 0, .int .i64 ((-1 - (j : Int)) * 1000 + (k : Int))] = vals (n j + (k + 1)) (grown mk_instrs gw_instrs (n j) j)) := Lib.hid (by
                rw [← Nat.add_assoc, vals_succ, grown_hi]; rfl)
              clear hx hs2
              go_wp2_with (at_builtin; refine wpList_append_two _ rfl (.tmp 53) (.tmp 60) 66 rfl 82 (.agg #[.int .u8 0, .int .i64 0]) 2 16 Tryz.underlying66 infoE_instrs rfl (by decide) (.slice xa (n j + k) xc) (n j + k) (vals (n j + k) (grown mk_instrs gw_instrs (n j) j)) rfl ?a1 ⟨wr.heap.size, 0, none⟩ 1 1 [.int .u8 0, .int .i64 ((-1 - (j : Int)) * 1000 + (k : Int))] rfl rfl ?a2 ?a3 ?a4 ?a5 ?a6)
              case a1 => exact HX.out.row.alloc _
              case a2 => exact cells2_new _ _ _ _
              case a3 => intro u hu; simp at hu; rcases hu with rfl | rfl <;> rfl
              case a4 => unfold maxLen; omega
              case a5 => omega
              case a6 =>
                intro v' w1 hrow hcase
                have hc2 : (∃ A C, Value.slice xa (n j + k) xc = .slice A (n j + k) C ∧ v' = .slice A (n j + k + 1) C) ∧ Same (blk (.slice xa (n j + k) xc)) wr w1 ∨ Same [] wr w1 ∧ ∀ y ∈ blk v', wr.heap.size ≤ y := by
                  rcases hcase with ⟨⟨A, C, e1, e2⟩, h1⟩ | ⟨h1, h2⟩
                  · exact .inl ⟨⟨A, C, by rw [e1.1, e1.2], e2⟩, ((Same.refl _ _).alloc _).trans h1⟩
                  · exact .inr ⟨((Same.refl _ _).alloc _).trans h1, fun y hy => by have := h2 y hy; omega⟩
                have hsz := HS2.out.size
                have hx1 := HX.out.step hlt HV.out hsz (by rw [← HNUM.out]; exact hrow) hc2
                have hs1 : Same V W w1 := by
                  rcases hc2 with ⟨_, h1⟩ | ⟨h1, _⟩
                  · refine HS2.out.trans' h1 (fun y hy => ?_)
                    rcases HX.out.own y hy with h3 | h3
                    · exact .inl (HX.out.l.f.rowIn j hlt y h3)
                    · exact .inr h3
                  · exact HS2.out.trans' h1 (by simp)
                obtain ⟨a5, c5, rfl, -, -, -⟩ := hrow.form
                have HX1 := Lib.hid hx1
                have HS1 := Lib.hid hs1
                clear hrow hcase hc2 hx1 hs1 hsz
                go_wp2
                go_roundw
                case rel => exact ⟨k + 1, by omega, by go_num, HX1.out, HS1.out⟩
                case measure => simp [intOf]; omega
            · have hke : k = 16 := by omega
              subst hke
              have HX := Lib.hid hx
              have HS2 := Lib.hid hs2
              clear hx hs2 hk16
              rw [show ((16 : Nat) : Int) = 16 from rfl]
              go_wp2_with (at_builtin; refine wpList_append_row _ rfl (.tmp 62) (.tmp 64) 48 rfl 66 (.slice none 0 0) 1 24 Tryz.underlying48 info_instrs rfl (by decide) (.slice loa j loc) j lvs rfl ?b1 ⟨wr.heap.size, 0, none⟩ 1 1 [.slice xa (n j + 16) xc] rfl rfl ?b2 ?b3 ?b4 ?b5 ?b6)
              case b1 => exact HX.out.l.top.alloc _
              case b2 => exact cells1_new _ _ _
              case b3 => intro u hu; simp at hu; subst hu; rfl
              case b4 => unfold maxLen; omega
              case b5 => omega
              case b6 =>
                intro v' w1 hrow hsm hbk
                have hs1 : Same (blk (.slice loa j loc)) wr w1 := ((Same.refl _ _).alloc _).trans hsm
                have hl1 := HX.out.done hlt HV.out HS2.out.size (by simpa using hrow) hs1 (fun y hy => by
                  rcases hbk y hy with h | h
                  · exact .inl h
                  · right; omega)
                have hsv : Same V W w1 := HS2.out.trans' hs1 (fun y hy => .inr (HX.out.l.topN y hy))
                obtain ⟨a5, c5, rfl, -, -, -⟩ := hrow.form
                have HL1 := Lib.hid hl1
                have HSV := Lib.hid hsv
                clear hrow hsm hbk hs1 hl1 hsv
                go_wp2
                go_roundw
                case rel => exact ⟨j + 1, _, by omega, by go_num, HL1.out, HSV.out⟩
                case measure => simp [intOf]; omega
        · have hje : j = i := by omega
          have hge2 : (i : Int) ≤ (j : Int) := by omega
          subst hje
          have HL := Lib.hid hl
          have HS := Lib.hid hs
          clear hl hs hlt hj
          obtain ⟨wc, hwc⟩ : ∃ wc, wc = wr := ⟨_, rfl⟩
          subst hwc
          go_wp2
          go_loopw [9] (fun v wr => ∃ a : Nat, a ≤ j ∧ v = .int .i64 a ∧ wc = wr) (fun v _ => j - (intOf v).toNat)
          case atStart => exact ⟨0, Nat.zero_le _, rfl, rfl⟩
          case round =>
            obtain ⟨a, ha, rfl, rfl⟩ := hrel
            by_cases hlt : a < j
            · have hlt' : (a : Int) < (j : Int) := by omega
              obtain ⟨g, off, cap, hro, -, -, hcell⟩ := HL.out.f.at_ a hlt
              injection hro with hro _ hro2
              subst hro hro2
              have hni := HN.out a hlt
              obtain ⟨ia, ic, hiv, -, -, -⟩ := (HL.out.f.rows a hlt).form
              rw [hiv] at hcell
              have hlen : lvs.length = j := by have := HL.out.top.1; omega
              obtain ⟨g2, off2, cap2, hlo, -, -, hc2, -⟩ := HL.out.top.at_ (by omega)
              injection hlo with hlo _ hlo2
              subst hlo hlo2
              have hcell2 := hc2 a (by omega)
              have hlr := HL.out.rows a hlt
              obtain ⟨gl, ol, lc, hlv, -, -, hlc, -⟩ := vals_cells hlr (grown_len (mk := mk_instrs) (gw := gw_instrs) (sz := 2) (fun _ _ => rfl) (fun _ _ => rfl) _ _) (by omega)
              have hgd : lvs[a]? = some (lvs.getD a undef) := by
                rw [List.getD_eq_getElem?_getD, List.getElem?_eq_getElem (by omega)]; rfl
              rw [hgd, hlv] at hcell2
              have HLC : Hid (∀ k r, k < n a + 16 → r < 2 → wc.cell? ⟨gl, ol + k * 2 + r, none⟩ = (grown mk_instrs gw_instrs (n a) a k)[r]?) := Lib.hid (fun k r hk hr => hlc k r hk hr)
              have HIC : Hid (∀ k, k < n a → ∃ gi oi, ia = some ⟨gi, oi, none⟩ ∧ ∀ r, r < 2 → wc.cell? ⟨gi, oi + k * 2 + r, none⟩ = (mk_instrs a k)[r]?) := Lib.hid (fun k hk => by
                obtain ⟨gi, oi, ci, e, -, -, hc, -⟩ := vals_cells (HL.out.f.rows a hlt) (HL.out.f.cl a) (by omega)
                rw [hiv] at e
                injection e with e _ _
                exact ⟨gi, oi, e, fun r hr => hc k r hk hr⟩)
              clear hc2 hlr hlc hgd hlv hiv hlen
              go_wp2
              go_loopw [11] (fun v wr => ∃ k : Nat, k ≤ n a ∧ v = .int .i64 k ∧ wc = wr) (fun v _ => n a - (intOf v).toNat)
              case atStart => exact ⟨0, Nat.zero_le _, rfl, rfl⟩
              case round =>
                obtain ⟨k, hk, rfl, rfl⟩ := hrel
                by_cases hkn : k < n a
                · have hkn' : (k : Int) < (n a : Int) := by omega
                  obtain ⟨gi, oi, rfl, kc⟩ := HIC.out k hkn
                  have kc0 := kc 0 (by omega)
                  have kc1 := kc 1 (by omega)
                  have kl0 := HLC.out k 0 (by omega) (by omega)
                  have kl1 := HLC.out k 1 (by omega) (by omega)
                  rw [grown_lo hkn] at kl0 kl1
                  unfold mk_instrs at kc0 kc1 kl0 kl1
                  simp only [List.getElem?_cons_zero, List.getElem?_cons_succ, Nat.add_zero] at kc0 kc1 kl0 kl1
                  clear kc
                  have e1 : ((a : Int) * 1000 + (k : Int) != (a : Int) * 1000 + (k : Int)) = false := by simp
                  go_wp2
                  go_roundw
                  case rel => exact ⟨k + 1, by omega, by go_num, (by first | rfl | trivial)⟩
                  case measure => simp [intOf]; omega
                · have hkn' : (n a : Int) ≤ (k : Int) := by omega
                  go_wp2
                  go_loopw [12] (fun v wr => ∃ q : Nat, q ≤ 16 ∧ v = .int .i64 q ∧ wc = wr) (fun v _ => 16 - (intOf v).toNat)
                  case atStart => exact ⟨0, Nat.zero_le _, rfl, rfl⟩
                  case round =>
                    obtain ⟨q, hq, rfl, rfl⟩ := hrel
                    by_cases hqn : q < 16
                    · have hqn' : (q : Int) < 16 := by omega
                      have kl0 := HLC.out (n a + q) 0 (by omega) (by omega)
                      have kl1 := HLC.out (n a + q) 1 (by omega) (by omega)
                      rw [grown_hi] at kl0 kl1
                      unfold gw_instrs at kl0 kl1
                      simp only [List.getElem?_cons_zero, List.getElem?_cons_succ, Nat.add_zero] at kl0 kl1
                      have e1 : ((-1 - (a : Int)) * 1000 + (q : Int) != (-1 - (a : Int)) * 1000 + (q : Int)) = false := by simp
                      go_wp2
                      go_roundw
                      case rel => exact ⟨q + 1, by omega, by go_num, (by first | rfl | trivial)⟩
                      case measure => simp [intOf]; omega
                    · have hqn' : (16 : Int) ≤ (q : Int) := by omega
                      go_wp2
                      go_roundw
                      case rel => exact ⟨a + 1, by omega, by go_num, (by first | rfl | trivial)⟩
                      case measure => simp [intOf]; omega
            · have hlt' : (j : Int) ≤ (a : Int) := by omega
              go_wp2
              go_ret
              exact ⟨rfl, HS.out⟩
end Ck
end Go.Proofs.YticaipedpcmhfaaGreatDoor
/- ownProcs: lists that share no memory, nor room behind, keep their marks. -/
namespace Go.Proofs.YticaipedpcmhfaaGreatDoor
open Go.RowKit Hp
namespace Ck
variable {w w' W : World} {ro : Value} {rvs : List Value} {N : Nat} {n : Nat → Nat} {c : Nat → Nat → List Value} {V : List Nat}

def mk_procs (i k : Nat) : List Value := [.int .i64 ((i : Int) * 1000 + k), .slice none 0 0]
def gw_procs (i k : Nat) : List Value := [.int .i64 ((-1 - (i : Int)) * 1000 + k), .slice none 0 0]
theorem info_procs : (Tryz.prog.info? 23).map (fun i => (i.zero, i.size, i.bytes)) = some (some (.slice none 0 0), 1, 24) := by kernel_rfl
theorem infoE_procs : (Tryz.prog.info? 68).map (fun i => (i.zero, i.size, i.bytes)) = some (some (.agg #[.int .i64 0, .slice none 0 0]), 2, 32) := by kernel_rfl

set_option maxHeartbeats 3200000 in
set_option maxRecDepth 100000 in
theorem ownProcs_any (h : FamV 23 68 2 W ro rvs N n c V) (hV : ∀ x ∈ V, x < W.heap.size) (hN : N ≤ 6000) (hn : ∀ i, i < N → n i ≤ 100000) : Calls Tryz.prog 77 #[ro] W fun e w' => e = .returned (.bool true) ∧ Same V W w' := by
  obtain ⟨ra, rc, rfl, -, -, -⟩ := h.top.form
  have H0 := Lib.hid h
  have HV := Lib.hid hV
  have HN := Lib.hid hn
  clear h hV hn
  go_enter Tryz.func77, Tryz.ntmps77
  go_wp2
  go_loopw [3] (fun v wr => ∃ (i : Nat) (c' : Nat → Nat → List Value), i ≤ N ∧ v = .int .i64 i ∧ FamV 23 68 2 wr (.slice ra N rc) rvs N n c' V ∧ (∀ a b, a < i → b < n a → c' a b = mk_procs a b) ∧ Same V W wr) (fun v _ => N - (intOf v).toNat)
  case atStart => exact ⟨0, c, Nat.zero_le _, rfl, H0.out, fun a b h => by omega, Same.refl _ _⟩
  case round =>
    obtain ⟨i, c', hi, rfl, hf, hc, hs⟩ := hrel
    by_cases hlt : i < N
    · have hlt' : (i : Int) < (N : Int) := by omega
      obtain ⟨g, off, cap, hro, hgl, hgV, hcell⟩ := hf.at_ i hlt
      injection hro with hro _ hro2
      subst hro hro2
      have hni := HN.out i hlt
      obtain ⟨ia, ic, hiv, -, -, -⟩ := (hf.rows i hlt).form
      rw [hiv] at hcell
      have HF := Lib.hid hf
      have HC := Lib.hid hc
      have HS := Lib.hid hs
      have HIV := Lib.hid hiv
      clear hf hc hs hiv
      obtain ⟨wo, hwo⟩ : ∃ wo, wo = wr := ⟨_, rfl⟩
      subst hwo
      go_wp2
      go_loopw [4] (fun v wr => ∃ (j : Nat) (c2 : Nat → Nat → List Value), j ≤ n i ∧ v = .int .i64 j ∧ FamV 23 68 2 wr (.slice (some ⟨g, off, none⟩) N rc) rvs N n c2 V ∧ (∀ a b, a < i → b < n a → c2 a b = mk_procs a b) ∧ (∀ b, b < j → c2 i b = mk_procs i b) ∧ Same V W wr) (fun v _ => n i - (intOf v).toNat)
      case atStart => exact ⟨0, c', Nat.zero_le _, rfl, HF.out, HC.out, fun b h => by omega, HS.out⟩
      case round =>
        obtain ⟨j, c2, hj, rfl, hf2, hc2, hc3, hs2⟩ := hrel
        obtain ⟨g2, off2, cap2, hro, hgl2, hgV2, hcell2⟩ := hf2.at_ i hlt
        injection hro with hro _ hro2
        injection hro with hro
        injection hro with hro hro3 _
        subst hro hro2 hro3
        rw [HIV.out] at hcell2
        by_cases hjn : j < n i
        · have hjn' : (j : Int) < (n i : Int) := by omega
          obtain ⟨gi, oi, ci, hri, -, hgil, hci, hcf⟩ := vals_cells (hf2.rows i hlt) (hf2.cl i) (by omega)
          rw [HIV.out] at hri
          injection hri with hri _ hri2
          subst hri hri2
          have kj0 := hci j 0 hjn (by omega)
          have kj1 := hci j 1 hjn (by omega)
          have hlc := hf2.cl i j
          rw [List.getElem?_eq_getElem (by omega)] at kj0 kj1
          rw [Nat.add_zero] at kj0
          have hfz0 := hcf (oi + j * 2)
          have hfz1 := hcf (oi + j * 2 + 1)
          have hgiV : gi ∈ V := hf2.rowIn i hlt gi (by rw [HIV.out]; simp [blk])
          have HF2x := hf2
          have HNEW := Lib.hid (HF2x.put2 (by decide) i j hlt hjn gi oi ic HIV.out (.int .i64 ((i : Int) * 1000 + (j : Int))) (.slice none 0 0))
          have HC2 := Lib.hid hc2
          have HC3 := Lib.hid hc3
          have HS2 : Hid (Same V W ((wr.setCell ⟨gi, oi + j * 2, none⟩ (.int .i64 ((i : Int) * 1000 + (j : Int)))).setCell ⟨gi, oi + j * 2 + 1, none⟩ (.slice none 0 0))) := Lib.hid ((hs2.setCell (.inl hgiV) _).setCell (.inl hgiV) _)
          clear hf2 hc2 hc3 hs2 hci hcf HF2x hgiV
          go_wp2
          go_roundw
          case rel =>
            refine ⟨j + 1, _, by omega, by go_num, HNEW.out, fun a b h1 h2 => ?_, fun b h1 => ?_, HS2.out⟩
            · rw [if_neg (by omega)]; exact HC2.out a b h1 h2
            · by_cases e : b = j
              · rw [if_pos ⟨rfl, e⟩, e]; rfl
              · rw [if_neg (by omega)]; exact HC3.out b (by omega)
          case measure => simp [intOf]; omega
        · have hge : (n i : Int) ≤ (j : Int) := by omega
          have hje : j = n i := by omega
          have HX : Hid (∀ a b, a < i + 1 → b < n a → c2 a b = mk_procs a b) := Lib.hid (fun a b h1 h2 => by
            by_cases e : a = i
            · subst e; exact hc3 b (by omega)
            · exact hc2 a b (by omega) h2)
          have HF2 := Lib.hid hf2
          have HS2 := Lib.hid hs2
          clear hf2 hc2 hc3 hs2 hje
          go_wp2
          go_roundw
          case rel => exact ⟨i + 1, c2, by omega, by go_num, HF2.out, HX.out, HS2.out⟩
          case measure => simp [intOf]; omega
    · have hiN : i = N := by omega
      have hge : (N : Int) ≤ (i : Int) := by omega
      have hL0 : Lgv 23 68 2 mk_procs gw_procs W.heap.size wr (.slice ra N rc) rvs N n V 0 (.slice none 0 0) [] := ⟨hf.congr (fun _ _ => rfl) (fun a b ha hb => (hc a b (by omega) hb).symm), fun _ _ => rfl, by decide, Row.nil _ _ _, by simp [blk], fun a ha => by omega, fun a ha => by omega, fun a b ha => by omega⟩
      have HL0 := Lib.hid hL0
      have HS0 := Lib.hid hs
      clear hf hc hs hL0 hlt hi
      obtain ⟨wa, hwa⟩ : ∃ wa, wa = wr := ⟨_, rfl⟩
      subst hwa
      subst hiN
      go_wp2
      go_loopw [5, 6] (fun lo v wr => ∃ (j : Nat) (lvs : List Value), j ≤ i ∧ v = .int .i64 j ∧ Lgv 23 68 2 mk_procs gw_procs W.heap.size wr (.slice ra i rc) rvs i n V j lo lvs ∧ Same V W wr) (fun _ v _ => i - (intOf v).toNat)
      case atStart => exact ⟨0, [], Nat.zero_le _, rfl, HL0.out, HS0.out⟩
      case round =>
        obtain ⟨j, lvs, hj, rfl, hl, hs⟩ := hrel
        obtain ⟨loa, loc, rfl, -, -, -⟩ := hl.top.form
        by_cases hlt : j < i
        · have hlt' : (j : Int) < (i : Int) := by omega
          obtain ⟨g, off, cap, hro, hgl, hgV, hcell⟩ := hl.f.at_ j hlt
          injection hro with hro _ hro2
          subst hro hro2
          have hni := HN.out j hlt
          have hx0 := hl.start hlt HV.out
          obtain ⟨ia, ic, hiv, -, -, -⟩ := (hl.f.rows j hlt).form
          rw [hiv] at hcell hx0
          have HX0 := Lib.hid hx0
          have HS := Lib.hid hs
          have HIV := Lib.hid hiv
          clear hl hx0 hs hiv
          obtain ⟨wo, hwo⟩ : ∃ wo, wo = wr := ⟨_, rfl⟩
          subst hwo
          go_wp2
          go_loopw [7, 8] (fun x v wr => ∃ k : Nat, k ≤ 16 ∧ v = .int .i64 k ∧ Lxv 23 68 2 mk_procs gw_procs W.heap.size wr (.slice (some ⟨g, off, none⟩) i rc) rvs i n V j (.slice loa j loc) lvs k x ∧ Same V W wr) (fun _ v _ => 16 - (intOf v).toNat)
          case atStart => exact ⟨0, Nat.zero_le _, rfl, HX0.out, HS.out⟩
          case round =>
            obtain ⟨k, hk, rfl, hx, hs2⟩ := hrel
            obtain ⟨xa, xc, rfl, -, -, -⟩ := hx.row.form
            by_cases hk16 : k < 16
            · have hk' : (k : Int) < 16 := by omega
              have HX := Lib.hid hx
              have HS2 := Lib.hid hs2
              have HNUM : Hid (vals (n j + k) (grown mk_procs gw_procs (n j) j) ++ [.int .i64 ((-1 - (j : Int)) * 1000 + (k : Int)), .slice none 0 0] = vals (n j + (k + 1)) (grown mk_procs gw_procs (n j) j)) := Lib.hid (by
                rw [← Nat.add_assoc, vals_succ, grown_hi]; rfl)
              clear hx hs2
              go_wp2_with (at_builtin; refine wpList_append_two _ rfl (.tmp 53) (.tmp 60) 23 rfl 68 (.agg #[.int .i64 0, .slice none 0 0]) 2 32 Tryz.underlying23 infoE_procs rfl (by decide) (.slice xa (n j + k) xc) (n j + k) (vals (n j + k) (grown mk_procs gw_procs (n j) j)) rfl ?a1 ⟨wr.heap.size, 0, none⟩ 1 1 [.int .i64 ((-1 - (j : Int)) * 1000 + (k : Int)), .slice none 0 0] rfl rfl ?a2 ?a3 ?a4 ?a5 ?a6)
              case a1 => exact HX.out.row.alloc _
              case a2 => exact cells2_new _ _ _ _
              case a3 => intro u hu; simp at hu; rcases hu with rfl | rfl <;> rfl
              case a4 => unfold maxLen; omega
              case a5 => omega
              case a6 =>
                intro v' w1 hrow hcase
                have hc2 : (∃ A C, Value.slice xa (n j + k) xc = .slice A (n j + k) C ∧ v' = .slice A (n j + k + 1) C) ∧ Same (blk (.slice xa (n j + k) xc)) wr w1 ∨ Same [] wr w1 ∧ ∀ y ∈ blk v', wr.heap.size ≤ y := by
                  rcases hcase with ⟨⟨A, C, e1, e2⟩, h1⟩ | ⟨h1, h2⟩
                  · exact .inl ⟨⟨A, C, by rw [e1.1, e1.2], e2⟩, ((Same.refl _ _).alloc _).trans h1⟩
                  · exact .inr ⟨((Same.refl _ _).alloc _).trans h1, fun y hy => by have := h2 y hy; omega⟩
                have hsz := HS2.out.size
                have hx1 := HX.out.step hlt HV.out hsz (by rw [← HNUM.out]; exact hrow) hc2
                have hs1 : Same V W w1 := by
                  rcases hc2 with ⟨_, h1⟩ | ⟨h1, _⟩
                  · refine HS2.out.trans' h1 (fun y hy => ?_)
                    rcases HX.out.own y hy with h3 | h3
                    · exact .inl (HX.out.l.f.rowIn j hlt y h3)
                    · exact .inr h3
                  · exact HS2.out.trans' h1 (by simp)
                obtain ⟨a5, c5, rfl, -, -, -⟩ := hrow.form
                have HX1 := Lib.hid hx1
                have HS1 := Lib.hid hs1
                clear hrow hcase hc2 hx1 hs1 hsz
                go_wp2
                go_roundw
                case rel => exact ⟨k + 1, by omega, by go_num, HX1.out, HS1.out⟩
                case measure => simp [intOf]; omega
            · have hke : k = 16 := by omega
              subst hke
              have HX := Lib.hid hx
              have HS2 := Lib.hid hs2
              clear hx hs2 hk16
              rw [show ((16 : Nat) : Int) = 16 from rfl]
              go_wp2_with (at_builtin; refine wpList_append_row _ rfl (.tmp 62) (.tmp 64) 55 rfl 23 (.slice none 0 0) 1 24 Tryz.underlying55 info_procs rfl (by decide) (.slice loa j loc) j lvs rfl ?b1 ⟨wr.heap.size, 0, none⟩ 1 1 [.slice xa (n j + 16) xc] rfl rfl ?b2 ?b3 ?b4 ?b5 ?b6)
              case b1 => exact HX.out.l.top.alloc _
              case b2 => exact cells1_new _ _ _
              case b3 => intro u hu; simp at hu; subst hu; rfl
              case b4 => unfold maxLen; omega
              case b5 => omega
              case b6 =>
                intro v' w1 hrow hsm hbk
                have hs1 : Same (blk (.slice loa j loc)) wr w1 := ((Same.refl _ _).alloc _).trans hsm
                have hl1 := HX.out.done hlt HV.out HS2.out.size (by simpa using hrow) hs1 (fun y hy => by
                  rcases hbk y hy with h | h
                  · exact .inl h
                  · right; omega)
                have hsv : Same V W w1 := HS2.out.trans' hs1 (fun y hy => .inr (HX.out.l.topN y hy))
                obtain ⟨a5, c5, rfl, -, -, -⟩ := hrow.form
                have HL1 := Lib.hid hl1
                have HSV := Lib.hid hsv
                clear hrow hsm hbk hs1 hl1 hsv
                go_wp2
                go_roundw
                case rel => exact ⟨j + 1, _, by omega, by go_num, HL1.out, HSV.out⟩
                case measure => simp [intOf]; omega
        · have hje : j = i := by omega
          have hge2 : (i : Int) ≤ (j : Int) := by omega
          subst hje
          have HL := Lib.hid hl
          have HS := Lib.hid hs
          clear hl hs hlt hj
          obtain ⟨wc, hwc⟩ : ∃ wc, wc = wr := ⟨_, rfl⟩
          subst hwc
          go_wp2
          go_loopw [9] (fun v wr => ∃ a : Nat, a ≤ j ∧ v = .int .i64 a ∧ wc = wr) (fun v _ => j - (intOf v).toNat)
          case atStart => exact ⟨0, Nat.zero_le _, rfl, rfl⟩
          case round =>
            obtain ⟨a, ha, rfl, rfl⟩ := hrel
            by_cases hlt : a < j
            · have hlt' : (a : Int) < (j : Int) := by omega
              obtain ⟨g, off, cap, hro, -, -, hcell⟩ := HL.out.f.at_ a hlt
              injection hro with hro _ hro2
              subst hro hro2
              have hni := HN.out a hlt
              obtain ⟨ia, ic, hiv, -, -, -⟩ := (HL.out.f.rows a hlt).form
              rw [hiv] at hcell
              have hlen : lvs.length = j := by have := HL.out.top.1; omega
              obtain ⟨g2, off2, cap2, hlo, -, -, hc2, -⟩ := HL.out.top.at_ (by omega)
              injection hlo with hlo _ hlo2
              subst hlo hlo2
              have hcell2 := hc2 a (by omega)
              have hlr := HL.out.rows a hlt
              obtain ⟨gl, ol, lc, hlv, -, -, hlc, -⟩ := vals_cells hlr (grown_len (mk := mk_procs) (gw := gw_procs) (sz := 2) (fun _ _ => rfl) (fun _ _ => rfl) _ _) (by omega)
              have hgd : lvs[a]? = some (lvs.getD a undef) := by
                rw [List.getD_eq_getElem?_getD, List.getElem?_eq_getElem (by omega)]; rfl
              rw [hgd, hlv] at hcell2
              have HLC : Hid (∀ k r, k < n a + 16 → r < 2 → wc.cell? ⟨gl, ol + k * 2 + r, none⟩ = (grown mk_procs gw_procs (n a) a k)[r]?) := Lib.hid (fun k r hk hr => hlc k r hk hr)
              have HIC : Hid (∀ k, k < n a → ∃ gi oi, ia = some ⟨gi, oi, none⟩ ∧ ∀ r, r < 2 → wc.cell? ⟨gi, oi + k * 2 + r, none⟩ = (mk_procs a k)[r]?) := Lib.hid (fun k hk => by
                obtain ⟨gi, oi, ci, e, -, -, hc, -⟩ := vals_cells (HL.out.f.rows a hlt) (HL.out.f.cl a) (by omega)
                rw [hiv] at e
                injection e with e _ _
                exact ⟨gi, oi, e, fun r hr => hc k r hk hr⟩)
              clear hc2 hlr hlc hgd hlv hiv hlen
              go_wp2
              go_loopw [11] (fun v wr => ∃ k : Nat, k ≤ n a ∧ v = .int .i64 k ∧ wc = wr) (fun v _ => n a - (intOf v).toNat)
              case atStart => exact ⟨0, Nat.zero_le _, rfl, rfl⟩
              case round =>
                obtain ⟨k, hk, rfl, rfl⟩ := hrel
                by_cases hkn : k < n a
                · have hkn' : (k : Int) < (n a : Int) := by omega
                  obtain ⟨gi, oi, rfl, kc⟩ := HIC.out k hkn
                  have kc0 := kc 0 (by omega)
                  have kc1 := kc 1 (by omega)
                  have kl0 := HLC.out k 0 (by omega) (by omega)
                  have kl1 := HLC.out k 1 (by omega) (by omega)
                  rw [grown_lo hkn] at kl0 kl1
                  unfold mk_procs at kc0 kc1 kl0 kl1
                  simp only [List.getElem?_cons_zero, List.getElem?_cons_succ, Nat.add_zero] at kc0 kc1 kl0 kl1
                  clear kc
                  have e1 : ((a : Int) * 1000 + (k : Int) != (a : Int) * 1000 + (k : Int)) = false := by simp
                  have hfd : ∀ w : World, (Instr.field 68 (.agg #[.int .i64 ((a : Int) * 1000 + (k : Int)), .slice none 0 0]) 0).run Tryz.prog w = .ok (.int .i64 ((a : Int) * 1000 + (k : Int))) w := fun _ => by kernel_rfl
                  go_wp2
                  go_roundw
                  case rel => exact ⟨k + 1, by omega, by go_num, (by first | rfl | trivial)⟩
                  case measure => simp [intOf]; omega
                · have hkn' : (n a : Int) ≤ (k : Int) := by omega
                  go_wp2
                  go_loopw [12] (fun v wr => ∃ q : Nat, q ≤ 16 ∧ v = .int .i64 q ∧ wc = wr) (fun v _ => 16 - (intOf v).toNat)
                  case atStart => exact ⟨0, Nat.zero_le _, rfl, rfl⟩
                  case round =>
                    obtain ⟨q, hq, rfl, rfl⟩ := hrel
                    by_cases hqn : q < 16
                    · have hqn' : (q : Int) < 16 := by omega
                      have kl0 := HLC.out (n a + q) 0 (by omega) (by omega)
                      have kl1 := HLC.out (n a + q) 1 (by omega) (by omega)
                      rw [grown_hi] at kl0 kl1
                      unfold gw_procs at kl0 kl1
                      simp only [List.getElem?_cons_zero, List.getElem?_cons_succ, Nat.add_zero] at kl0 kl1
                      have e1 : ((-1 - (a : Int)) * 1000 + (q : Int) != (-1 - (a : Int)) * 1000 + (q : Int)) = false := by simp
                      have hfd : ∀ w : World, (Instr.field 68 (.agg #[.int .i64 ((-1 - (a : Int)) * 1000 + (q : Int)), .slice none 0 0]) 0).run Tryz.prog w = .ok (.int .i64 ((-1 - (a : Int)) * 1000 + (q : Int))) w := fun _ => by kernel_rfl
                      go_wp2
                      go_roundw
                      case rel => exact ⟨q + 1, by omega, by go_num, (by first | rfl | trivial)⟩
                      case measure => simp [intOf]; omega
                    · have hqn' : (16 : Int) ≤ (q : Int) := by omega
                      go_wp2
                      go_roundw
                      case rel => exact ⟨a + 1, by omega, by go_num, (by first | rfl | trivial)⟩
                      case measure => simp [intOf]; omega
            · have hlt' : (j : Int) ≤ (a : Int) := by omega
              go_wp2
              go_ret
              exact ⟨rfl, HS.out⟩
end Ck
end Go.Proofs.YticaipedpcmhfaaGreatDoor
/- Own: the lists of other kinds are none. -/
namespace Go.Proofs.YticaipedpcmhfaaGreatDoor
open Go.RowKit Hp
namespace Ck
variable {w w' W : World}

set_option maxHeartbeats 800000 in
set_option maxRecDepth 100000 in
theorem ownNil_Bytes : Calls Tryz.prog 62 #[.slice none 0 0] w fun e w' => e = .returned (.bool true) ∧ Same [] w w' := by
  go_enter Tryz.func62, Tryz.ntmps62
  go_wp2
  repeat (refine wp_loop_rounds 1 ?_; rw [rounds_succ]; go_wp2)
  go_ret
  exact ⟨rfl, by repeat (first | exact Same.refl _ _ | refine Same.alloc ?_ _ | refine Same.drew ?_)⟩

set_option maxHeartbeats 800000 in
set_option maxRecDepth 100000 in
theorem ownNil_Ints : Calls Tryz.prog 64 #[.slice none 0 0] w fun e w' => e = .returned (.bool true) ∧ Same [] w w' := by
  go_enter Tryz.func64, Tryz.ntmps64
  go_wp2
  repeat (refine wp_loop_rounds 1 ?_; rw [rounds_succ]; go_wp2)
  go_ret
  exact ⟨rfl, by repeat (first | exact Same.refl _ _ | refine Same.alloc ?_ _ | refine Same.drew ?_)⟩

set_option maxHeartbeats 800000 in
set_option maxRecDepth 100000 in
theorem ownNil_Longs : Calls Tryz.prog 65 #[.slice none 0 0] w fun e w' => e = .returned (.bool true) ∧ Same [] w w' := by
  go_enter Tryz.func65, Tryz.ntmps65
  go_wp2
  repeat (refine wp_loop_rounds 1 ?_; rw [rounds_succ]; go_wp2)
  go_ret
  exact ⟨rfl, by repeat (first | exact Same.refl _ _ | refine Same.alloc ?_ _ | refine Same.drew ?_)⟩

set_option maxHeartbeats 800000 in
set_option maxRecDepth 100000 in
theorem ownNil_Numbers : Calls Tryz.prog 66 #[.slice none 0 0] w fun e w' => e = .returned (.bool true) ∧ Same [] w w' := by
  go_enter Tryz.func66, Tryz.ntmps66
  go_wp2
  repeat (refine wp_loop_rounds 1 ?_; rw [rounds_succ]; go_wp2)
  go_ret
  exact ⟨rfl, by repeat (first | exact Same.refl _ _ | refine Same.alloc ?_ _ | refine Same.drew ?_)⟩

set_option maxHeartbeats 800000 in
set_option maxRecDepth 100000 in
theorem ownNil_Cells : Calls Tryz.prog 68 #[.slice none 0 0] w fun e w' => e = .returned (.bool true) ∧ Same [] w w' := by
  go_enter Tryz.func68, Tryz.ntmps68
  go_wp2
  repeat (refine wp_loop_rounds 1 ?_; rw [rounds_succ]; go_wp2)
  go_ret
  exact ⟨rfl, by repeat (first | exact Same.refl _ _ | refine Same.alloc ?_ _ | refine Same.drew ?_)⟩

set_option maxHeartbeats 800000 in
set_option maxRecDepth 100000 in
theorem ownNil_Tokens : Calls Tryz.prog 70 #[.slice none 0 0] w fun e w' => e = .returned (.bool true) ∧ Same [] w w' := by
  go_enter Tryz.func70, Tryz.ntmps70
  go_wp2
  repeat (refine wp_loop_rounds 1 ?_; rw [rounds_succ]; go_wp2)
  go_ret
  exact ⟨rfl, by repeat (first | exact Same.refl _ _ | refine Same.alloc ?_ _ | refine Same.drew ?_)⟩

set_option maxHeartbeats 800000 in
set_option maxRecDepth 100000 in
theorem ownNil_Waiters : Calls Tryz.prog 71 #[.slice none 0 0] w fun e w' => e = .returned (.bool true) ∧ Same [] w w' := by
  go_enter Tryz.func71, Tryz.ntmps71
  go_wp2
  repeat (refine wp_loop_rounds 1 ?_; rw [rounds_succ]; go_wp2)
  go_ret
  exact ⟨rfl, by repeat (first | exact Same.refl _ _ | refine Same.alloc ?_ _ | refine Same.drew ?_)⟩

set_option maxHeartbeats 800000 in
set_option maxRecDepth 100000 in
theorem ownNil_Endeds : Calls Tryz.prog 72 #[.slice none 0 0] w fun e w' => e = .returned (.bool true) ∧ Same [] w w' := by
  go_enter Tryz.func72, Tryz.ntmps72
  go_wp2
  repeat (refine wp_loop_rounds 1 ?_; rw [rounds_succ]; go_wp2)
  go_ret
  exact ⟨rfl, by repeat (first | exact Same.refl _ _ | refine Same.alloc ?_ _ | refine Same.drew ?_)⟩

set_option maxHeartbeats 800000 in
set_option maxRecDepth 100000 in
theorem ownNil_Errs : Calls Tryz.prog 73 #[.slice none 0 0] w fun e w' => e = .returned (.bool true) ∧ Same [] w w' := by
  go_enter Tryz.func73, Tryz.ntmps73
  go_wp2
  repeat (refine wp_loop_rounds 1 ?_; rw [rounds_succ]; go_wp2)
  go_ret
  exact ⟨rfl, by repeat (first | exact Same.refl _ _ | refine Same.alloc ?_ _ | refine Same.drew ?_)⟩

set_option maxHeartbeats 800000 in
set_option maxRecDepth 100000 in
theorem ownNil_Data : Calls Tryz.prog 75 #[.slice none 0 0] w fun e w' => e = .returned (.bool true) ∧ Same [] w w' := by
  go_enter Tryz.func75, Tryz.ntmps75
  go_wp2
  repeat (refine wp_loop_rounds 1 ?_; rw [rounds_succ]; go_wp2)
  go_ret
  exact ⟨rfl, by repeat (first | exact Same.refl _ _ | refine Same.alloc ?_ _ | refine Same.drew ?_)⟩

set_option maxHeartbeats 800000 in
set_option maxRecDepth 100000 in
theorem ownNil_Forms : Calls Tryz.prog 76 #[.slice none 0 0] w fun e w' => e = .returned (.bool true) ∧ Same [] w w' := by
  go_enter Tryz.func76, Tryz.ntmps76
  go_wp2
  repeat (refine wp_loop_rounds 1 ?_; rw [rounds_succ]; go_wp2)
  go_ret
  exact ⟨rfl, by repeat (first | exact Same.refl _ _ | refine Same.alloc ?_ _ | refine Same.drew ?_)⟩

set_option maxHeartbeats 800000 in
set_option maxRecDepth 100000 in
theorem ownNil_Lanes : Calls Tryz.prog 78 #[.slice none 0 0] w fun e w' => e = .returned (.bool true) ∧ Same [] w w' := by
  go_enter Tryz.func78, Tryz.ntmps78
  go_wp2
  repeat (refine wp_loop_rounds 1 ?_; rw [rounds_succ]; go_wp2)
  go_ret
  exact ⟨rfl, by repeat (first | exact Same.refl _ _ | refine Same.alloc ?_ _ | refine Same.drew ?_)⟩

theorem infoE_bools : (Tryz.prog.info? 186).map (fun i => (i.zero, i.size, i.bytes)) = some (some (.slice none 0 0), 1, 24) := by kernel_rfl

set_option maxHeartbeats 800000 in
set_option maxRecDepth 100000 in
theorem ownNil_Bools : Calls Tryz.prog 74 #[.slice none 0 0] w fun e w' => e = .returned (.bool true) ∧ Same [] w w' := by
  go_enter Tryz.func74, Tryz.ntmps74
  go_wp2_with (at_make; refine wpList_make_blk _ rfl (.tmp 13) (.tmp 13) 57 rfl 186 (.slice none 0 0) 1 24 Tryz.underlying57 infoE_bools 0 rfl rfl ?m1 ?m2 ?K)
  case m1 => omega
  case m2 => unfold maxLen; omega
  case K =>
    intro w1 _ hs1
    have HS := Lib.hid hs1
    clear hs1
    go_wp2
    refine wp_loop_rounds 1 ?_
    rw [rounds_succ]
    go_wp2
    go_ret
    exact ⟨rfl, HS.out⟩
end Ck
end Go.Proofs.YticaipedpcmhfaaGreatDoor
