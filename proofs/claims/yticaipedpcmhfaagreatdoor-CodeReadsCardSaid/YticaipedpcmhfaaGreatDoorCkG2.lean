/- mark: a text of its own for each list and place; ownTexts. -/
import Derived.Test.YticaipedpcmhfaaGreatDoorHpVal
import Derived.Test.YticaipedpcmhfaaGreatDoorProg
import Derived.IntWalk
import Derived.BigQuiet
import Derived.Deep.DeepCutAuto
import Derived.Deep.RegionHeld3
namespace Go.Proofs.YticaipedpcmhfaaGreatDoor
open Go.RowKit Hp
namespace Ck
variable {w w' W : World} {ro : Value} {rvs : List Value} {N : Nat} {n : Nat → Nat} {c : Nat → Nat → List Value} {V : List Nat}

def markB (a b : Nat) : ByteArray := ⟨#[UInt8.ofNat (97 + a % 26), UInt8.ofNat (97 + a / 26 % 26), UInt8.ofNat (97 + a / 676 % 26), UInt8.ofNat (97 + b % 26), UInt8.ofNat (97 + b / 26 % 26)]⟩

theorem conv5 (W : World) (x0 x1 x2 x3 x4 : Nat) (h0 : x0 < 256) (h1 : x1 < 256) (h2 : x2 < 256) (h3 : x3 < 256) (h4 : x4 < 256) (y0 y1 y2 y3 y4 : Int) (e0 : y0 = x0) (e1 : y1 = x1) (e2 : y2 = x2) (e3 : y3 = x3) (e4 : y4 = x4) :
    (convert 62 9 (.slice (some ⟨W.heap.size, 0, none⟩) 5 5)).run Tryz.prog (W.alloc (.cells #[.int .u8 y0, .int .u8 y1, .int .u8 y2, .int .u8 y3, .int .u8 y4] 5)) = .ok (.string ⟨#[UInt8.ofNat x0, UInt8.ofNat x1, UInt8.ofNat x2, UInt8.ofNat x3, UInt8.ofNat x4]⟩) (W.alloc (.cells #[.int .u8 y0, .int .u8 y1, .int .u8 y2, .int .u8 y3, .int .u8 y4] 5)) := by
  subst e0 e1 e2 e3 e4
  refine run_convert_bytes_back (P := Tryz.prog) _ 62 9 5 ⟨W.heap.size, 0, none⟩ 5 [UInt8.ofNat x0, UInt8.ofNat x1, UInt8.ofNat x2, UInt8.ofNat x3, UInt8.ofNat x4] Tryz.underlying62 Tryz.underlying5 Tryz.underlying9 (fun j hj => ?_)
  have hb : Blk (W.alloc (.cells #[.int .u8 x0, .int .u8 x1, .int .u8 x2, .int .u8 x3, .int .u8 x4] 5)) W.heap.size 5 [.int .u8 x0, .int .u8 x1, .int .u8 x2, .int .u8 x3, .int .u8 x4] := Blk.new W _ _
  have hadd : (⟨W.heap.size, 0, none⟩ : Addr).add j = ⟨W.heap.size, j, none⟩ := by
    unfold Addr.add; split <;> simp_all
  rw [hadd, hb.cell j]
  match j, hj with
  | 0, _ => simp [Nat.mod_eq_of_lt h0]
  | 1, _ => simp [Nat.mod_eq_of_lt h1]
  | 2, _ => simp [Nat.mod_eq_of_lt h2]
  | 3, _ => simp [Nat.mod_eq_of_lt h3]
  | 4, _ => simp [Nat.mod_eq_of_lt h4]

set_option maxHeartbeats 3200000 in
set_option maxRecDepth 100000 in
theorem mark_lo (a b : Nat) (ha : a ≤ 100000) (hb : b ≤ 100000) : Calls Tryz.prog 112 #[.int .i64 a, .int .i64 b] w fun e w' => e = .returned (.string (markB a b)) ∧ Same [] w w' := by
  have h0 : (0 : Int) ≤ (a : Int) := by omega
  have kc := conv5 w (97 + a % 26) (97 + a / 26 % 26) (97 + a / 676 % 26) (97 + b % 26) (97 + b / 26 % 26) (by omega) (by omega) (by omega) (by omega) (by omega) (97 + (a : Int) % 26) (97 + (a : Int) / 26 % 26) (97 + (a : Int) / 676 % 26) (97 + (b : Int) % 26) (97 + (b : Int) / 26 % 26) (by omega) (by omega) (by omega) (by omega) (by omega)
  change _ = Result.ok (Value.string (markB a b)) _ at kc
  go_enter Tryz.func112, Tryz.ntmps112
  go_wp2
  go_ret
  exact ⟨rfl, (Same.refl [] w).alloc _⟩

def markL (a b : Nat) : ByteArray := ⟨#[45]⟩ ++ markB a b
theorem markB_size (a b : Nat) : (markB a b).size = 5 := rfl

set_option maxHeartbeats 3200000 in
set_option maxRecDepth 100000 in
theorem mark_hi (x : Int) (m b : Nat) (hx : -x = (m : Int)) (hm : 0 < m) (hmm : m ≤ 100000) (hb : b ≤ 100000) : Calls Tryz.prog 112 #[.int .i64 x, .int .i64 b] w fun e w' => e = .returned (.string (markL m b)) ∧ Same [] w w' := by
  have h0 : x < 0 := by omega
  obtain ⟨S, hS⟩ : ∃ S, S = markB m b := ⟨_, rfl⟩
  have hz : S.size = 5 := by rw [hS]; rfl
  have hml : markL m b = ⟨#[45]⟩ ++ S := by rw [hS]; rfl
  have HC := Lib.hid (mark_lo (w := w) m b hmm hb)
  rw [← hS] at HC
  rw [hml]
  clear hS hml
  go_enter Tryz.func112, Tryz.ntmps112
  go_wp2_with fail
  refine HC.out.mono ?_
  rintro e w1 ⟨rfl, hs⟩
  go_wp2
  go_ret
  exact ⟨rfl, hs⟩
def mk_texts (i k : Nat) : List Value := [.string (markB i k)]
def gw_texts (i k : Nat) : List Value := [.string (markL (i + 1) k)]
theorem info_texts : (Tryz.prog.info? 24).map (fun i => (i.zero, i.size, i.bytes)) = some (some (.slice none 0 0), 1, 24) := by kernel_rfl
theorem infoE_texts : (Tryz.prog.info? 9).map (fun i => (i.zero, i.size, i.bytes)) = some (some (.string ⟨#[]⟩), 1, 16) := by kernel_rfl

set_option maxHeartbeats 3200000 in
set_option maxRecDepth 100000 in
theorem ownTexts_any (h : FamV 24 9 1 W ro rvs N n c V) (hV : ∀ x ∈ V, x < W.heap.size) (hN : N ≤ 6000) (hn : ∀ i, i < N → n i ≤ 100000) : Calls Tryz.prog 63 #[ro] W fun e w' => e = .returned (.bool true) ∧ Same V W w' := by
  obtain ⟨ra, rc, rfl, -, -, -⟩ := h.top.form
  have H0 := Lib.hid h
  have HV := Lib.hid hV
  have HN := Lib.hid hn
  clear h hV hn
  go_enter Tryz.func63, Tryz.ntmps63
  go_wp2
  go_loopw [3] (fun v wr => ∃ (i : Nat) (c' : Nat → Nat → List Value), i ≤ N ∧ v = .int .i64 i ∧ FamV 24 9 1 wr (.slice ra N rc) rvs N n c' V ∧ (∀ a b, a < i → b < n a → c' a b = mk_texts a b) ∧ Same V W wr) (fun v _ => N - (intOf v).toNat)
  case atStart => exact ⟨0, c, Nat.zero_le _, rfl, H0.out, fun a b h => by omega, Same.refl _ _⟩
  case round =>
    obtain ⟨i, c', hi, rfl, hf, hc, hs⟩ := hrel
    by_cases hlt : i < N
    · have hlt' : (i : Int) < (N : Int) := by omega
      obtain ⟨g, off, cap, hro, hgl, hgV, hcell⟩ := hf.at_ i hlt
      injection hro with hro _ hro2
      subst hro hro2
      have hni := HN.out i hlt
      obtain ⟨ia, ic, hiv, -, -, -⟩ := (hf.rows i hlt).form
      rw [hiv] at hcell
      have HF := Lib.hid hf
      have HC := Lib.hid hc
      have HS := Lib.hid hs
      have HIV := Lib.hid hiv
      clear hf hc hs hiv
      obtain ⟨wo, hwo⟩ : ∃ wo, wo = wr := ⟨_, rfl⟩
      subst hwo
      go_wp2
      go_loopw [4] (fun v wr => ∃ (j : Nat) (c2 : Nat → Nat → List Value), j ≤ n i ∧ v = .int .i64 j ∧ FamV 24 9 1 wr (.slice (some ⟨g, off, none⟩) N rc) rvs N n c2 V ∧ (∀ a b, a < i → b < n a → c2 a b = mk_texts a b) ∧ (∀ b, b < j → c2 i b = mk_texts i b) ∧ Same V W wr) (fun v _ => n i - (intOf v).toNat)
      case atStart => exact ⟨0, c', Nat.zero_le _, rfl, HF.out, HC.out, fun b h => by omega, HS.out⟩
      case round =>
        obtain ⟨j, c2, hj, rfl, hf2, hc2, hc3, hs2⟩ := hrel
        obtain ⟨g2, off2, cap2, hro, hgl2, hgV2, hcell2⟩ := hf2.at_ i hlt
        injection hro with hro _ hro2
        injection hro with hro
        injection hro with hro hro3 _
        subst hro hro2 hro3
        rw [HIV.out] at hcell2
        by_cases hjn : j < n i
        · have hjn' : (j : Int) < (n i : Int) := by omega
          obtain ⟨gi, oi, ci, hri, -, hgil, hci, hcf⟩ := vals_cells1 (hf2.rows i hlt) (hf2.cl i) (by omega)
          rw [HIV.out] at hri
          injection hri with hri _ hri2
          subst hri hri2
          have kj := hci j hjn
          have hlc := hf2.cl i j
          rw [List.getElem?_eq_getElem (by omega)] at kj
          have hfz := hcf (oi + j)
          have hgiV : gi ∈ V := hf2.rowIn i hlt gi (by rw [HIV.out]; simp [blk])
          obtain ⟨S, hSE⟩ : ∃ S, S = markB i j := ⟨_, rfl⟩
          have HM : Hid (∀ W, Calls Tryz.prog 112 #[.int .i64 i, .int .i64 j] W fun e w' => e = .returned (.string S) ∧ Same [] W w') := Lib.hid (fun W => by rw [hSE]; exact mark_lo i j (by omega) (by omega))
          have hgg : gi ≠ g := fun e => hf2.top.ne (hf2.rows i hlt) (by decide) g (by simp [blk]) (by rw [HIV.out, ← e]; simp [blk])
          have HSE := Lib.hid hSE
          have HF2 := Lib.hid hf2
          have HC2 := Lib.hid hc2
          have HC3 := Lib.hid hc3
          have HS2 := Lib.hid hs2
          clear hf2 hc2 hc3 hs2 hci hcf hSE
          go_upto_region 7 with fail
          go_region_held3 (fun W => W.cell? ⟨g, off + i, none⟩ = some (.slice (some ⟨gi, oi, none⟩) (n i) ic)) (go_keep) (first
            | (go_simp; go_at_call 112; refine (HM.out _).mono ?_; rintro e wA ⟨rfl, hsa⟩; have HSA : Hid (Same [] wr wA) := Lib.hid (Same.trans (by repeat (first | exact Same.refl _ _ | refine Same.drew ?_ | refine Same.drewN ?_ _ | refine Same.alloc ?_ _)) hsa); have hcellA := (HSA.out.cell hgl2 (by simp)).trans hcell2; have kjA := (HSA.out.cell hgil (by simp)).trans kj; have hfzA := (HSA.out.frozen hgil (by simp)).trans hfz; clear hsa))
          all_goals
            go_wp2_with fail
            go_roundw
            case rel =>
              refine ⟨j + 1, _, by omega, by go_num, FamV.put1 (FamV.frame HF2.out (F := []) (by repeat (first | exact HSA.out | refine Same.drew ?_ | refine Same.drewN ?_ _)) (by simp)) (by decide) i j hlt hjn gi oi ic HIV.out _, fun a b h1 h2 => ?_, fun b h1 => ?_, (HS2.out.trans' (F' := []) (by repeat (first | exact HSA.out | refine Same.drew ?_ | refine Same.drewN ?_ _)) (by simp)).setCell (.inl hgiV) _⟩
              · rw [if_neg (by omega)]; exact HC2.out a b h1 h2
              · by_cases e : b = j
                · rw [if_pos ⟨rfl, e⟩, e, HSE.out]; rfl
                · rw [if_neg (by omega)]; exact HC3.out b (by omega)
            case measure => simp [intOf]; omega
        · have hge : (n i : Int) ≤ (j : Int) := by omega
          have hje : j = n i := by omega
          have HX : Hid (∀ a b, a < i + 1 → b < n a → c2 a b = mk_texts a b) := Lib.hid (fun a b h1 h2 => by
            by_cases e : a = i
            · subst e; exact hc3 b (by omega)
            · exact hc2 a b (by omega) h2)
          have HF2 := Lib.hid hf2
          have HS2 := Lib.hid hs2
          clear hf2 hc2 hc3 hs2 hje
          go_wp2
          go_roundw
          case rel => exact ⟨i + 1, c2, by omega, by go_num, HF2.out, HX.out, HS2.out⟩
          case measure => simp [intOf]; omega
    · have hiN : i = N := by omega
      have hge : (N : Int) ≤ (i : Int) := by omega
      have hL0 : Lgv 24 9 1 mk_texts gw_texts W.heap.size wr (.slice ra N rc) rvs N n V 0 (.slice none 0 0) [] := ⟨hf.congr (fun _ _ => rfl) (fun a b ha hb => (hc a b (by omega) hb).symm), fun _ _ => rfl, by decide, Row.nil _ _ _, by simp [blk], fun a ha => by omega, fun a ha => by omega, fun a b ha => by omega⟩
      have HL0 := Lib.hid hL0
      have HS0 := Lib.hid hs
      clear hf hc hs hL0 hlt hi
      obtain ⟨wa, hwa⟩ : ∃ wa, wa = wr := ⟨_, rfl⟩
      subst hwa
      subst hiN
      go_wp2
      go_loopw [5, 6] (fun lo v wr => ∃ (j : Nat) (lvs : List Value), j ≤ i ∧ v = .int .i64 j ∧ Lgv 24 9 1 mk_texts gw_texts W.heap.size wr (.slice ra i rc) rvs i n V j lo lvs ∧ Same V W wr) (fun _ v _ => i - (intOf v).toNat)
      case atStart => exact ⟨0, [], Nat.zero_le _, rfl, HL0.out, HS0.out⟩
      case round =>
        obtain ⟨j, lvs, hj, rfl, hl, hs⟩ := hrel
        obtain ⟨loa, loc, rfl, -, -, -⟩ := hl.top.form
        by_cases hlt : j < i
        · have hlt' : (j : Int) < (i : Int) := by omega
          obtain ⟨g, off, cap, hro, hgl, hgV, hcell⟩ := hl.f.at_ j hlt
          injection hro with hro _ hro2
          subst hro hro2
          have hni := HN.out j hlt
          have hx0 := hl.start hlt HV.out
          obtain ⟨ia, ic, hiv, -, -, -⟩ := (hl.f.rows j hlt).form
          rw [hiv] at hcell hx0
          have HX0 := Lib.hid hx0
          have HS := Lib.hid hs
          have HIV := Lib.hid hiv
          clear hl hx0 hs hiv
          obtain ⟨wo, hwo⟩ : ∃ wo, wo = wr := ⟨_, rfl⟩
          subst hwo
          go_wp2
          go_loopw [7, 8] (fun x v wr => ∃ k : Nat, k ≤ 16 ∧ v = .int .i64 k ∧ Lxv 24 9 1 mk_texts gw_texts W.heap.size wr (.slice (some ⟨g, off, none⟩) i rc) rvs i n V j (.slice loa j loc) lvs k x ∧ Same V W wr) (fun _ v _ => 16 - (intOf v).toNat)
          case atStart => exact ⟨0, Nat.zero_le _, rfl, HX0.out, HS.out⟩
          case round =>
            obtain ⟨k, hk, rfl, hx, hs2⟩ := hrel
            obtain ⟨xa, xc, rfl, -, -, -⟩ := hx.row.form
            by_cases hk16 : k < 16
            · have hk' : (k : Int) < 16 := by omega
              obtain ⟨S, hSE⟩ : ∃ S, S = markL (j + 1) k := ⟨_, rfl⟩
              have HM : Hid (∀ W, Calls Tryz.prog 112 #[.int .i64 (-1 - (j : Int)), .int .i64 k] W fun e w' => e = .returned (.string S) ∧ Same [] W w') := Lib.hid (fun W => by rw [hSE]; exact mark_hi (-1 - (j : Int)) (j + 1) k (by omega) (by omega) (by omega) (by omega))
              have HX := Lib.hid hx
              have HS2 := Lib.hid hs2
              have HNUM : Hid (vals (n j + k) (grown mk_texts gw_texts (n j) j) ++ [.string S] = vals (n j + (k + 1)) (grown mk_texts gw_texts (n j) j)) := Lib.hid (by
                rw [← Nat.add_assoc, vals_succ, grown_hi, hSE]; rfl)
              clear hx hs2 hSE
              go_wp2_with fail
              refine (HM.out _).mono ?_
              rintro e wB ⟨rfl, hsb⟩
              have HSB := Lib.hid hsb
              have HXB := Lib.hid (HX.out.frame hsb hlt (by simp) (by simp))
              have HSC := Lib.hid (HS2.out.trans' hsb (by simp))
              clear hsb
              go_wp2_with (at_builtin; refine wpList_append_two _ rfl (.tmp 51) (.tmp 56) 24 rfl 9 (.string ⟨#[]⟩) 1 16 Tryz.underlying24 infoE_texts rfl (by decide) (.slice xa (n j + k) xc) (n j + k) (vals (n j + k) (grown mk_texts gw_texts (n j) j)) rfl ?a1 ⟨wB.heap.size, 0, none⟩ 1 1 [.string S] rfl rfl ?a2 ?a3 ?a4 ?a5 ?a6)
              case a1 => exact HXB.out.row.alloc _
              case a2 => exact cells1_new _ _ _
              case a3 => intro u hu; simp at hu; subst hu; rfl
              case a4 => unfold maxLen; omega
              case a5 => omega
              case a6 =>
                intro v' w1 hrow hcase
                have hc2 : (∃ A C, Value.slice xa (n j + k) xc = .slice A (n j + k) C ∧ v' = .slice A (n j + k + 1) C) ∧ Same (blk (.slice xa (n j + k) xc)) wB w1 ∨ Same [] wB w1 ∧ ∀ y ∈ blk v', wB.heap.size ≤ y := by
                  rcases hcase with ⟨⟨A, C, e1, e2⟩, h1⟩ | ⟨h1, h2⟩
                  · exact .inl ⟨⟨A, C, by rw [e1.1, e1.2], e2⟩, ((Same.refl _ _).alloc _).trans h1⟩
                  · exact .inr ⟨((Same.refl _ _).alloc _).trans h1, fun y hy => by have := h2 y hy; omega⟩
                have hsz := HSC.out.size
                have hx1 := HXB.out.step hlt HV.out hsz (by rw [← HNUM.out]; exact hrow) hc2
                have hs1 : Same V W w1 := by
                  rcases hc2 with ⟨_, h1⟩ | ⟨h1, _⟩
                  · refine HSC.out.trans' h1 (fun y hy => ?_)
                    rcases HXB.out.own y hy with h3 | h3
                    · exact .inl (HXB.out.l.f.rowIn j hlt y h3)
                    · exact .inr h3
                  · exact HSC.out.trans' h1 (by simp)
                obtain ⟨a5, c5, rfl, -, -, -⟩ := hrow.form
                have HX1 := Lib.hid hx1
                have HS1 := Lib.hid hs1
                clear hrow hcase hc2 hx1 hs1 hsz
                go_wp2
                go_roundw
                case rel => exact ⟨k + 1, by omega, by go_num, HX1.out, HS1.out⟩
                case measure => simp [intOf]; omega
            · have hke : k = 16 := by omega
              subst hke
              have HX := Lib.hid hx
              have HS2 := Lib.hid hs2
              clear hx hs2 hk16
              rw [show ((16 : Nat) : Int) = 16 from rfl]
              go_wp2_with (at_builtin; refine wpList_append_row _ rfl (.tmp 58) (.tmp 60) 42 rfl 24 (.slice none 0 0) 1 24 Tryz.underlying42 info_texts rfl (by decide) (.slice loa j loc) j lvs rfl ?b1 ⟨wr.heap.size, 0, none⟩ 1 1 [.slice xa (n j + 16) xc] rfl rfl ?b2 ?b3 ?b4 ?b5 ?b6)
              case b1 => exact HX.out.l.top.alloc _
              case b2 => exact cells1_new _ _ _
              case b3 => intro u hu; simp at hu; subst hu; rfl
              case b4 => unfold maxLen; omega
              case b5 => omega
              case b6 =>
                intro v' w1 hrow hsm hbk
                have hs1 : Same (blk (.slice loa j loc)) wr w1 := ((Same.refl _ _).alloc _).trans hsm
                have hl1 := HX.out.done hlt HV.out HS2.out.size (by simpa using hrow) hs1 (fun y hy => by
                  rcases hbk y hy with h | h
                  · exact .inl h
                  · right; omega)
                have hsv : Same V W w1 := HS2.out.trans' hs1 (fun y hy => .inr (HX.out.l.topN y hy))
                obtain ⟨a5, c5, rfl, -, -, -⟩ := hrow.form
                have HL1 := Lib.hid hl1
                have HSV := Lib.hid hsv
                clear hrow hsm hbk hs1 hl1 hsv
                go_wp2
                go_roundw
                case rel => exact ⟨j + 1, _, by omega, by go_num, HL1.out, HSV.out⟩
                case measure => simp [intOf]; omega
        · have hje : j = i := by omega
          have hge2 : (i : Int) ≤ (j : Int) := by omega
          subst hje
          have HL := Lib.hid hl
          have HS := Lib.hid hs
          clear hl hs hlt hj
          obtain ⟨wc, hwc⟩ : ∃ wc, wc = wr := ⟨_, rfl⟩
          subst hwc
          go_wp2
          go_loopw [9] (fun v wr => ∃ a : Nat, a ≤ j ∧ v = .int .i64 a ∧ Same [] wc wr) (fun v _ => j - (intOf v).toNat)
          case atStart => exact ⟨0, Nat.zero_le _, rfl, Same.refl _ _⟩
          case round =>
            obtain ⟨a, ha, rfl, hs9⟩ := hrel
            have HS9 := Lib.hid hs9
            clear hs9
            by_cases hlt : a < j
            · have hlt' : (a : Int) < (j : Int) := by omega
              obtain ⟨g, off, cap, hro, hgl, -, hcell⟩ := HL.out.f.at_ a hlt
              injection hro with hro _ hro2
              subst hro hro2
              have hni := HN.out a hlt
              obtain ⟨ia, ic, hiv, -, -, -⟩ := (HL.out.f.rows a hlt).form
              rw [hiv] at hcell
              have hlen : lvs.length = j := by have := HL.out.top.1; omega
              obtain ⟨g2, off2, cap2, hlo, -, hgl2, hc2, -⟩ := HL.out.top.at_ (by omega)
              injection hlo with hlo _ hlo2
              subst hlo hlo2
              have hcell2 := hc2 a (by omega)
              have hlr := HL.out.rows a hlt
              obtain ⟨gl, ol, lc, hlv, -, hgll, hlc, -⟩ := vals_cells1 hlr (grown_len (mk := mk_texts) (gw := gw_texts) (sz := 1) (fun _ _ => rfl) (fun _ _ => rfl) _ _) (by omega)
              have hgd : lvs[a]? = some (lvs.getD a undef) := by
                rw [List.getD_eq_getElem?_getD, List.getElem?_eq_getElem (by omega)]; rfl
              rw [hgd, hlv] at hcell2
              have HLC : Hid (∀ k, k < n a + 16 → wc.cell? ⟨gl, ol + k, none⟩ = (grown mk_texts gw_texts (n a) a k)[0]?) := Lib.hid (fun k hk => hlc k hk)
              have HIC : Hid (∀ k, k < n a → ∃ gi oi, ia = some ⟨gi, oi, none⟩ ∧ gi < wc.heap.size ∧ wc.cell? ⟨gi, oi + k, none⟩ = (mk_texts a k)[0]?) := Lib.hid (fun k hk => by
                obtain ⟨gi, oi, ci, e, -, hgi, hc, -⟩ := vals_cells1 (HL.out.f.rows a hlt) (HL.out.f.cl a) (by omega)
                rw [hiv] at e
                injection e with e _ _
                exact ⟨gi, oi, e, hgi, hc k hk⟩)
              clear hc2 hlr hlc hgd hlv hiv hlen
              have HCE := Lib.hid hcell
              have HCE2 := Lib.hid hcell2
              have hcell9 := (HS9.out.cell hgl (by simp)).trans hcell
              clear hcell hcell2
              go_wp2
              go_loopw [11] (fun v wr => ∃ k : Nat, k ≤ n a ∧ v = .int .i64 k ∧ Same [] wc wr) (fun v _ => n a - (intOf v).toNat)
              case atStart => exact ⟨0, Nat.zero_le _, rfl, HS9.out⟩
              case round =>
                obtain ⟨k, hk, rfl, hs11⟩ := hrel
                have HS11 := Lib.hid hs11
                clear hs11
                by_cases hkn : k < n a
                · have hkn' : (k : Int) < (n a : Int) := by omega
                  obtain ⟨gi, oi, rfl, hgil, kc⟩ := HIC.out k hkn
                  have kl := HLC.out k (by omega)
                  rw [grown_lo hkn] at kl
                  unfold mk_texts at kc kl
                  simp only [List.getElem?_cons_zero] at kc kl
                  obtain ⟨S, hSE⟩ : ∃ S, S = markB a k := ⟨_, rfl⟩
                  have HM : Hid (∀ W, Calls Tryz.prog 112 #[.int .i64 a, .int .i64 k] W fun e w' => e = .returned (.string S) ∧ Same [] W w') := Lib.hid (fun W => by rw [hSE]; exact mark_lo a k (by omega) (by omega))
                  rw [← hSE] at kc kl
                  have HP1 := Lib.hid HCE.out
                  have HP2 := Lib.hid kc
                  have HP3 := Lib.hid HCE2.out
                  have HP4 := Lib.hid kl
                  have f1 := (HS11.out.cell hgl (by simp)).trans HP1.out
                  have f2 := (HS11.out.cell hgil (by simp)).trans HP2.out
                  have f3 := (HS11.out.cell hgl2 (by simp)).trans HP3.out
                  have f4 := (HS11.out.cell hgll (by simp)).trans HP4.out
                  clear kc kl hSE hcell9
                  have b1 : (0 : Int) ≤ (k : Int) := by omega
                  have b2 : (k : Int) < ((n a + 16 : Nat) : Int) := by omega
                  have b3 : (k : Int) < (n a : Int) + 16 := by omega
                  have b4 : k < n a + 16 := by omega
                  go_upto_region 25 with fail
                  go_region_held3 (fun W => W.cell? ⟨g, off + a, none⟩ = some (.slice (some ⟨gi, oi, none⟩) (n a) ic) ∧ W.cell? ⟨gi, oi + k, none⟩ = some (.string S) ∧ W.cell? ⟨g2, off2 + a, none⟩ = some (.slice (some ⟨gl, ol, none⟩) (n a + 16) lc) ∧ W.cell? ⟨gl, ol + k, none⟩ = some (.string S)) (go_keep) (first
                    | (go_simp; go_at_call 112; refine (HM.out _).mono ?_; rintro e wA ⟨rfl, hsa⟩; have HSA : Hid (Same [] wc wA) := Lib.hid (Same.trans (by repeat (first | exact HSA.out | exact HS11.out | refine Same.drew ?_ | refine Same.drewN ?_ _ | refine Same.alloc ?_ _)) hsa); have a1 := (HSA.out.cell hgl (by simp)).trans HP1.out; have a2 := (HSA.out.cell hgil (by simp)).trans HP2.out; have a3 := (HSA.out.cell hgl2 (by simp)).trans HP3.out; have a4 := (HSA.out.cell hgll (by simp)).trans HP4.out; clear hsa))
                  all_goals
                    go_wp2_with fail
                    go_roundw
                    case rel => exact ⟨k + 1, by omega, by go_num, by repeat (first | exact HSA.out | refine Same.drew ?_ | refine Same.drewN ?_ _)⟩
                    case measure => simp [intOf]; omega
                · have hkn' : (n a : Int) ≤ (k : Int) := by omega
                  go_wp2
                  go_loopw [12] (fun v wr => ∃ q : Nat, q ≤ 16 ∧ v = .int .i64 q ∧ Same [] wc wr) (fun v _ => 16 - (intOf v).toNat)
                  case atStart => exact ⟨0, Nat.zero_le _, rfl, HS11.out⟩
                  case round =>
                    obtain ⟨q, hq, rfl, hs12⟩ := hrel
                    have HS12 := Lib.hid hs12
                    clear hs12
                    by_cases hqn : q < 16
                    · have hqn' : (q : Int) < 16 := by omega
                      have kl := HLC.out (n a + q) (by omega)
                      rw [grown_hi] at kl
                      unfold gw_texts at kl
                      simp only [List.getElem?_cons_zero] at kl
                      obtain ⟨S, hSE⟩ : ∃ S, S = markL (a + 1) q := ⟨_, rfl⟩
                      have HM : Hid (∀ W, Calls Tryz.prog 112 #[.int .i64 (-1 - (a : Int)), .int .i64 q] W fun e w' => e = .returned (.string S) ∧ Same [] W w') := Lib.hid (fun W => by rw [hSE]; exact mark_hi (-1 - (a : Int)) (a + 1) q (by omega) (by omega) (by omega) (by omega))
                      rw [← hSE] at kl
                      have HP4 := Lib.hid kl
                      have f3 := (HS12.out.cell hgl2 (by simp)).trans HCE2.out
                      have f4 := (HS12.out.cell hgll (by simp)).trans HP4.out
                      clear kl hSE hcell9
                      have b1 : IntKind.i64.wrap ((n a : Int) + (q : Int)) = (n a : Int) + (q : Int) := by rw [IntKind.wrap_i64]; omega
                      have b2 : (0 : Int) ≤ (n a : Int) + (q : Int) := by omega
                      have b3 : (n a : Int) + (q : Int) < (n a : Int) + 16 := by omega
                      have b4 : ((n a : Int) + (q : Int)).toNat = n a + q := by omega
                      have b5 : IntKind.i64.wrap (-1 - (a : Int)) = -1 - (a : Int) := by rw [IntKind.wrap_i64]; omega
                      go_upto_region 30 with fail
                      go_region_held3 (fun W => W.cell? ⟨g2, off2 + a, none⟩ = some (.slice (some ⟨gl, ol, none⟩) (n a + 16) lc) ∧ W.cell? ⟨gl, ol + (n a + q), none⟩ = some (.string S)) (go_keep) (first
                        | (go_simp; go_at_call 112; refine (HM.out _).mono ?_; rintro e wA ⟨rfl, hsa⟩; have HSA : Hid (Same [] wc wA) := Lib.hid (Same.trans (by repeat (first | exact HS12.out | refine Same.drew ?_ | refine Same.drewN ?_ _ | refine Same.alloc ?_ _)) hsa); have a3 := (HSA.out.cell hgl2 (by simp)).trans HCE2.out; have a4 := (HSA.out.cell hgll (by simp)).trans HP4.out; clear hsa))
                      all_goals
                        go_wp2_with fail
                        go_roundw
                        case rel => exact ⟨q + 1, by omega, by go_num, by repeat (first | exact HSA.out | refine Same.drew ?_ | refine Same.drewN ?_ _)⟩
                        case measure => simp [intOf]; omega
                    · have hqn' : (16 : Int) ≤ (q : Int) := by omega
                      go_wp2
                      go_roundw
                      case rel => exact ⟨a + 1, by omega, by go_num, HS12.out⟩
                      case measure => simp [intOf]; omega
            · have hlt' : (j : Int) ≤ (a : Int) := by omega
              go_wp2
              go_ret
              exact ⟨rfl, HS.out.trans' HS9.out (by simp)⟩
end Ck
end Go.Proofs.YticaipedpcmhfaaGreatDoor
