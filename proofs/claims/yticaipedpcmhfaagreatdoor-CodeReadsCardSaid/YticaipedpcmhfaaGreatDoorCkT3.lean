/- Layer 8, package code: Text. -/
import Derived.Test.YticaipedpcmhfaaGreatDoorCkT2
import Derived.Test.YticaipedpcmhfaaGreatDoorCkW8
import Derived.Test.YticaipedpcmhfaaGreatDoorCd
namespace Go.Proofs.YticaipedpcmhfaaGreatDoor
open Go.RowKit Hp
namespace Ck
variable {w w' : World}

/-- What Text answers. -/
def textR (c : Cd.Co) : List UInt8 × Int := if (Cd.check Cd.sym c).1 = 0 then (Cd.textT c, 0) else ([], (Cd.check Cd.sym c).1)
def Txt (a : List UInt8 × Int) (w : World) (e : Ending) (w' : World) : Prop := e = .returned (.tuple #[.string (bs a.1), .int .i64 a.2]) ∧ Same [] w w'

theorem take_map_snoc {α : Type} (f : α → List UInt8) (l : List α) (k : Nat) (d : α) (h : k < l.length) : Cd.joinL ((l.take (k + 1)).map f) = Cd.joinL ((l.take k).map f) ++ (f (l.getD k d) ++ [10]) := by
  rw [List.take_succ_eq_append_getElem h, List.map_append, Cd.joinL_app, List.map_singleton, Cd.joinL_one, List.getD, List.getElem?_eq_getElem h]; rfl
theorem take_map_le {α : Type} (f : α → List UInt8) (l : List α) (k m : Nat) (h : ∀ x ∈ l, (f x).length ≤ m) : (Cd.joinL ((l.take k).map f)).length ≤ (m + 1) * l.length := by
  refine Nat.le_trans (Cd.joinL_le _ m (fun x hx => ?_)) (Nat.mul_le_mul_left _ (by rw [List.length_map, List.length_take]; omega))
  obtain ⟨y, hy, rfl⟩ := List.mem_map.1 hx
  exact h y (List.mem_of_mem_take hy)

theorem BB.frame {B b : Nat} {l : List UInt8} (h : BB B b l w) (hs : Same [] w w') : BB B b l w' := by
  have key : ∀ p, Lib.BuilderAt 89 5 B b p (Lib.byteCells l) w → Lib.BuilderAt 89 5 B b p (Lib.byteCells l) w' := fun p ⟨hB, v, hbk, hown, hne⟩ => by
    refine ⟨hB, v, (hs.block b (Array.getElem?_eq_some_iff.1 hbk).1 (by simp)).trans hbk, ⟨hown.1, ?_⟩, hne⟩
    rcases hown.2 with h0 | ⟨g, cap, cur, hv, hg, hc, r⟩
    · exact .inl h0
    · exact .inr ⟨g, cap, cur, hv, hg, (hs.block g (Array.getElem?_eq_some_iff.1 hc).1 (by simp)).trans hc, r⟩
  rcases h with h | h
  · exact .inl (key _ h)
  · exact .inr (key _ h)
theorem BB.lt {B b : Nat} {l : List UInt8} (h : BB B b l w) : b < w.heap.size := by
  rcases h with h | h
  · exact h.lt
  · exact h.lt

/-- A line behind what a builder holds. -/
theorem line_at (B b : Nat) (l t : List UInt8) (w : World) (h : BB B b l w) (hlen : l.length + t.length ≤ 1000000000) (hBw : B ≤ w.heap.size) :
    Calls Tryz.prog 38 #[.string (bs t), .pointer (some ⟨b, 0, none⟩)] w fun e w' => e = .returned (.tuple #[]) ∧ Wrote B b (l ++ (t ++ [10])) w w' :=
  line_any B b l (bs t) w h (by rw [bs_size]; exact hlen) hBw

set_option maxHeartbeats 8000000 in
set_option maxRecDepth 100000 in
theorem text_any (v : Value) (c : Cd.Co) (hr : RCo w v c) (hw : WCo c) (hv : Vars w) : Calls Tryz.prog 14 #[v] w (Txt (textR c) w) := by
  have hchk := fun w hr hv => check_any (w := w) v c hr hw hv
  obtain ⟨cv, pv, gv, rfl, hr⟩ := hr
  obtain ⟨A1, c1, hcv, hc1, hc1'⟩ := hr.consts.form
  obtain ⟨kv2, hps, hks⟩ := hr.procs
  obtain ⟨A2, c2, hpv, hc2, hc2'⟩ := hps.form
  obtain ⟨A3, c3, hgv, hc3, hc3'⟩ := hr.globals.form
  subst hcv hpv hgv
  have HR := Lib.hid hr
  have HPS := Lib.hid hps
  have HKS := Lib.hid hks
  have HW := Lib.hid hw
  have HV := Lib.hid hv
  have HCHK := Lib.hid (hchk (w.alloc (.cells #[.slice A1 c.consts.length c1, .slice A2 c.procs.length c2, .slice A3 c.globals.length c3] 26)) ⟨_, _, _, rfl, hr.frame ((Same.refl [] w).alloc _)⟩ (hv.frame ((Same.refl [] w).alloc _) (by simp)))
  unfold Chk at HCHK
  unfold maxLen at hc1' hc2' hc3'
  clear hr hps hks hw hv hchk
  by_cases hz : (Cd.check Cd.sym c).1 = 0
  · have hR : textR c = (Cd.textT c, 0) := by unfold textR; rw [if_pos hz]
    have hG := Cd.goodC_of hz
    rw [hz] at HCHK
    rw [hR]
    have HG := Lib.hid hG
    obtain ⟨l1, l2, l3⟩ := hG.lens
    clear hz hR hG
    go_enter Tryz.func14, Tryz.ntmps14
    go_wp2_with fail
    refine HCHK.out.mono ?_
    rintro e w2 ⟨rfl, hs2⟩
    have hb1 := (Blk.new w 26 [.slice A1 c.consts.length c1, .slice A2 c.procs.length c2, .slice A3 c.globals.length c3]).frame hs2 (by simp)
    have b10 := hb1.cell 0
    have b11 := hb1.cell 1
    have b12 := hb1.cell 2
    have b1z := hb1.lt
    have HB1 := Lib.hid hb1
    have HS2 := Lib.hid (((Same.refl [] w).alloc _).trans hs2)
    clear hs2 hb1
    go_wp2_with fail
    have HBB0 := Lib.hid (Lib.fresh_isBuilder 89 5 w2)
    have hl1 : (1000 : Nat) ≤ 1000 := Nat.le_refl _
    go_loopg [10, 30] c.consts.length (fun gk _ i wr => ∃ k : Nat, k ≤ c.consts.length ∧ gk = c.consts.length - k ∧ i = .int .i64 k ∧ BB w2.heap.size w2.heap.size (Cd.joinL ((c.consts.take k).map Cd.constT)) wr ∧ Below w2.heap.size w2 wr)
    case atStart => exact ⟨0, Nat.zero_le _, rfl, rfl, HBB0.out, (Below.refl _ _).alloc (Nat.le_refl _) _⟩
    case round =>
      obtain ⟨k, hk, rfl, rfl, hbb, hbel⟩ := hrel
      have HBB := Lib.hid hbb
      have HBEL := Lib.hid hbel
      have HSW := Lib.hid (HS2.out.trans (Same.of_below hbel))
      have hBw : w2.heap.size ≤ wr.heap.size := hbel.size
      clear hbb hbel
      by_cases hlt : k < c.consts.length
      · obtain ⟨b, off, cap, he, _, _, hb, hcell⟩ := HR.out.consts.lit (by omega)
        injection he with he1 _ he3
        subst he1 he3
        obtain ⟨x, hx⟩ : ∃ x, c.consts.getD k 0 = x := ⟨_, rfl⟩
        have hck : wr.cell? ⟨b, off + k, none⟩ = some (.int .u64 x) := by
          have := hcell k 0 hlt (by omega)
          rw [Nat.mul_one, Nat.add_zero] at this
          rw [HSW.out.cell hb (by simp), this, fW, hx]
        have hmem : x ∈ c.consts := by rw [← hx, List.getD, List.getElem?_eq_getElem hlt]; exact List.getElem_mem _
        have hxr := HW.out.consts x hmem
        have hgx := HG.out.consts x hmem
        have hw8 : Cd.wordT x ≤ 7 := by
          have h1 := hgx.1
          unfold Cd.isWord at h1
          rw [Bool.and_eq_true, decide_eq_true_eq] at h1
          have := hgx.2
          omega
        have HCT := Lib.hid (constant_any (w := wr) x hxr hgx.1 hw8 (HV.out.frame HSW.out (by simp)))
        have hsn := take_map_snoc Cd.constT c.consts k 0 hlt
        rw [hx] at hsn
        have HSN := Lib.hid hsn
        have hlen : (Cd.joinL ((c.consts.take k).map Cd.constT)).length ≤ 40 * c.consts.length := take_map_le Cd.constT c.consts k 39 (fun y hy => Cd.constT_le y (HW.out.consts y hy))
        have hlen2 := Cd.constT_le x hxr
        have HL := Lib.hid (And.intro hlen hlen2)
        clear hcell hx hmem hxr hgx hw8 hsn hlen hlen2
        go_wp2_with fail
        refine HCT.out.mono ?_
        rintro e w3 ⟨rfl, hs3⟩
        have HLN := Lib.hid (line_at w2.heap.size w2.heap.size _ (Cd.constT x) w3 (HBB.out.frame hs3) (by have := HL.out; omega) (Nat.le_trans hBw hs3.size))
        have HS3 := Lib.hid hs3
        clear hs3
        go_wp2_with fail
        refine HLN.out.mono ?_
        rintro e w4 ⟨rfl, hw4⟩
        have HW4 := Lib.hid hw4
        clear hw4
        go_wp2_with fail
        go_roundg (c.consts.length - (k + 1))
        case measure => omega
        case rel =>
          refine ⟨k + 1, by omega, rfl, by go_num, ?_, (HBEL.out.trans (HS3.out.belowF hBw (by simp))).trans HW4.out.2.1⟩
          rw [HSN.out]; exact HW4.out.1
      · obtain rfl : k = c.consts.length := by omega
        have b10' : wr.cell? ⟨w.heap.size, 0, none⟩ = some (.slice A1 c.consts.length c1) := by rw [HBEL.out.cell (p := ⟨w.heap.size, _, none⟩) b1z]; exact b10
        have b11' : wr.cell? ⟨w.heap.size, 1, none⟩ = some (.slice A2 c.procs.length c2) := by rw [HBEL.out.cell (p := ⟨w.heap.size, _, none⟩) b1z]; exact b11
        have b12' : wr.cell? ⟨w.heap.size, 2, none⟩ = some (.slice A3 c.globals.length c3) := by rw [HBEL.out.cell (p := ⟨w.heap.size, _, none⟩) b1z]; exact b12
        have hb1w : w.heap.size < wr.heap.size := Nat.lt_of_lt_of_le b1z hBw
        have HBB1 : Hid (BB w2.heap.size w2.heap.size (Cd.joinL (c.consts.map Cd.constT)) wr) := Lib.hid (by have := HBB.out; rwa [List.take_length] at this)
        clear HBB HSW hlt hk
        go_wp2_with fail
        have hA0 : (Cd.joinL (c.consts.map Cd.constT)).length ≤ 40 * c.consts.length := by
          have := Cd.joinL_le (c.consts.map Cd.constT) 39 (fun y hy => by obtain ⟨z, hz, rfl⟩ := List.mem_map.1 hy; exact Cd.constT_le z (HW.out.consts z hz))
          rwa [List.length_map] at this
        have HA0 := Lib.hid hA0
        clear hA0
        obtain ⟨wo, hwo⟩ : ∃ wo, wr = wo := ⟨_, rfl⟩
        subst hwo
        go_loopg [12, 42] c.globals.length (fun gk _ i wr => ∃ k : Nat, k ≤ c.globals.length ∧ gk = c.globals.length - k ∧ i = .int .i64 k ∧ BB w2.heap.size w2.heap.size (Cd.joinL (c.consts.map Cd.constT) ++ Cd.joinL ((c.globals.take k).map Cd.globalT)) wr ∧ Below w2.heap.size w2 wr)
        case atStart => exact ⟨0, Nat.zero_le _, rfl, rfl, by simpa [Cd.joinL] using HBB1.out, HBEL.out⟩
        case round =>
          clear b10' b11' b12' hb1w hBw HBEL HBB1
          obtain ⟨k, hk, rfl, rfl, hbb, hbel⟩ := hrel
          have HBB := Lib.hid hbb
          have HBEL := Lib.hid hbel
          have HSW := Lib.hid (HS2.out.trans (Same.of_below hbel))
          have hBw : w2.heap.size ≤ wr.heap.size := hbel.size
          clear hbb hbel
          by_cases hlt : k < c.globals.length
          · obtain ⟨b, off, cap, he, _, _, hb, hcell⟩ := HR.out.globals.lit (by omega)
            injection he with he1 _ he3
            subst he1 he3
            obtain ⟨x, hx⟩ : ∃ x, c.globals.getD k ByteArray.empty = x := ⟨_, rfl⟩
            have hck : wr.cell? ⟨b, off + k, none⟩ = some (.string x) := by
              have := hcell k 0 hlt (by omega)
              rw [Nat.mul_one, Nat.add_zero] at this
              rw [HSW.out.cell hb (by simp), this, fS, hx]
            have hmem : x ∈ c.globals := by rw [← hx, List.getD, List.getElem?_eq_getElem hlt]; exact List.getElem_mem _
            have hgx := HG.out.globals x hmem
            have hxs : x.size ≤ 32 := by have := Cd.sym_short hgx; rwa [← list_size x rfl] at this
            have hq : ¬ 9223372036854775807 < 7 + x.size := by omega
            obtain ⟨g, hg⟩ : ∃ g : ByteArray, (⟨#[103, 108, 111, 98, 97, 108, 32]⟩ : ByteArray) ++ x = g := ⟨_, rfl⟩
            have hgl : g.data.toList = Cd.globalT x := by rw [← hg, Joins.data_append]; rfl
            have hsn := take_map_snoc Cd.globalT c.globals k ByteArray.empty hlt
            rw [hx] at hsn
            have HSN := Lib.hid hsn
            have hlen : (Cd.joinL ((c.globals.take k).map Cd.globalT)).length ≤ 40 * c.globals.length := take_map_le Cd.globalT c.globals k 39 (fun y hy => Cd.globalT_le (HG.out.globals y hy))
            have HLN := Lib.hid (line_any w2.heap.size w2.heap.size _ g wr HBB.out (by have := Cd.globalT_le hgx; rw [← hgl, ← list_size g rfl] at this; have := HA0.out; rw [List.length_append]; omega) hBw)
            rw [hgl] at HLN
            clear hcell hx hmem hgx hsn hlen hgl
            go_wp2_with fail
            refine HLN.out.mono ?_
            rintro e w4 ⟨rfl, hw4⟩
            have HW4 := Lib.hid hw4
            clear hw4
            go_wp2_with fail
            go_roundg (c.globals.length - (k + 1))
            case measure => omega
            case rel =>
              refine ⟨k + 1, by omega, rfl, by go_num, ?_, HBEL.out.trans HW4.out.2.1⟩
              rw [HSN.out, ← List.append_assoc]; exact HW4.out.1
          · obtain rfl : k = c.globals.length := by omega
            have b11' : wr.cell? ⟨w.heap.size, 1, none⟩ = some (.slice A2 c.procs.length c2) := by rw [HBEL.out.cell (p := ⟨w.heap.size, _, none⟩) b1z]; exact b11
            have hb1w : w.heap.size < wr.heap.size := Nat.lt_of_lt_of_le b1z hBw
            have HBB1 : Hid (BB w2.heap.size w2.heap.size (Cd.joinL (c.consts.map Cd.constT) ++ Cd.joinL (c.globals.map Cd.globalT)) wr) := Lib.hid (by have := HBB.out; rwa [List.take_length] at this)
            have hA1 : (Cd.joinL (c.globals.map Cd.globalT)).length ≤ 40 * c.globals.length := by
              have := Cd.joinL_le (c.globals.map Cd.globalT) 39 (fun y hy => by obtain ⟨z, hz, rfl⟩ := List.mem_map.1 hy; exact Cd.globalT_le (HG.out.globals z hz))
              rwa [List.length_map] at this
            have HA1 : Hid ((Cd.joinL (c.consts.map Cd.constT) ++ Cd.joinL (c.globals.map Cd.globalT)).length ≤ 50000) := Lib.hid (by rw [List.length_append]; have := HA0.out; omega)
            clear HBB HSW hlt hk hA1
            go_wp2_with fail
            obtain ⟨wo, hwo⟩ : ∃ wo, wr = wo := ⟨_, rfl⟩
            subst hwo
            go_loopg [14, 16, 54] c.procs.length (fun gk _ _ i wr => ∃ k : Nat, k ≤ c.procs.length ∧ gk = c.procs.length - k ∧ i = .int .i64 k ∧ (((Cd.joinL (c.consts.map Cd.constT) ++ Cd.joinL (c.globals.map Cd.globalT)) ++ (c.procs.take k).flatMap Cd.procT).length ≤ 50000 + 140000 * k) ∧ BB w2.heap.size w2.heap.size ((Cd.joinL (c.consts.map Cd.constT) ++ Cd.joinL (c.globals.map Cd.globalT)) ++ (c.procs.take k).flatMap Cd.procT) wr ∧ Below w2.heap.size w2 wr)
            case atStart => exact ⟨0, Nat.zero_le _, rfl, rfl, by simpa using HA1.out, by simpa using HBB1.out, HBEL.out⟩
            case round =>
              clear b11' hb1w hBw HBEL HBB1
              obtain ⟨k, hk, rfl, rfl, hacc, hbb, hbel⟩ := hrel
              have HBB := Lib.hid hbb
              have HBEL := Lib.hid hbel
              have HSW := Lib.hid (HS2.out.trans (Same.of_below hbel))
              have HACC := Lib.hid hacc
              have hBw : w2.heap.size ≤ wr.heap.size := hbel.size
              clear hbb hbel hacc
              by_cases hlt : k < c.procs.length
              · obtain ⟨b, off, cap, he, _, _, hb, hcell⟩ := HPS.out.lit (by omega)
                injection he with he1 _ he3
                subst he1 he3
                obtain ⟨p, hp⟩ : ∃ p, c.procs.getD k ⟨0, []⟩ = p := ⟨_, rfl⟩
                have hki := HKS.out k hlt
                rw [hp] at hki
                obtain ⟨Ak, ck, hkv, hck1, hck2⟩ := hki.form
                rw [hkv] at hki
                have p0 : wr.cell? ⟨b, off + k * 2, none⟩ = some (.int .i64 p.params) := by
                  have := hcell k 0 hlt (by omega)
                  rw [HSW.out.cell hb (by simp), ← Nat.add_zero (off + k * 2), this, fP, hp]; rfl
                have p1 : wr.cell? ⟨b, off + k * 2 + 1, none⟩ = some (.slice Ak p.code.length ck) := by
                  have := hcell k 1 hlt (by omega)
                  rw [HSW.out.cell hb (by simp), this, fP, hkv]; rfl
                have hbw : b < wr.heap.size := Nat.lt_of_lt_of_le hb HSW.out.size
                have hmem : p ∈ c.procs := by rw [← hp, List.getD, List.getElem?_eq_getElem hlt]; exact List.getElem_mem _
                have hwp : WPr p := HW.out.procs p hmem
                have hgp := HG.out.procs p hmem
                have hfits := hgp.fitAll HG.out.lens
                obtain ⟨t, ht⟩ : ∃ t, bs (Lib.itoa p.params) = t := ⟨_, rfl⟩
                have htl : t.data.toList = Lib.itoa p.params := by rw [← ht]; rfl
                have htz : t.size ≤ 21 := by rw [list_size t htl]; exact Lib.itoa_length_le p.params hwp.params.1 hwp.params.2
                have hq : ¬ 9223372036854775807 < 5 + t.size := by omega
                have HIT := Lib.hid (itoa_str (w := wr.alloc (.cells #[.int .i64 p.params, .slice Ak p.code.length ck] 68)) p.params hwp.params t ht (HV.out.frame (HSW.out.alloc _) (by simp)))
                obtain ⟨g, hg⟩ : ∃ g : ByteArray, (⟨#[112, 114, 111, 99, 32]⟩ : ByteArray) ++ t = g := ⟨_, rfl⟩
                have hgl : g.data.toList = Cd.headT p := by rw [← hg, Joins.data_append, htl]; rfl
                have HGL := Lib.hid hgl
                have HKI := Lib.hid hki
                have HWP := Lib.hid hwp
                have HFITS := Lib.hid hfits
                have HP := Lib.hid hp
                have HPL := Lib.hid hgp.len
                have hhd := Cd.headT_le p hwp.params
                rw [← hgl, ← list_size g rfl] at hhd
                have HHD := Lib.hid hhd
                clear hcell hp hki hkv hmem hwp hgp hfits ht htl hgl hhd
                unfold maxLen at hck2
                go_wp2_with fail
                refine HIT.out.mono ?_
                rintro e w3 ⟨rfl, hs3⟩
                have HLN := Lib.hid (line_any w2.heap.size w2.heap.size _ g w3 (HBB.out.frame (((Same.refl [] wr).alloc _).trans hs3)) (by have := HACC.out; have := HHD.out; omega) (Nat.le_trans hBw (((Same.refl [] wr).alloc _).trans hs3).size))
                have hbx := (Blk.new wr 68 [.int .i64 p.params, .slice Ak p.code.length ck]).frame hs3 (by simp)
                have HBX := Lib.hid hbx
                have HS3 := Lib.hid (((Same.refl [] wr).alloc (.cells #[.int .i64 p.params, .slice Ak p.code.length ck] 68)).trans hs3)
                clear hs3 hbx
                go_wp2_with fail
                refine HLN.out.mono ?_
                rintro e w4 ⟨rfl, hw4⟩
                have hne : wr.heap.size ≠ w2.heap.size := by have := HBB.out.lt; omega
                have hbx4 := hw4.blk HBX.out hne (by decide)
                have x41 := hbx4.cell 1
                have x4z := hbx4.lt
                have HW4 := Lib.hid hw4
                have HB4 : Hid (Below w2.heap.size w2 w4) := Lib.hid ((HBEL.out.trans (HS3.out.belowF hBw (by simp))).trans hw4.2.1)
                clear hw4 hbx4
                go_wp2_with fail
                obtain ⟨base, hbase⟩ : ∃ base, ((Cd.joinL (c.consts.map Cd.constT) ++ Cd.joinL (c.globals.map Cd.globalT)) ++ (c.procs.take k).flatMap Cd.procT) ++ Cd.joinL [Cd.headT p] = base := ⟨_, rfl⟩
                have hbl : base.length ≤ 50000 + 140000 * k + 27 := by
                  have e : (Cd.joinL [Cd.headT p]).length = g.size + 1 := by rw [Cd.joinL_one, ← HGL.out, List.length_append, ← list_size g rfl]; rfl
                  rw [← hbase, List.length_append, e]
                  have h1 := HACC.out
                  have h2 := HHD.out
                  omega
                have HBASE := Lib.hid hbase
                have HBL := Lib.hid hbl
                have hb4 : BB w2.heap.size w2.heap.size base w4 := by
                  have := HW4.out.1
                  rw [HGL.out, ← Cd.joinL_one] at this
                  rw [← hbase]; exact this
                have HBB4 := Lib.hid hb4
                clear x41 x4z hbase hbl hb4 p0 p1 hbw
                go_loopg [16, 67] p.code.length (fun gj _ i wq => ∃ j : Nat, j ≤ p.code.length ∧ gj = p.code.length - j ∧ i = .int .i64 j ∧ (Cd.joinL ((p.code.take j).map Cd.instrT)).length ≤ 34 * p.code.length ∧ BB w2.heap.size w2.heap.size (base ++ Cd.joinL ((p.code.take j).map Cd.instrT)) wq ∧ Below w2.heap.size w2 wq)
                case atStart => exact ⟨0, Nat.zero_le _, rfl, rfl, by simp [Cd.joinL], by simpa [Cd.joinL] using HBB4.out, HB4.out⟩
                case round =>
                  obtain ⟨j, hj, rfl, rfl, hjl, hbb, hbel⟩ := hrel
                  have HJL := Lib.hid hjl
                  have HBBj := Lib.hid hbb
                  have HBELj := Lib.hid hbel
                  have HSWj := Lib.hid (HS2.out.trans (Same.of_below hbel))
                  have hBwj : w2.heap.size ≤ wr.heap.size := hbel.size
                  clear hjl hbb hbel
                  by_cases hltj : j < p.code.length
                  · obtain ⟨bk, ok, ck', hek, _, _, hbk, hcellk⟩ := HKI.out.lit (by omega)
                    injection hek with hek1 _ hek3
                    subst hek1 hek3
                    obtain ⟨ix, hix⟩ : ∃ ix, p.code.getD j ⟨0, 0⟩ = ix := ⟨_, rfl⟩
                    have i0 : wr.cell? ⟨bk, ok + j * 2, none⟩ = some (.int .u8 ix.op) := by
                      have := hcellk j 0 hltj (by omega)
                      rw [HSWj.out.cell hbk (by simp), ← Nat.add_zero (ok + j * 2), this, fI, hix]; rfl
                    have i1 : wr.cell? ⟨bk, ok + j * 2 + 1, none⟩ = some (.int .i64 ix.a) := by
                      have := hcellk j 1 hltj (by omega)
                      rw [HSWj.out.cell hbk (by simp), this, fI, hix]; rfl
                    have hbkw : bk < wr.heap.size := Nat.lt_of_lt_of_le hbk HSWj.out.size
                    have himem : ix ∈ p.code := by rw [← hix]; exact Cd.getD_mem _ _ hltj
                    have hfi := HFITS.out ix himem
                    have hwi := HWP.out.code ix himem
                    have HIC := Lib.hid (instr_any (w := wr.alloc (.cells #[.int .u8 ix.op, .int .i64 ix.a] 82)) ix hfi.op hwi.a (HV.out.frame (HSWj.out.alloc _) (by simp)))
                    have hsn := take_map_snoc Cd.instrT p.code j ⟨0, 0⟩ hltj
                    rw [hix] at hsn
                    have HSN := Lib.hid hsn
                    have hle := Cd.instrT_le ix hwi.a
                    have HLE := Lib.hid hle
                    have hle2 : (Cd.joinL ((p.code.take (j + 1)).map Cd.instrT)).length ≤ 34 * p.code.length := take_map_le Cd.instrT p.code (j + 1) 33 (fun y hy => Cd.instrT_le y (HWP.out.code y hy).a)
                    have HLE2 := Lib.hid hle2
                    clear hcellk hix himem hfi hwi hsn hle hle2
                    go_wp2_with fail
                    refine HIC.out.mono ?_
                    rintro e w5 ⟨rfl, hs5⟩
                    have HLNj := Lib.hid (line_at w2.heap.size w2.heap.size _ (Cd.instrT ix) w5 (HBBj.out.frame (((Same.refl [] wr).alloc _).trans hs5)) (by have := HJL.out; have := HBL.out; have := HLE.out; have := HPL.out; rw [List.length_append]; omega) (Nat.le_trans hBwj (((Same.refl [] wr).alloc _).trans hs5).size))
                    have HS5 := Lib.hid (((Same.refl [] wr).alloc (.cells #[.int .u8 ix.op, .int .i64 ix.a] 82)).trans hs5)
                    clear hs5
                    go_wp2_with fail
                    refine HLNj.out.mono ?_
                    rintro e w6 ⟨rfl, hw6⟩
                    have HW6 := Lib.hid hw6
                    clear hw6
                    go_wp2_with fail
                    go_roundg (p.code.length - (j + 1))
                    case measure => omega
                    case rel =>
                      refine ⟨j + 1, by omega, rfl, by go_num, HLE2.out, ?_, (HBELj.out.trans (HS5.out.belowF hBwj (by simp))).trans HW6.out.2.1⟩
                      rw [HSN.out, ← List.append_assoc]; exact HW6.out.1
                  · obtain rfl : j = p.code.length := by omega
                    have hlast : ((Cd.joinL (c.consts.map Cd.constT) ++ Cd.joinL (c.globals.map Cd.globalT)) ++ (c.procs.take (k + 1)).flatMap Cd.procT) = base ++ Cd.joinL (p.code.map Cd.instrT) := by
                      rw [List.take_succ_eq_append_getElem hlt, List.flatMap_append, ← HBASE.out]
                      have hpk : c.procs[k] = p := by have := HP.out; rwa [List.getD, List.getElem?_eq_getElem hlt] at this
                      rw [hpk]
                      simp only [List.flatMap_cons, List.flatMap_nil, List.append_nil, Cd.procT, List.append_assoc]
                    have HLAST := Lib.hid hlast
                    clear hlast
                    go_wp2_with fail
                    go_roundg (c.procs.length - (k + 1))
                    case measure => omega
                    case rel =>
                      refine ⟨k + 1, by omega, rfl, by go_num, ?_, ?_, HBELj.out⟩
                      · rw [HLAST.out, List.length_append]
                        have h1 := HJL.out
                        rw [List.take_length] at h1
                        have h2 := HBL.out
                        have h3 := HPL.out
                        omega
                      · rw [HLAST.out]
                        have h1 := HBBj.out
                        rw [List.take_length] at h1
                        exact h1
              · obtain rfl : k = c.procs.length := by omega
                have HBB1 : Hid (BB w2.heap.size w2.heap.size (Cd.textT c) wr) := Lib.hid (by have := HBB.out; rw [List.take_length, List.append_assoc] at this; exact this)
                have HST := Lib.hid (Tryz.Builder_String_any w2.heap.size w2.heap.size (Cd.textT c) wr HBB1.out hBw)
                clear HBB HSW hlt hk
                go_wp2_with fail
                refine HST.out.mono ?_
                rintro e w5 ⟨rfl, hb5⟩
                have HB5 := Lib.hid hb5
                clear hb5
                go_wp2_with fail
                go_ret2
                exact ⟨rfl, HS2.out.trans (Same.of_below (HBEL.out.trans HB5.out))⟩
  · have hR : textR c = ([], (Cd.check Cd.sym c).1) := by unfold textR; rw [if_neg hz]
    rw [hR]
    obtain ⟨e1, he1⟩ : ∃ e1, (Cd.check Cd.sym c).1 = e1 := ⟨_, rfl⟩
    rw [he1] at HCHK hz ⊢
    have hz' : (e1 != 0) = true := by rw [bne_iff_ne]; exact hz
    clear he1 hR hz
    go_enter Tryz.func14, Tryz.ntmps14
    go_wp2_with fail
    refine HCHK.out.mono ?_
    rintro e w2 ⟨rfl, hs2⟩
    have HS2 := Lib.hid (((Same.refl [] w).alloc _).trans hs2)
    clear hs2
    go_wp2_with fail
    go_ret2
    exact ⟨rfl, HS2.out⟩
end Ck
end Go.Proofs.YticaipedpcmhfaaGreatDoor
