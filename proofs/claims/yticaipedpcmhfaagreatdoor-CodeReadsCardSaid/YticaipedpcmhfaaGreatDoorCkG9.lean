/- Layer 8, the law CodeReads: its walk. -/
import Derived.Test.YticaipedpcmhfaaGreatDoorCkX3
import Derived.Test.YticaipedpcmhfaaGreatDoorCkU2
import Derived.Test.YticaipedpcmhfaaGreatDoorCkU3
import Derived.Test.YticaipedpcmhfaaGreatDoorCkN9
import Derived.Test.YticaipedpcmhfaaGreatDoorCkG7
import Derived.Test.YticaipedpcmhfaaGreatDoorCkG8
import Derived.Deep.DeepCutAuto
namespace Go.Proofs.YticaipedpcmhfaaGreatDoor
open Go.RowKit Hp
namespace Ck
variable {w w' W w1 : World}

/-- Code that is not great. -/
structure Sml (c : Cd.Co) : Prop where
  sa : c.consts.length ≤ 1024
  sb : c.globals.length ≤ 64
  sc : c.procs.length ≤ 256
  sd : ∀ p ∈ c.procs, p.code.length ≤ 4096
theorem none_sml : Sml Cd.none_ := ⟨Nat.zero_le _, Nat.zero_le _, Nat.zero_le _, fun p h => by cases h⟩
theorem parse_sml {s : List UInt8} {d : Cd.Co} {e : Int} {n : Nat} (h : Cd.parseT Cd.sym s = (d, e, n)) : Sml d := by
  unfold Cd.parseT at h
  split at h
  · rename_i c m hr
    split at h
    · injection h with h _; rw [← h]; exact none_sml
    · rename_i hc
      injection h with h _
      rw [← h]
      have hg := Cd.goodC_of (by simpa using hc : (Cd.check Cd.sym c).1 = 0)
      exact ⟨hg.lens.1, hg.lens.2.1, hg.lens.2.2, fun p hp => (hg.procs p hp).len⟩
  · injection h with h _; rw [← h]; exact none_sml

theorem OCo.exact {cv pv gv : Value} {kvs : List Value} {c : Cd.Co} {F : List Nat} (h : OCo w cv pv gv kvs c F) : ∃ G, OCo w cv pv gv kvs c G ∧ ∀ b ∈ G, b < w.heap.size ∧ b ∈ F := by
  have key : ∀ b, b ∈ F → b < w.heap.size → b ∈ F.filter (fun b => decide (b < w.heap.size)) := fun b h1 h2 => List.mem_filter.2 ⟨h1, by simpa using h2⟩
  refine ⟨F.filter (fun b => decide (b < w.heap.size)), ⟨h.cr, h.gr, h.pr, h.kl, h.kr, h.kd, fun b hb => key b (h.cf b hb) (h.cr.lt hb), fun b hb => key b (h.gf b hb) (h.gr.lt hb), fun b hb => key b (h.pf b hb) (h.pr.lt hb), fun i b hi hb => key b (h.kf i b hi hb) ((h.kr i hi).lt hb)⟩, fun b hb => ?_⟩
  have := List.mem_filter.1 hb
  exact ⟨by simpa using this.2, this.1⟩

/-- What lies below B is as it was: told by blocks. -/
theorem below_same {B : Nat} (h : Below B W w1) : Same ((List.range W.heap.size).filter (fun b => decide (B ≤ b))) W w1 :=
  ⟨h.os, h.tape, h.output, h.size, fun k hk hn => h.block k (Nat.lt_of_not_le (fun hB => hn (List.mem_filter.2 ⟨List.mem_range.2 hk, by simpa using hB⟩)))⟩
theorem mem_ge {B n b : Nat} (h : b ∈ (List.range n).filter (fun b => decide (B ≤ b))) : B ≤ b := by simpa using (List.mem_filter.1 h).2

/-- Few lists, none great, all laid from B on. -/
structure Fw (B n m : Nat) (ls : List (Value × List (List Value))) : Prop where
  n : ls.length ≤ n
  m : ∀ p ∈ ls, p.2.length ≤ m
  b : ∀ q ∈ ls, ∀ x ∈ blk q.1, B ≤ x
theorem Fw.nil (B n m : Nat) : Fw B n m [] := ⟨Nat.zero_le _, fun p h => (by cases h), fun q h => (by cases h)⟩
theorem Fw.add {B n m k : Nat} {ls l : List (Value × List (List Value))} (h : Fw B n m ls) (h1 : l.length ≤ k) (h2 : ∀ p ∈ l, p.2.length ≤ m) (h3 : ∀ q ∈ l, ∀ x ∈ blk q.1, B ≤ x) : Fw B (n + k) m (ls ++ l) :=
  ⟨by rw [List.length_append]; have := h.n; omega, fun p hp => by
    rcases List.mem_append.1 hp with hp | hp
    · exact h.m p hp
    · exact h2 p hp, fun q hq => by
    rcases List.mem_append.1 hq with hq | hq
    · exact h.b q hq
    · exact h3 q hq⟩
theorem Fw.few {B n m : Nat} {ls : List (Value × List (List Value))} (h : Fw B n m ls) (h1 : n ≤ 6000) (h2 : m ≤ 100000) : Few ls := ⟨Nat.le_trans h.n h1, fun p hp => Nat.le_trans (h.m p hp) h2⟩

set_option maxHeartbeats 8000000 in
set_option maxRecDepth 100000 in
theorem reads_any (s : ByteArray) (hs : s.size ≤ 140737488351232) (hv : Vars w) : Calls Tryz.prog 4 #[.string s] w fun e w' => e = .returned (.bool true) ∧ Same [] w w' := by
  have HV := Lib.hid hv
  clear hv
  go_enter Tryz.func4, Tryz.ntmps4
  go_wp2_with fail
  refine (works_any HV.out).mono ?_
  rintro e w1 ⟨rfl, hs1⟩
  have HS1 := Lib.hid hs1
  clear hs1
  by_cases hmuch : 8388608 < s.size
  · go_wp2_with fail
    go_ret
    exact ⟨rfl, HS1.out⟩
  rcases hp : Cd.parseT Cd.sym s.data.toList with ⟨d, er, n⟩
  have hwc := parse_wco (by rw [← list_size s rfl]; omega) hp
  have hsm := parse_sml hp
  have HP := Lib.hid hp
  have HWC := Lib.hid hwc
  have HSM := Lib.hid hsm
  clear hp hwc hsm
  go_wp2_with fail
  refine (parseR_any s (by omega)).mono ?_
  rintro e w2 ⟨cv, pv, gv, kvs, F0, rfl, ho0, hF0, hs2⟩
  rw [HP.out] at ho0 ⊢
  obtain ⟨A1, C1, rfl⟩ := ho0.cr.lit
  obtain ⟨A2, C2, rfl⟩ := ho0.pr.lit
  obtain ⟨A3, C3, rfl⟩ := ho0.gr.lit
  obtain ⟨F, ho, hF⟩ := ho0.exact
  have HO := Lib.hid ho
  have HF := Lib.hid hF
  have HS2 := Lib.hid (HS1.out.trans hs2)
  clear ho0 hF0 hs2 ho hF
  obtain ⟨B, hB⟩ : ∃ B, B = w2.heap.size + 1 := ⟨_, rfl⟩
  have hbk : BkAt ((w2.alloc (.cells #[.slice A1 d.consts.length C1, .slice A2 d.procs.length C2, .slice A3 d.globals.length C3] 26)).alloc (.cells #[.slice none 0 0, .slice none 0 0, .slice none 0 0, .slice none 0 0, .slice none 0 0, .slice none 0 0, .slice none 0 0, .slice none 0 0, .slice none 0 0, .slice none 0 0, .slice none 0 0, .slice none 0 0, .slice none 0 0, .slice none 0 0, .slice none 0 0, .slice none 0 0, .slice none 0 0] 59)) (w2.heap.size + 1) (.slice none 0 0) (.slice none 0 0) (.slice none 0 0) (.slice none 0 0) [] [] [] [] :=
    ⟨blk_new (by simp), FamL.nil _ _ _ _, FamL.nil _ _ _ _, FamL.nil _ _ _ _, FamL.nil _ _ _ _, World.ownsRow_nil _ _ _ _⟩
  have hk4 : Blk ((w2.alloc (.cells #[.slice A1 d.consts.length C1, .slice A2 d.procs.length C2, .slice A3 d.globals.length C3] 26)).alloc (.cells #[.slice none 0 0, .slice none 0 0, .slice none 0 0, .slice none 0 0, .slice none 0 0, .slice none 0 0, .slice none 0 0, .slice none 0 0, .slice none 0 0, .slice none 0 0, .slice none 0 0, .slice none 0 0, .slice none 0 0, .slice none 0 0, .slice none 0 0, .slice none 0 0, .slice none 0 0] 59)) w2.heap.size 26 [.slice A1 d.consts.length C1, .slice A2 d.procs.length C2, .slice A3 d.globals.length C3] := (Blk.new w2 26 [.slice A1 d.consts.length C1, .slice A2 d.procs.length C2, .slice A3 d.globals.length C3]).alloc _
  have hob : OCo ((w2.alloc (.cells #[.slice A1 d.consts.length C1, .slice A2 d.procs.length C2, .slice A3 d.globals.length C3] 26)).alloc (.cells #[.slice none 0 0, .slice none 0 0, .slice none 0 0, .slice none 0 0, .slice none 0 0, .slice none 0 0, .slice none 0 0, .slice none 0 0, .slice none 0 0, .slice none 0 0, .slice none 0 0, .slice none 0 0, .slice none 0 0, .slice none 0 0, .slice none 0 0, .slice none 0 0, .slice none 0 0] 59)) (.slice A1 d.consts.length C1) (.slice A2 d.procs.length C2) (.slice A3 d.globals.length C3) kvs d F := HO.out.frame (((Same.refl [] w2).alloc _).alloc _) (by simp)
  have htp : Tops B (w2.heap.size + 1) (.slice none 0 0) (.slice none 0 0) (.slice none 0 0) (.slice none 0 0) := ⟨by omega, by simp [blk], by simp [blk], by simp [blk], by simp [blk]⟩
  have hsb : Same [] w ((w2.alloc (.cells #[.slice A1 d.consts.length C1, .slice A2 d.procs.length C2, .slice A3 d.globals.length C3] 26)).alloc (.cells #[.slice none 0 0, .slice none 0 0, .slice none 0 0, .slice none 0 0, .slice none 0 0, .slice none 0 0, .slice none 0 0, .slice none 0 0, .slice none 0 0, .slice none 0 0, .slice none 0 0, .slice none 0 0, .slice none 0 0, .slice none 0 0, .slice none 0 0, .slice none 0 0, .slice none 0 0] 59)) := (HS2.out.alloc _).alloc _
  have hzb : B ≤ (((w2.alloc (.cells #[.slice A1 d.consts.length C1, .slice A2 d.procs.length C2, .slice A3 d.globals.length C3] 26)).alloc (.cells #[.slice none 0 0, .slice none 0 0, .slice none 0 0, .slice none 0 0, .slice none 0 0, .slice none 0 0, .slice none 0 0, .slice none 0 0, .slice none 0 0, .slice none 0 0, .slice none 0 0, .slice none 0 0, .slice none 0 0, .slice none 0 0, .slice none 0 0, .slice none 0 0, .slice none 0 0] 59))).heap.size := by simp; omega
  have HBK := Lib.hid hbk
  have HK4 := Lib.hid hk4
  have HOB := Lib.hid hob
  have HTP := Lib.hid htp
  have HSB := Lib.hid hsb
  have HZB := Lib.hid hzb
  have HBE := Lib.hid hB
  clear hbk hk4 hob htp hsb hzb hB
  go_wp2_with fail
  go_loopg [8] 2 (fun gk a8 wr => ∃ (i : Nat) (to_ wo io po : Value) (tl wl il pl : List (Value × List (List Value))), i ≤ 2 ∧ gk = 2 - i ∧ a8 = .int .i64 i ∧ BkAt wr (w2.heap.size + 1) to_ wo io po tl wl il pl ∧ Tops B (w2.heap.size + 1) to_ wo io po ∧ Fw B i 64 tl ∧ Fw B i 1024 wl ∧ Fw B (i * 256) 4096 il ∧ Fw B i 256 pl ∧ Blk wr w2.heap.size 26 [.slice A1 d.consts.length C1, .slice A2 d.procs.length C2, .slice A3 d.globals.length C3] ∧ OCo wr (.slice A1 d.consts.length C1) (.slice A2 d.procs.length C2) (.slice A3 d.globals.length C3) kvs d F ∧ Same [] w wr ∧ B ≤ wr.heap.size)
  case atStart => exact ⟨0, _, _, _, _, [], [], [], [], by omega, rfl, rfl, HBK.out, HTP.out, Fw.nil _ _ _, Fw.nil _ _ _, Fw.nil _ _ _, Fw.nil _ _ _, HK4.out, HOB.out, HSB.out, HZB.out⟩
  case round =>
    obtain ⟨i, to_, wo, io, po, tl, wl, il, pl, hi, rfl, rfl, h1, h2, h3, h4, h5, h6, h7, h8, h9, h10⟩ := hrel
    have H1 := Lib.hid h1
    have H2 := Lib.hid h2
    have H3 := Lib.hid h3
    have H4 := Lib.hid h4
    have H5 := Lib.hid h5
    have H6 := Lib.hid h6
    have H7 := Lib.hid h7
    have H8 := Lib.hid h8
    have H9 := Lib.hid h9
    have H10 := Lib.hid h10
    clear h1 h2 h3 h4 h5 h6 h7 h8 h9 h10
    by_cases hlt : i < 2
    · have hlt' : (i : Int) < 2 := by omega
      go_wp2_with fail
      refine (parse_any s (by omega) (HV.out.frame H9.out (by simp))).mono ?_
      rintro e w3 ⟨cv, pv, gv, kv2, G0, rfl, ho0, hG0, hs3⟩
      rw [HP.out] at ho0 ⊢
      obtain ⟨D1, E1, rfl⟩ := ho0.cr.lit
      obtain ⟨D2, E2, rfl⟩ := ho0.pr.lit
      obtain ⟨D3, E3, rfl⟩ := ho0.gr.lit
      have HQ := Lib.hid ho0
      have HG0 := Lib.hid hG0
      have HS3 := Lib.hid hs3
      have hk3 := H7.out.frame hs3 (by simp)
      have p0 := hk3.cell 0
      have p1 := hk3.cell 1
      have p2 := hk3.cell 2
      have pz := hk3.lt
      have HK3 := Lib.hid hk3
      clear ho0 hG0 hs3 hk3
      go_wp2_with fail
      refine (s0C_any _ _ d d ⟨_, _, _, rfl, HQ.out.read.frame ((Same.refl [] _).alloc _)⟩ ⟨_, _, _, rfl, (H8.out.frame (HS3.out.alloc _) (by simp)).read⟩).mono ?_
      rintro e w5 ⟨rfl, hs5⟩
      rw [decide_eq_true (rfl : d = d)]
      have hs35 : Same [] w3 w5 := ((Same.refl [] w3).alloc _).trans hs5
      have hs45 : Same [] wr w5 := HS3.out.trans hs35
      have hk9 : Blk w5 w3.heap.size 26 [.slice D1 d.consts.length E1, .slice D2 d.procs.length E2, .slice D3 d.globals.length E3] := (Blk.new w3 26 [.slice D1 d.consts.length E1, .slice D2 d.procs.length E2, .slice D3 d.globals.length E3]).frame hs5 (by simp)
      have HQ5 := Lib.hid (HQ.out.frame hs35 (by simp))
      have HS45 := Lib.hid hs45
      have q0 := hk9.cell 0
      have q1 := hk9.cell 1
      have q2 := hk9.cell 2
      have h1w : wr.heap.size ≤ w5.heap.size := hs45.size
      have HBW := Lib.hid (Nat.le_trans H10.out h1w)
      have hge : ∀ {e size m : Nat} {v : Value} {xs : List Value}, Ow w5 e size v m xs → (∀ b, v.ownBlock = some b → b ∈ G0) → ∀ x ∈ blk v, wr.heap.size ≤ x := fun ho hb x hx => HG0.out x (hb x (blk_own ho hx))
      have hCV := hge HQ5.out.cr HQ5.out.cf
      have hGV := hge HQ5.out.gr HQ5.out.gf
      have hPV := hge HQ5.out.pr HQ5.out.pf
      have hKV : ∀ k, k < d.procs.length → ∀ x ∈ blk (kv2.getD k undef), wr.heap.size ≤ x := fun k hk => hge (HQ5.out.kr k hk) (fun b hb => HQ5.out.kf k b hk hb)
      have HC := Lib.hid (bookCode_any (B := B) (H1.out.frame0 hs45) (CR.of HQ5.out) HBW.out H2.out (by have := H3.out.n; omega) (by have := H4.out.n; omega) (by have := H5.out.n; omega) (by have := H6.out.n; omega) HSM.out.sc
        (fun q hq x hx hm => by have := hGV x hm; have := (H1.out.ft.rows q hq).lt x hx; omega) (fun q hq x hx hm => by have := hCV x hm; have := (H1.out.fw.rows q hq).lt x hx; omega) (fun q hq x hx hm => by have := hPV x hm; have := (H1.out.fp.rows q hq).lt x hx; omega) (fun q hq x hx k hk hm => by have := hKV k hk x hm; have := (H1.out.fi.rows q hq).lt x hx; omega))
      have HCV := Lib.hid hCV
      have HGV := Lib.hid hGV
      have HPV := Lib.hid hPV
      have HKV := Lib.hid hKV
      clear hs5 hs35 hs45 hk9 hge hCV hGV hPV hKV p0 p1 p2
      go_wp2_with fail
      refine HC.out.mono ?_
      rintro e w6 ⟨rfl, to2, wo2, io2, po2, hb6, ht6, hl6⟩
      have HB6 := Lib.hid hb6
      have HT6 := Lib.hid ht6
      have HL6 := Lib.hid hl6
      clear hb6 ht6 hl6 q0 q1 q2 HC
      go_wp2_with fail
      go_roundg (2 - (i + 1))
      case measure => omega
      case rel =>
        have hs6 := below_same HL6.out
        have hw6 : Same [] w w6 := (H9.out.trans HS45.out).trans' hs6 (fun x hx => .inr (by have := mem_ge hx; have := HBE.out; have := HS2.out.size; omega))
        refine ⟨i + 1, to2, wo2, io2, po2, _, _, _, _, by omega, rfl, by go_num, HB6.out, HT6.out, H3.out.add (by simp) (fun p hp => ?_) (fun q hq x hx => ?_), H4.out.add (by simp) (fun p hp => ?_) (fun q hq x hx => ?_), ?_, H6.out.add (by simp) (fun p hp => ?_) (fun q hq x hx => ?_), (H7.out.frame HS45.out (by simp)).frame hs6 (fun hm => ?_), (H8.out.frame HS45.out (by simp)).frame hs6 (fun b hb hm => ?_), hw6, Nat.le_trans HBW.out hs6.size⟩
        · rw [List.mem_singleton.1 hp]; simpa [lsS] using HSM.out.sb
        · rw [List.mem_singleton.1 hq] at hx; exact Nat.le_trans H10.out (HGV.out x hx)
        · rw [List.mem_singleton.1 hp]; simpa [lsW] using HSM.out.sa
        · rw [List.mem_singleton.1 hq] at hx; exact Nat.le_trans H10.out (HCV.out x hx)
        · have := H5.out.add (l := iL d kv2 d.procs.length) (k := 256) (by simpa [iL] using HSM.out.sc) (fun p hp => by
            obtain ⟨j, hj, rfl⟩ := List.mem_map.1 hp
            have hj := List.mem_range.1 hj
            simp only [lsI, List.length_map]
            exact HSM.out.sd _ (by rw [List.getD_eq_getElem?_getD, List.getElem?_eq_getElem hj]; exact List.getElem_mem hj)) (fun q hq x hx => by
            obtain ⟨j, hj, rfl⟩ := List.mem_map.1 hq
            have hj := List.mem_range.1 hj
            exact Nat.le_trans H10.out (HKV.out j hj x hx))
          rw [show (i + 1) * 256 = i * 256 + 256 from by omega]
          exact this
        · rw [List.mem_singleton.1 hp]; simp only []; rw [lsP_len _ _ HQ5.out.kl]; exact HSM.out.sc
        · rw [List.mem_singleton.1 hq] at hx; exact Nat.le_trans H10.out (HPV.out x hx)
        · have := mem_ge hm; have := HBE.out; omega
        · have := mem_ge hm; have := HBE.out; have := (HF.out b hb).1; omega
    · have hie : i = 2 := by omega
      have hge : (2 : Int) ≤ (i : Int) := by omega
      have HC := Lib.hid (own_any H1.out (H3.out.few (by omega) (by omega)) (H4.out.few (by omega) (by omega)) (H5.out.few (by omega) (by omega)) (H6.out.few (by omega) (by omega)))
      clear hie
      go_wp2_with fail
      refine HC.out.mono ?_
      rintro e w7 ⟨rfl, hs7⟩
      have HS7 := Lib.hid hs7
      clear hs7 HC
      go_wp2_with fail
      go_ret
      have key : ∀ {ro : Value} {ls : List (Value × List (List Value))} {n m : Nat}, (∀ x ∈ blk ro, B ≤ x) → Fw B n m ls → ∀ x ∈ famB ro ls, w.heap.size ≤ x := fun h1 h2 x hx => by
        have := HBE.out
        have := HS2.out.size
        rcases List.mem_append.1 hx with h | h
        · have := h1 x h; omega
        · obtain ⟨q, hq, hx⟩ := List.mem_flatMap.1 h
          have := h2.b q hq x hx; omega
      refine ⟨rfl, H9.out.trans' HS7.out (fun x hx => .inr ?_)⟩
      simp only [List.mem_append] at hx
      rcases hx with ((hx | hx) | hx) | hx
      · exact key H2.out.t H3.out x hx
      · exact key H2.out.w H4.out x hx
      · exact key H2.out.i H5.out x hx
      · exact key H2.out.p H6.out x hx
end Ck
end Go.Proofs.YticaipedpcmhfaaGreatDoor
