/- Layer 0, the document's look at lent code: WholeCode, of what is as it was lent: true. -/
import Derived.Test.YticaipedpcmhfaaGreatDoorCkE2
import Derived.Test.YticaipedpcmhfaaGreatDoorCkE3
import Derived.Deep.QuietTactic
import Derived.BigQuiet
import Derived.Test.YticaipedpcmhfaaGreatDoorCkE4
import Derived.Deep.LoopGhost
import Derived.Test.YticaipedpcmhfaaGreatDoorCkO2
namespace Go.Proofs.YticaipedpcmhfaaGreatDoor
open Go.RowKit Hp
namespace Ck
variable {w w' : World}

theorem LC.frame {B : Nat} {cv pv gv : Value} {kvs : List Value} {c : Cd.Co} (h : LC w B cv pv gv kvs c) (hs : Same [] w w') : LC w' B cv pv gv kvs c := by
  obtain ⟨b1, h1, e1, k1⟩ := h.cr
  obtain ⟨b2, h2, e2, k2⟩ := h.gr
  obtain ⟨b3, h3, e3, k3⟩ := h.pr
  exact ⟨⟨b1, h1, e1, k1.frame hs (by simp)⟩, ⟨b2, h2, e2, k2.frame hs (by simp)⟩, ⟨b3, h3, e3, k3.frame hs (by simp)⟩, h.ks.frame hs (by simp)⟩

set_option maxHeartbeats 8000000 in
set_option maxRecDepth 100000 in
theorem wholeC_any (B : Nat) (cv pv gv : Value) (kvs : List Value) (v2 : Value) (c : Cd.Co) (h1 : LC w B cv pv gv kvs c) (h2 : RCo w v2 c) (hl : c.consts.length ≤ 10000000 ∧ c.globals.length ≤ 10000000 ∧ c.procs.length ≤ 10000000 ∧ ∀ p ∈ c.procs, p.code.length ≤ 10000000) : Calls Tryz.prog 15 #[.agg #[cv, pv, gv], v2] w fun e w' => e = .returned (.bool true) ∧ Same [] w w' := by
  obtain ⟨cv2, pv2, gv2, rfl, hr⟩ := h2
  obtain ⟨A1, c1, rfl, hc1, hc1'⟩ := hr.consts.form
  obtain ⟨kv, hps, hks⟩ := hr.procs
  obtain ⟨A2, c2, rfl, hc2, hc2'⟩ := hps.form
  obtain ⟨A3, c3, rfl, hc3, hc3'⟩ := hr.globals.form
  obtain ⟨b1, _, e1, k1⟩ := h1.cr
  obtain ⟨b2, _, e2, k2⟩ := h1.gr
  obtain ⟨b3, _, e3, k3⟩ := h1.pr
  subst e1 e2 e3
  obtain ⟨l1, l2, l3, l4⟩ := hl
  have HR := Lib.hid hr
  have HPS := Lib.hid hps
  have HKS := Lib.hid hks
  have HL4 := Lib.hid l4
  have HLC := Lib.hid h1
  have K1 := Lib.hid k1
  have K2 := Lib.hid k2
  have K3 := Lib.hid k3
  unfold maxLen at hc1' hc2' hc3'
  clear hr hps hks l4 h1 k1 k2 k3
  have HB : Hid (∀ W, Same [] ((w.alloc (.cells #[.slice (some ⟨b1, 0, none⟩) c.consts.length (c.consts.length + 2), .slice (some ⟨b3, 0, none⟩) c.procs.length (c.procs.length + 1), .slice (some ⟨b2, 0, none⟩) c.globals.length (c.globals.length + 2)] 26)).alloc (.cells #[.slice A1 c.consts.length c1, .slice A2 c.procs.length c2, .slice A3 c.globals.length c3] 26)) W → Blk W w.heap.size 26 [.slice (some ⟨b1, 0, none⟩) c.consts.length (c.consts.length + 2), .slice (some ⟨b3, 0, none⟩) c.procs.length (c.procs.length + 1), .slice (some ⟨b2, 0, none⟩) c.globals.length (c.globals.length + 2)] ∧ Blk W (w.heap.size + 1) 26 [.slice A1 c.consts.length c1, .slice A2 c.procs.length c2, .slice A3 c.globals.length c3] ∧ Same [] w W) := Lib.hid (fun W hs =>
    ⟨Blk.frame ((Blk.new w _ _).alloc _) hs (by simp), Blk.frame (blk_at (by simp)) hs (by simp), (((Same.refl [] w).alloc _).alloc _).trans hs⟩)
  go_enter Tryz.func15, Tryz.ntmps15
  go_wp2_with fail
  refine (wholeW_any b1 _ c.consts (K1.out.frame (((Same.refl [] w).alloc _).alloc _) (by simp)) (HR.out.consts.frame (((Same.refl [] w).alloc _).alloc _)) (by omega)).mono ?_
  rintro e w2 ⟨rfl, hq2⟩
  have hs2 := Qt.same hq2
  obtain ⟨q1, q2, q3⟩ := HB.out w2 hs2
  have p0 := q1.cell 0
  have p1 := q1.cell 1
  have p2 := q1.cell 2
  have pz := q1.lt
  have r0 := q2.cell 0
  have r1 := q2.cell 1
  have r2 := q2.cell 2
  have rz := q2.lt
  have HS2 := Lib.hid hs2
  have HQ2 := Lib.hid q3
  clear q1 q2 q3 hs2 hq2
  go_wp2_with fail
  refine (wholeT_any b2 _ c.globals (K2.out.frame HQ2.out (by simp)) (HR.out.globals.frame HQ2.out) (by omega)).mono ?_
  rintro e w3 ⟨rfl, hq3⟩
  have hs3 := HS2.out.trans (Qt.same hq3)
  obtain ⟨q1, q2, q3⟩ := HB.out w3 hs3
  have p0 := q1.cell 0
  have p1 := q1.cell 1
  have p2 := q1.cell 2
  have pz := q1.lt
  have r0 := q2.cell 0
  have r1 := q2.cell 1
  have r2 := q2.cell 2
  have rz := q2.lt
  have HS3 := Lib.hid hs3
  have HQ3 := Lib.hid q3
  clear q1 q2 hs3 hq3
  have hk3 := K3.out.frame q3 (by simp)
  have fl : (flatP c.procs kvs).length = c.procs.length * 2 := flatP_len _ _ HLC.out.ks.1
  have n0 : w3.cell? ⟨b3, c.procs.length * 2, none⟩ = some (.int .i64 (-77)) := by have := lent_mark hk3 0 fl; exact this
  have n1 : w3.cell? ⟨b3, c.procs.length * 2 + 1, none⟩ = some (.slice none 0 0) := by have := lent_mark hk3 1 fl; exact this
  have HFL := Lib.hid fl
  clear q3 hk3 fl
  go_wp2_with fail
  go_loopg [6] c.procs.length (fun gk i wr => ∃ k : Nat, k ≤ c.procs.length ∧ gk = c.procs.length - k ∧ i = .int .i64 k ∧ Same [] w3 wr)
  case atStart => exact ⟨0, Nat.zero_le _, rfl, rfl, Same.refl _ _⟩
  case round =>
    obtain ⟨k, hk, rfl, rfl, hs⟩ := hrel
    obtain ⟨q1, q2, q3⟩ := HB.out wr (HS3.out.trans hs)
    have p1 := q1.cell 1
    have pz := q1.lt
    have r1 := q2.cell 1
    have rz := q2.lt
    have HS := Lib.hid hs
    have HQ := Lib.hid q3
    clear q1 q2 q3 hs p0 p2 r0 r2 n0 n1
    by_cases hlt : k < c.procs.length
    · obtain ⟨b, off, cap2, he, _, _, hbb, hcell⟩ := HPS.out.lit (by omega)
      injection he with he1 _ he3
      subst he1 he3
      obtain ⟨q, hq⟩ : ∃ q, q = c.procs.getD k ⟨0, []⟩ := ⟨_, rfl⟩
      have hri := HKS.out k hlt
      rw [← hq] at hri
      obtain ⟨U, cu, hkv, _, _⟩ := hri.form
      rw [hkv] at hri
      obtain ⟨hkl, kb, hkb, _⟩ := HLC.out.ks
      obtain ⟨ek, hke, _⟩ := hkb k hlt
      rw [← hq] at ek hke
      have hql : q.code.length ≤ 10000000 := HL4.out q (by rw [hq, List.getD, List.getElem?_eq_getElem hlt]; exact List.getElem_mem _)
      have x0 : wr.cell? ⟨b, off + k * 2, none⟩ = some (.int .i64 q.params) := by rw [HQ.out.cell hbb (by simp), hq]; exact hcell k 0 hlt (by omega)
      have x1 : wr.cell? ⟨b, off + k * 2 + 1, none⟩ = some (.slice U q.code.length cu) := by rw [HQ.out.cell hbb (by simp), ← hkv]; exact hcell k 1 hlt (by omega)
      have h3 := K3.out.frame HQ.out (by simp)
      have y0 : wr.cell? ⟨b3, k * 2, none⟩ = some (.int .i64 q.params) := by
        rw [h3.cell, List.getElem?_append_left (by rw [HFL.out]; omega), hq]
        exact flatP_at c.procs kvs k 0 hkl hlt (by omega)
      have y1 : wr.cell? ⟨b3, k * 2 + 1, none⟩ = some (.slice (some ⟨kb k, 0, none⟩) q.code.length (q.code.length + 2)) := by
        rw [h3.cell, List.getElem?_append_left (by rw [HFL.out]; omega), ← ek]
        exact flatP_at c.procs kvs k 1 hkl hlt (by omega)
      obtain ⟨g, hg⟩ : ∃ g, g = kb k := ⟨_, rfl⟩
      rw [← hg] at y1 hke
      have HWI : Hid (∀ W, Same [] w W → Calls Tryz.prog 47 #[.slice (some ⟨g, 0, none⟩) q.code.length (q.code.length + 2), .slice U q.code.length cu] W fun e w' => e = .returned (.bool true) ∧ ∃ m, w' = W.drewN m) := Lib.hid (fun W h => wholeI_any g _ q.code (hke.frame h (by simp)) (Sq.frame hri h) (by omega))
      have k1 : (0 : Int) ≤ (k : Int) := by omega
      have k2 : (k : Int) < (c.procs.length : Int) := by omega
      clear hcell hkv hri hq hkb hkl ek hke hg h3
      go_wp2_with fail
      go_quiet ((go_at_call 47; exact Calls.quiet_of (HWI.out _ (by repeat (first | exact HQ.out | refine Same.drew ?_ | refine Same.drewN ?_ _)))))
      all_goals
        go_wp2_with fail
        go_roundg (c.procs.length - (k + 1))
        case measure => omega
        case rel => exact ⟨k + 1, by omega, rfl, by go_num, by repeat (first | exact HS.out | refine Same.drew ?_ | refine Same.drewN ?_ _)⟩
    · obtain rfl : k = c.procs.length := by omega
      go_wp2_with fail
      go_ret
      exact ⟨rfl, HQ.out⟩
end Ck
end Go.Proofs.YticaipedpcmhfaaGreatDoor
/- Layer 0: whoever lent code writes over it: SpoilCode. -/
namespace Go.Proofs.YticaipedpcmhfaaGreatDoor
open Go.RowKit Hp
namespace Ck
variable {w w' : World}

/-- Nothing below block B is turned. -/
def Abv (B : Nat) (w w' : World) : Prop := ∃ F, Same F w w' ∧ ∀ x ∈ F, B ≤ x
theorem Abv.refl (B : Nat) (w : World) : Abv B w w := ⟨[], Same.refl _ _, by simp⟩
theorem Abv.step {B : Nat} {a b c : World} {F : List Nat} (h : Abv B a b) (hs : Same F b c) (hF : ∀ x ∈ F, B ≤ x) : Abv B a c := by
  obtain ⟨G, h1, h2⟩ := h
  refine ⟨G ++ F, (h1.mono (fun x hx => .inl (by simp [hx]))).trans' hs (fun x hx => .inl (by simp [hx])), fun x hx => ?_⟩
  rcases List.mem_append.1 hx with h | h
  · exact h2 x h
  · exact hF x h

theorem over_get (z cs : List Value) (k j : Nat) (hj : k * z.length ≤ j) : (over z cs k)[j]? = cs[j]? := by
  unfold over
  rw [List.getElem?_append_right (by rw [rep_len]; exact hj), rep_len, List.getElem?_drop]
  congr 1; omega

def spS : ByteArray := ⟨#[115, 112, 111, 105, 108, 116]⟩
/-- Code that was written over. -/
def spoilt (c : Cd.Co) : Cd.Co := ⟨List.replicate c.consts.length 77777773, List.replicate c.globals.length spS, List.replicate c.procs.length ⟨99, []⟩⟩

set_option maxHeartbeats 8000000 in
set_option maxRecDepth 100000 in
theorem spoilC_any (B : Nat) (cv pv gv : Value) (kvs : List Value) (c : Cd.Co) (bx : Nat) (xs : List Value) (hbx : Blk w bx 26 xs) (h1 : LC w B cv pv gv kvs c) (hl : c.consts.length ≤ 10000000 ∧ c.globals.length ≤ 10000000 ∧ c.procs.length ≤ 10000000 ∧ ∀ p ∈ c.procs, p.code.length ≤ 10000000) : Calls Tryz.prog 16 #[.agg #[cv, pv, gv]] w fun e w' => e = .returned (.tuple #[]) ∧ (∃ b1, cv = .slice (some ⟨b1, 0, none⟩) c.consts.length (c.consts.length + 2) ∧ Blk w' b1 74 (over [.int .u64 77777773] (c.consts.map (Value.int .u64) ++ markW) (c.consts.length + 2))) ∧ (∃ b2, gv = .slice (some ⟨b2, 0, none⟩) c.globals.length (c.globals.length + 2) ∧ Blk w' b2 9 (over [.string spS] (c.globals.map Value.string ++ markS) (c.globals.length + 2))) ∧ (∃ b3, pv = .slice (some ⟨b3, 0, none⟩) c.procs.length (c.procs.length + 1) ∧ Blk w' b3 68 (over [.int .i64 99, .slice none 0 0] (flatP c.procs kvs ++ markP) c.procs.length)) ∧ Blk w' bx 26 xs ∧ Abv B w w' := by
  obtain ⟨b1, z1, e1, k1⟩ := h1.cr
  obtain ⟨b2, z2, e2, k2⟩ := h1.gr
  obtain ⟨b3, z3, e3, k3⟩ := h1.pr
  subst e1 e2 e3
  obtain ⟨l1, l2, l3, l4⟩ := hl
  have hBw : B ≤ w.heap.size := Nat.le_trans z1 (Nat.le_of_lt k1.lt)
  have n12 : b1 ≠ b2 := k1.ne k2 (by decide)
  have n13 : b1 ≠ b3 := k1.ne k3 (by decide)
  have n23 : b2 ≠ b3 := k2.ne k3 (by decide)
  have nb1 : bx ≠ b1 := hbx.ne k1 (by decide)
  have nb2 : bx ≠ b2 := hbx.ne k2 (by decide)
  have HBX := Lib.hid hbx
  have lt1 := k1.lt
  have lt2 := k2.lt
  have lt3 := k3.lt
  have HLC := Lib.hid h1
  have K1 := Lib.hid k1
  have K2 := Lib.hid k2
  have K3 := Lib.hid k3
  have HL4 := Lib.hid l4
  clear k1 k2 k3 h1 l4 hbx
  go_enter Tryz.func16, Tryz.ntmps16
  go_wp2_with fail
  refine (spoilW_any b1 c.consts.length (c.consts.length + 2) _ (K1.out.alloc _) (by simp [markW]) (by omega) (by omega)).mono ?_
  rintro e w2 ⟨rfl, hb1, hs2⟩
  have hx2 : Blk w2 w.heap.size 26 [.slice (some ⟨b1, 0, none⟩) c.consts.length (c.consts.length + 2), .slice (some ⟨b3, 0, none⟩) c.procs.length (c.procs.length + 1), .slice (some ⟨b2, 0, none⟩) c.globals.length (c.globals.length + 2)] := Blk.frame (Blk.new w _ _) hs2 (by simp; omega)
  have hk2 := (K2.out.alloc (.cells #[.slice (some ⟨b1, 0, none⟩) c.consts.length (c.consts.length + 2), .slice (some ⟨b3, 0, none⟩) c.procs.length (c.procs.length + 1), .slice (some ⟨b2, 0, none⟩) c.globals.length (c.globals.length + 2)] 26)).frame hs2 (by simp; exact fun h => n12 h.symm)
  have p0 := hx2.cell 0
  have p1 := hx2.cell 1
  have p2 := hx2.cell 2
  have HX2 := Lib.hid hx2
  have HK2 := Lib.hid hk2
  have HB1 := Lib.hid hb1
  have HS2 := Lib.hid hs2
  clear hx2 hk2 hb1 hs2
  go_wp2_with fail
  refine (spoilT_any b2 c.globals.length (c.globals.length + 2) _ HK2.out (by simp [markS]) (by omega) (by omega)).mono ?_
  rintro e w3 ⟨rfl, hb2, hs3⟩
  have hx3 := HX2.out.frame hs3 (by simp; omega)
  have hb1 := HB1.out.frame hs3 (by simp; exact n12)
  have h23 : Same [b1, b2] (w.alloc (.cells #[.slice (some ⟨b1, 0, none⟩) c.consts.length (c.consts.length + 2), .slice (some ⟨b3, 0, none⟩) c.procs.length (c.procs.length + 1), .slice (some ⟨b2, 0, none⟩) c.globals.length (c.globals.length + 2)] 26)) w3 := (HS2.out.mono (fun x hx => .inl (by simp at hx; simp [hx]))).trans' hs3 (fun x hx => .inl (by simp at hx; simp [hx]))
  have hA : Abv B w w3 := (((Abv.refl B w).step ((Same.refl [] w).alloc _) (by simp)).step h23 (fun x hx => by simp at hx; rcases hx with rfl | rfl <;> assumption))
  have hks : LKs w3 B kvs c.procs := by
    obtain ⟨a1, f, a2, a3⟩ := HLC.out.ks
    refine ⟨a1, f, fun i hi => ?_, a3⟩
    obtain ⟨x1, x2, x3⟩ := a2 i hi
    have m1 : f i ≠ b1 := x2.ne K1.out (by decide)
    have m2 : f i ≠ b2 := x2.ne K2.out (by decide)
    exact ⟨x1, (x2.alloc _).frame h23 (by simp; exact ⟨m1, m2⟩), x3⟩
  have hk3 := (K3.out.alloc (.cells #[.slice (some ⟨b1, 0, none⟩) c.consts.length (c.consts.length + 2), .slice (some ⟨b3, 0, none⟩) c.procs.length (c.procs.length + 1), .slice (some ⟨b2, 0, none⟩) c.globals.length (c.globals.length + 2)] 26)).frame h23 (by simp; exact ⟨fun h => n13 h.symm, fun h => n23 h.symm⟩)
  have hbx3 := (HBX.out.alloc (.cells #[.slice (some ⟨b1, 0, none⟩) c.consts.length (c.consts.length + 2), .slice (some ⟨b3, 0, none⟩) c.procs.length (c.procs.length + 1), .slice (some ⟨b2, 0, none⟩) c.globals.length (c.globals.length + 2)] 26)).frame h23 (by simp; exact ⟨nb1, nb2⟩)
  have HBX3 := Lib.hid hbx3
  clear hbx3
  have p0 := hx3.cell 0
  have p1 := hx3.cell 1
  have p2 := hx3.cell 2
  have HX3 := Lib.hid hx3
  have HB1 := Lib.hid hb1
  have HB2 := Lib.hid hb2
  have HA := Lib.hid hA
  have HKS := Lib.hid hks
  have HK3 := Lib.hid hk3
  clear hx3 hb1 hb2 hs3 h23 hA hks hk3
  go_wp2_with fail
  obtain ⟨hkl, kb, hkb, hkd⟩ := HKS.out
  have hfl : (flatP c.procs kvs).length = c.procs.length * 2 := flatP_len _ _ hkl
  have hcs : (flatP c.procs kvs ++ markP).length = (c.procs.length + 1) * 2 := by rw [List.length_append, hfl]; simp [markP]; omega
  have HKL := Lib.hid hkl
  have HKB := Lib.hid hkb
  have HKD := Lib.hid hkd
  have HFL := Lib.hid hfl
  have HCS := Lib.hid hcs
  clear hkl hkb hkd hfl hcs p0 p1 p2
  go_loopg [2] c.procs.length (fun gk i wr => ∃ k : Nat, k ≤ c.procs.length ∧ gk = c.procs.length - k ∧ i = .int .i64 k ∧ Blk wr b3 68 (over [.int .i64 99, .slice none 0 0] (flatP c.procs kvs ++ markP) k) ∧ (∀ i, k ≤ i → i < c.procs.length → Blk wr (kb i) 82 (flatI (c.procs.getD i ⟨0, []⟩).code ++ markI)) ∧ Blk wr b1 74 (over [.int .u64 77777773] (c.consts.map (Value.int .u64) ++ markW) (c.consts.length + 2)) ∧ Blk wr b2 9 (over [.string spS] (c.globals.map Value.string ++ markS) (c.globals.length + 2)) ∧ Blk wr w.heap.size 26 [.slice (some ⟨b1, 0, none⟩) c.consts.length (c.consts.length + 2), .slice (some ⟨b3, 0, none⟩) c.procs.length (c.procs.length + 1), .slice (some ⟨b2, 0, none⟩) c.globals.length (c.globals.length + 2)] ∧ Blk wr bx 26 xs ∧ Abv B w wr)
  case atStart => exact ⟨0, Nat.zero_le _, rfl, rfl, by have := HK3.out; simpa [over] using this, fun i _ hi => (HKB.out i hi).2.1, HB1.out, HB2.out, HX3.out, HBX3.out, HA.out⟩
  case round =>
    obtain ⟨k, hk, rfl, rfl, g3, gi, g1, g2, gx, gb, gA⟩ := hrel
    have p1 := gx.cell 1
    have bz3 := g3.lt
    have bf3 := g3.frozen
    have G3 := Lib.hid g3
    have GI := Lib.hid gi
    have G1 := Lib.hid g1
    have G2 := Lib.hid g2
    have GX := Lib.hid gx
    have GB := Lib.hid gb
    have GA := Lib.hid gA
    by_cases hlt : k < c.procs.length
    · obtain ⟨q, hq⟩ : ∃ q, q = c.procs.getD k ⟨0, []⟩ := ⟨_, rfl⟩
      obtain ⟨ek, _, hbk⟩ := HKB.out k hlt
      have hI := gi k (Nat.le_refl _) hlt
      rw [← hq] at ek hI
      have hql : q.code.length ≤ 10000000 := HL4.out q (by rw [hq, List.getD, List.getElem?_eq_getElem hlt]; exact List.getElem_mem _)
      have y1 : wr.cell? ⟨b3, k * 2 + 1, none⟩ = some (.slice (some ⟨kb k, 0, none⟩) q.code.length (q.code.length + 2)) := by
        rw [g3.cell, over_get _ _ _ _ (by simp), List.getElem?_append_left (by rw [HFL.out]; omega), ← ek]
        exact flatP_at c.procs kvs k 1 HKL.out hlt (by omega)
      obtain ⟨g, hg⟩ : ∃ g, g = kb k := ⟨_, rfl⟩
      rw [← hg] at y1 hI hbk
      have m3 : g ≠ b3 := hI.ne g3 (by decide)
      have m1 : g ≠ b1 := hI.ne g1 (by decide)
      have m2 : g ≠ b2 := hI.ne g2 (by decide)
      have mx : g ≠ w.heap.size := hI.ne gx (by decide)
      have o1 : b3 ≠ b1 := g3.ne g1 (by decide)
      have o2 : b3 ≠ b2 := g3.ne g2 (by decide)
      have ox : b3 ≠ w.heap.size := g3.ne gx (by decide)
      have mb : g ≠ bx := hI.ne gb (by decide)
      have ob : b3 ≠ bx := g3.ne gb (by decide)
      have hJ : Hid (∀ i, k + 1 ≤ i → i < c.procs.length → kb i ≠ g ∧ kb i ≠ b3) := Lib.hid (fun i hi1 hi2 => ⟨by rw [hg]; have := HKD.out k i hi1 hi2; omega, (gi i (by omega) hi2).ne g3 (by decide)⟩)
      have HI := Lib.hid hI
      have HG := Lib.hid hg
      have HQ := Lib.hid hq
      have hfi : (flatI q.code ++ markI).length = (q.code.length + 2) * 2 := by rw [List.length_append, flatI_len]; simp [markI]; omega
      have k1 : (0 : Int) ≤ (k : Int) := by omega
      have k2 : (k : Int) < (c.procs.length : Int) := by omega
      clear g3 gi g1 g2 gx gb gA hI hg hq ek
      go_wp2_with fail
      refine (spoilI_any g q.code.length (q.code.length + 2) _ HI.out hfi (by omega) (by omega)).mono ?_
      rintro e w4 ⟨rfl, hb4, hs4⟩
      have g3 := G3.out.frame hs4 (by simp; exact fun h => m3 h.symm)
      have gx := GX.out.frame hs4 (by simp; exact fun h => mx h.symm)
      have p1 := gx.cell 1
      have bz3 := g3.lt
      have bf3 := g3.frozen
      have hl3 : (over [.int .i64 99, .slice none 0 0] (flatP c.procs kvs ++ markP) k).length = (c.procs.length + 1) * 2 := over_len _ _ _ (c.procs.length + 1) HCS.out (by omega)
      obtain ⟨c0, e0⟩ : ∃ c, w4.cell? ⟨b3, k * 2, none⟩ = some c := by
        rw [g3.cell]; exact ⟨_, List.getElem?_eq_getElem (by rw [hl3]; omega)⟩
      obtain ⟨c1, e1⟩ : ∃ c, w4.cell? ⟨b3, k * 2 + 1, none⟩ = some c := by
        rw [g3.cell]; exact ⟨_, List.getElem?_eq_getElem (by rw [hl3]; omega)⟩
      have H3 := Lib.hid g3
      have HX := Lib.hid gx
      have HS4 := Lib.hid hs4
      clear g3 gx hs4 hb4 y1 hl3
      go_wp2_with fail
      have hS : Same [b3] w4 ((w4.setCell ⟨b3, k * 2, none⟩ (.int .i64 99)).setCell ⟨b3, k * 2 + 1, none⟩ (.slice none 0 0)) := ((Same.refl _ _).setCell (.inl (by simp)) _).setCell (.inl (by simp)) _
      have r3 := (H3.out.set (k * 2) (.int .i64 99)).set (k * 2 + 1) (.slice none 0 0)
      rw [over_two _ _ _ _ (c.procs.length + 1) HCS.out (by omega)] at r3
      have R3 := Lib.hid r3
      have HS := Lib.hid hS
      clear r3 hS
      go_roundg (c.procs.length - (k + 1))
      case measure => omega
      case rel => exact ⟨k + 1, by omega, rfl, by go_num, R3.out, fun i h1 h2 => ((GI.out i (by omega) h2).frame HS4.out (by simp; exact (hJ.out i h1 h2).1)).frame HS.out (by simp; exact (hJ.out i h1 h2).2), (G1.out.frame HS4.out (by simp; exact fun h => m1 h.symm)).frame HS.out (by simp; exact fun h => o1 h.symm), (G2.out.frame HS4.out (by simp; exact fun h => m2 h.symm)).frame HS.out (by simp; exact fun h => o2 h.symm), HX.out.frame HS.out (by simp; exact fun h => ox h.symm), (GB.out.frame HS4.out (by simp; exact fun h => mb h.symm)).frame HS.out (by simp; exact fun h => ob h.symm), (GA.out.step HS4.out (by simp; exact hbk)).step HS.out (by simp; exact z3)⟩
    · obtain rfl : k = c.procs.length := by omega
      clear g3 gi g1 g2 gx gb gA
      go_wp2_with fail
      go_end0
      exact ⟨rfl, ⟨b1, rfl, G1.out⟩, ⟨b2, rfl, G2.out⟩, ⟨b3, rfl, G3.out⟩, GB.out, GA.out⟩
end Ck
end Go.Proofs.YticaipedpcmhfaaGreatDoor
/- Layer 8, the law CodeSame: plain lemmas: code that was written over; the numbers that bound the lists. -/
namespace Go.Proofs.YticaipedpcmhfaaGreatDoor
open Go.RowKit Hp
namespace Ck
variable {w w' : World}

theorem rep_get (z : List Value) : ∀ (k i j : Nat), i < k → j < z.length → ((List.replicate k z).flatMap id)[i * z.length + j]? = z[j]?
  | 0, _, _, h, _ => absurd h (Nat.not_lt_zero _)
  | k + 1, 0, j, _, hj => by
    rw [List.replicate_succ, List.flatMap_cons, Nat.zero_mul, Nat.zero_add, id_eq, List.getElem?_append_left hj]
  | k + 1, i + 1, j, hi, hj => by
    rw [List.replicate_succ, List.flatMap_cons, id_eq, List.getElem?_append_right (by simp [Nat.add_mul]; omega), ← rep_get z k i j (by omega) hj]
    congr 1
    simp [Nat.add_mul]; omega
theorem over_low (z cs : List Value) (k i j : Nat) (hi : i < k) (hj : j < z.length) : (over z cs k)[i * z.length + j]? = z[j]? := by
  unfold over
  rw [List.getElem?_append_left, rep_get z k i j hi hj]
  rw [rep_len]
  have : (i + 1) * z.length ≤ k * z.length := Nat.mul_le_mul_right _ hi
  rw [Nat.add_mul] at this; omega
theorem sp_sq {b e n k m sz : Nat} {z cs : List Value} {f : Nat → Nat → Value} (h : Blk w b e (over z cs k)) (hz : z.length = sz) (hk : n ≤ k) (hm : n + m ≤ maxLen) (hf : ∀ i j, i < n → j < sz → z[j]? = some (f i j)) : Sq w (.slice (some ⟨b, 0, none⟩) n (n + m)) n sz f := by
  refine ⟨_, _, rfl, by omega, hm, fun _ => ⟨b, 0, rfl, h.lt, fun i j hi hj => ?_⟩⟩
  rw [Nat.zero_add, h.cell, ← hf i j hi hj, ← hz, over_low z cs k i j (by omega) (by omega)]
theorem rep_getD {α : Type} (n i : Nat) (x d : α) (h : i < n) : (List.replicate n x).getD i d = x := by
  rw [List.getD, List.getElem?_replicate, if_pos h]; rfl

theorem spoilt_at {cv pv gv : Value} {kvs : List Value} {c : Cd.Co} (hl : c.consts.length ≤ 10000000 ∧ c.globals.length ≤ 10000000 ∧ c.procs.length ≤ 10000000)
    (h1 : ∃ b1, cv = .slice (some ⟨b1, 0, none⟩) c.consts.length (c.consts.length + 2) ∧ Blk w b1 74 (over [.int .u64 77777773] (c.consts.map (Value.int .u64) ++ markW) (c.consts.length + 2)))
    (h2 : ∃ b2, gv = .slice (some ⟨b2, 0, none⟩) c.globals.length (c.globals.length + 2) ∧ Blk w b2 9 (over [.string spS] (c.globals.map Value.string ++ markS) (c.globals.length + 2)))
    (h3 : ∃ b3, pv = .slice (some ⟨b3, 0, none⟩) c.procs.length (c.procs.length + 1) ∧ Blk w b3 68 (over [.int .i64 99, .slice none 0 0] (flatP c.procs kvs ++ markP) c.procs.length)) : RCoAt w cv pv gv (spoilt c) := by
  obtain ⟨b1, rfl, k1⟩ := h1
  obtain ⟨b2, rfl, k2⟩ := h2
  obtain ⟨b3, rfl, k3⟩ := h3
  obtain ⟨l1, l2, l3⟩ := hl
  refine ⟨?_, ⟨fun _ => .slice none 0 0, ?_, fun i hi => ?_⟩, ?_⟩
  · show Sq w _ (List.replicate c.consts.length 77777773).length 1 (fW (List.replicate c.consts.length 77777773))
    rw [List.length_replicate]
    refine sp_sq k1 rfl (by omega) (by unfold maxLen; omega) fun i j hi hj => ?_
    obtain rfl : j = 0 := by omega
    rw [fW, rep_getD _ _ _ _ hi]; rfl
  · show Sq w _ (List.replicate c.procs.length (⟨99, []⟩ : Cd.Pr)).length 2 (fP (List.replicate c.procs.length ⟨99, []⟩) _)
    rw [List.length_replicate]
    refine sp_sq k3 rfl (by omega) (by unfold maxLen; omega) fun i j hi hj => ?_
    rw [fP, rep_getD _ _ _ _ hi]
    match j, hj with
    | 0, _ => rfl
    | 1, _ => rfl
  · have hi' : i < c.procs.length := by
      have : (spoilt c).procs.length = c.procs.length := List.length_replicate
      omega
    show RIs w _ ((List.replicate c.procs.length (⟨99, []⟩ : Cd.Pr)).getD i ⟨0, []⟩).code
    rw [rep_getD _ _ _ _ hi']
    exact ⟨none, 0, rfl, Nat.le_refl _, Nat.zero_le _, fun h => absurd h (Nat.lt_irrefl _)⟩
  · show Sq w _ (List.replicate c.globals.length spS).length 1 (fS (List.replicate c.globals.length spS))
    rw [List.length_replicate]
    refine sp_sq k2 rfl (by omega) (by unfold maxLen; omega) fun i j hi hj => ?_
    obtain rfl : j = 0 := by omega
    rw [fS, rep_getD _ _ _ _ hi]; rfl

theorem len_le_sum : ∀ (l : List Nat), (∀ a ∈ l, 1 ≤ a) → l.length ≤ l.sum
  | [], _ => Nat.le_refl _
  | a :: l, h => by
    have h1 := len_le_sum l (fun b hb => h b (by simp [hb]))
    have h2 := h a (by simp)
    rw [List.length_cons, List.sum_cons]; omega
theorem mem_le_sum : ∀ (l : List Nat) (a : Nat), a ∈ l → a ≤ l.sum
  | [], _, h => by cases h
  | b :: l, a, h => by
    rw [List.sum_cons]
    rcases List.mem_cons.1 h with rfl | h
    · omega
    · have := mem_le_sum l a h; omega
theorem ofCn_small {c : Cd.Co} (h : ofCn c ≤ 8388608) : c.consts.length ≤ 10000000 ∧ c.globals.length ≤ 10000000 ∧ c.procs.length ≤ 10000000 ∧ ∀ p ∈ c.procs, p.code.length ≤ 10000000 := by
  have e := cntL_small (ofP c.procs) (c.consts.length + ofTn c.globals) (by unfold ofCn at h; omega)
  unfold ofCn at h
  rw [e] at h
  have e2 : ofTn c.globals = 0 + (ofT c.globals).sum := cntL_small (ofT c.globals) 0 (by unfold ofTn at h; omega)
  have g1 := len_le_sum (ofT c.globals) (fun a ha => by obtain ⟨s, _, rfl⟩ := List.mem_map.1 ha; omega)
  have g2 := len_le_sum (ofP c.procs) (fun a ha => by obtain ⟨s, _, rfl⟩ := List.mem_map.1 ha; omega)
  have l1 : (ofT c.globals).length = c.globals.length := List.length_map ..
  have l2 : (ofP c.procs).length = c.procs.length := List.length_map ..
  refine ⟨by omega, by omega, by omega, fun p hp => ?_⟩
  have := mem_le_sum (ofP c.procs) (1 + p.code.length) (List.mem_map.2 ⟨p, hp, rfl⟩)
  omega

/-- Lent code is code. -/
theorem LC.at {B : Nat} {cv pv gv : Value} {kvs : List Value} {c : Cd.Co} (h : LC w B cv pv gv kvs c) (hl : c.consts.length ≤ 10000000 ∧ c.globals.length ≤ 10000000 ∧ c.procs.length ≤ 10000000 ∧ ∀ p ∈ c.procs, p.code.length ≤ 10000000) : RCoAt w cv pv gv c := by
  obtain ⟨b1, _, rfl, k1⟩ := h.cr
  obtain ⟨b2, _, rfl, k2⟩ := h.gr
  obtain ⟨b3, _, rfl, k3⟩ := h.pr
  obtain ⟨hkl, kb, hkb, _⟩ := h.ks
  obtain ⟨l1, l2, l3, l4⟩ := hl
  refine ⟨lent_sq k1 (by simp) (by unfold maxLen; omega) (fW_at c.consts), ⟨fun i => kvs.getD i undef, ?_, fun i hi => ?_⟩, lent_sq k2 (by simp) (by unfold maxLen; omega) (fS_at c.globals)⟩
  · refine ⟨_, _, rfl, by omega, by unfold maxLen; omega, fun _ => ⟨b3, 0, rfl, k3.lt, fun i j hi hj => ?_⟩⟩
    rw [Nat.zero_add, k3.cell, List.getElem?_append_left (by rw [flatP_len _ _ hkl]; omega)]
    exact flatP_at c.procs kvs i j hkl hi hj
  · obtain ⟨e, hb, _⟩ := hkb i hi
    show RIs w (kvs.getD i undef) _
    rw [e]
    have hq : (c.procs.getD i ⟨0, []⟩).code.length ≤ 10000000 := l4 _ (by rw [List.getD, List.getElem?_eq_getElem hi]; exact List.getElem_mem _)
    exact lent_sq hb (by rw [flatI_len]) (by unfold maxLen; omega) (flatI_at _)
end Ck
end Go.Proofs.YticaipedpcmhfaaGreatDoor
