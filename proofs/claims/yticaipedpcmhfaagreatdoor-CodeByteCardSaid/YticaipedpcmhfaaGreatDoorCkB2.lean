/- Layer 8, the law CodeByte: its walk. -/
import Derived.Test.YticaipedpcmhfaaGreatDoorCkB1
import Derived.Test.YticaipedpcmhfaaGreatDoorCkPick
import Derived.Laws.BitsAllLaws
import Derived.Lib.ConvBytes
import Derived.Laws.IdiomStrings
namespace Go.Proofs.YticaipedpcmhfaaGreatDoor
open Go.RowKit Hp
namespace Ck
variable {w w' : World}

theorem bytes_same (w : World) (e : TypeId) (s : ByteArray) : Same [] w (Lib.bytesWorld w e s) :=
  ⟨rfl, rfl, rfl, by rw [Lib.bytesWorld_size]; omega, fun k hk _ => Lib.bytesWorld_at_old w e s k hk⟩
theorem bytes_frozen (w : World) (e : TypeId) (s : ByteArray) (j : Nat) (hj : j < s.size) : (Lib.bytesWorld w e s).frozen? ⟨w.heap.size, j, none⟩ = false := by
  unfold World.frozen?
  rw [Lib.bytesWorld_at_new]
  have hs : s.size ≤ (Lib.bytesCells w e s).size := by
    unfold Lib.bytesCells
    rw [Array.size_append, Array.size_map]
    exact Nat.le_add_right _ _
  simp
  omega

/-- A byte is another one. -/
theorem xor_ne (x b : Nat) (hb : b ≠ 0) : x ^^^ b ≠ x := fun e => hb (by
  have : x ^^^ (x ^^^ b) = x ^^^ x := by rw [e]
  rwa [← Nat.xor_assoc, Nat.xor_self, Nat.zero_xor] at this)

set_option maxHeartbeats 8000000 in
set_option maxRecDepth 100000 in
theorem byte_any (cv pv gv : Value) (c : Cd.Co) (hr : RCoAt w cv pv gv c) (hw : WCo c) (hl : Lens c) (hv : Vars w) (at_ : Int) (hat : in64 at_) (y : Nat) (hy : y < 256) : Calls Tryz.prog 7 #[.agg #[cv, pv, gv], .int .i64 at_, .int .u8 y] w fun e w' => e = .returned (.bool true) ∧ Same [] w w' := by
  obtain ⟨A1, c1, rfl, hc1, hc1'⟩ := hr.consts.form
  obtain ⟨kv, hps, hks⟩ := hr.procs
  obtain ⟨A2, c2, rfl, hc2, hc2'⟩ := hps.form
  obtain ⟨A3, c3, rfl, hc3, hc3'⟩ := hr.globals.form
  have HR := Lib.hid hr
  have HW := Lib.hid hw
  have HV := Lib.hid hv
  have HL := Lib.hid hl
  have HAT := Lib.hid hat
  unfold maxLen at hc1' hc2' hc3'
  clear hr hw hv hl hps hks hat
  go_enter Tryz.func7, Tryz.ntmps7
  go_wp2_with fail
  refine (works_any (HV.out.frame ((Same.refl [] _).alloc _) (by simp))).mono ?_
  rintro e w1 ⟨rfl, hs1⟩
  have hb1 : Blk w1 w.heap.size 26 [.slice A1 c.consts.length c1, .slice A2 c.procs.length c2, .slice A3 c.globals.length c3] := Blk.frame (Blk.new w _ _) hs1 (by simp)
  have HS1 := Lib.hid (((Same.refl [] w).alloc _).trans hs1)
  have p0 := hb1.cell 0
  have p1 := hb1.cell 1
  have p2 := hb1.cell 2
  have HB1 := Lib.hid hb1
  clear hb1 hs1
  have hofz := ofCn_le c HL.out
  go_wp2_with fail
  refine (ofCode_any _ c ⟨_, _, _, rfl, HR.out.frame HS1.out⟩ HL.out).mono ?_
  rintro e w2 ⟨rfl, hs2⟩
  have HS2 := Lib.hid (HS1.out.trans hs2)
  have hb2 := HB1.out.frame hs2 (by simp)
  have p0 := hb2.cell 0
  have p1 := hb2.cell 1
  have p2 := hb2.cell 2
  have HB2 := Lib.hid hb2
  clear hb2 hs2
  by_cases hmuch : 8388608 < ofCn c
  · go_wp2_with fail
    go_ret
    exact ⟨rfl, HS2.out⟩
  obtain ⟨S, hS⟩ : ∃ S, S = bs (textR c).1 := ⟨_, rfl⟩
  obtain ⟨E, hE⟩ : ∃ E, E = (textR c).2 := ⟨_, rfl⟩
  have hT : Hid (∀ W, Same [] w W → Calls Tryz.prog 14 #[.agg #[.slice A1 c.consts.length c1, .slice A2 c.procs.length c2, .slice A3 c.globals.length c3]] W fun e w' => e = .returned (.tuple #[.string S, .int .i64 E]) ∧ Same [] W w') := Lib.hid (fun W hs => by
    rw [hS, hE]
    exact text_any _ c ⟨_, _, _, rfl, HR.out.frame hs⟩ HW.out (HV.out.frame hs (by simp)))
  have HSS := Lib.hid hS
  have HEE := Lib.hid hE
  clear hS hE
  go_wp2_with fail
  refine (hT.out _ HS2.out).mono ?_
  rintro e w3 ⟨rfl, hs3⟩
  have HS3 := Lib.hid (HS2.out.trans hs3)
  have hb3 := HB2.out.frame hs3 (by simp)
  have HB3 := Lib.hid hb3
  have z3 := hb3.lt
  clear hb3 hs3 hT p0 p1 p2
  by_cases hok : (Cd.check Cd.sym c).1 = 0
  rotate_left
  · have h1 := textR_no hok
    have hE0 : (E == 0) = false := by rw [HEE.out, h1, beq_eq_false_iff_ne]; exact hok
    have hE1 : ¬ E = 0 := by rw [HEE.out, h1]; exact hok
    clear h1 hok
    go_wp2_with fail
    go_ret
    exact ⟨rfl, HS3.out⟩
  have h1 := textR_ok hok
  obtain rfl : E = 0 := by rw [HEE.out, h1]
  have hS1 : S.data.toList = Cd.textT c := by rw [HSS.out, h1, bs_list]
  have hz1 : S.size ≤ 100000000 := by rw [list_size S hS1]; exact textT_len (Cd.goodC_of hok) HW.out
  have HS0 := Lib.hid hS1
  have HOK := Lib.hid hok
  clear h1 hok hS1 HEE HSS
  by_cases hz0 : S.size = 0
  · have hz2 : ((S.size : Int) == 0) = true := by rw [hz0]; rfl
    clear hz0
    go_wp2_with fail
    go_ret
    exact ⟨rfl, HS3.out⟩
  have hz2 : ((S.size : Int) == 0) = false := by rw [beq_eq_false_iff_ne]; omega
  have hz3 : 1 ≤ S.size := by omega
  clear hz0
  have kc := fun (W : World) => Lib.run_convert_string_bytes (P := Tryz.prog) W 9 62 5 S Tryz.underlying9 Tryz.underlying62 Tryz.underlying5
  obtain ⟨i, hi⟩ : ∃ i, i = pickN at_ S.size := ⟨_, rfl⟩
  have hil : i < S.size := by rw [hi]; exact pickN_lt _ _ hz3
  have HPK : Hid (∀ W, Calls Tryz.prog 23 #[.int .i64 at_, .int .i64 S.size] W fun e w' => e = .returned (.int .i64 i) ∧ Same [] W w') := Lib.hid (fun W => by
    rw [hi]
    exact (pick_any at_ S.size HAT.out hz3 (by omega)).mono fun e w' h => ⟨h.1, h.2 ▸ Same.refl _ _⟩)
  have HI := Lib.hid hi
  clear hi
  go_wp2_with fail
  refine (HPK.out _).mono ?_
  rintro e w5 ⟨rfl, hs5⟩
  have hs4 := (bytes_same w3 5 S).trans hs5
  have hg3 : w3.heap.size < (Lib.bytesWorld w3 5 S).heap.size := by rw [Lib.bytesWorld_size]; omega
  have hgc : ∀ j, j < S.size → w5.cell? ⟨w3.heap.size, j, none⟩ = some (.int .u8 ((S.data.toList.getD j 0).toNat : Nat)) := fun j hj => by
    rw [hs5.cell hg3 (by simp)]; exact Lib.bytesWorld_cell w3 _ S j hj
  have hgf : w5.frozen? ⟨w3.heap.size, i, none⟩ = false := by rw [hs5.frozen hg3 (by simp)]; exact bytes_frozen w3 _ S i hil
  have hg5 := Nat.lt_of_lt_of_le hg3 hs5.size
  have HGC := Lib.hid hgc
  have HS4 := Lib.hid hs4
  have g0 := hgc i hil
  obtain ⟨x, hx⟩ : ∃ x, x = (S.data.toList.getD i 0).toNat := ⟨_, rfl⟩
  rw [← hx] at g0
  have hx8 : x < 256 := by rw [hx]; exact UInt8.toNat_lt _
  have hxor := u8_xor_nat x y hx8 hy
  obtain ⟨z, hz⟩ : ∃ z, z = x ^^^ y := ⟨_, rfl⟩
  rw [← hz] at hxor
  have hz8 : z < 256 := by rw [hz]; exact Nat.xor_lt_two_pow (n := 8) hx8 hy
  have HZ := Lib.hid hz
  have HX := Lib.hid hx
  clear hs4 hs5 hgc hx hz hg3 kc
  obtain ⟨L, hL⟩ : ∃ L, L = S.data.toList.set i (UInt8.ofNat z) := ⟨_, rfl⟩
  have hLl : L.length = S.size := by rw [hL, List.length_set]; exact (list_size S rfl).symm
  have hcell6 : ∀ j (hj : j < L.length), (w5.setCell ⟨w3.heap.size, i, none⟩ (.int .u8 (z : Nat))).cell? ((⟨w3.heap.size, 0, none⟩ : Addr).add j) = some (.int .u8 (L[j].toNat : Int)) := fun j hj => by
    have hj' : j < S.size := by rw [← hLl]; exact hj
    have ha : (⟨w3.heap.size, 0, none⟩ : Addr).add j = ⟨w3.heap.size, j, none⟩ := by unfold Addr.add; split <;> simp_all
    rw [ha]
    by_cases e : j = i
    · subst e
      rw [World.cell?_setCell_same (w := w5) (u := .int .u8 (x : Nat)) _ _ (by rw [HGC.out j hj', ← HX.out])]
      have : L[j] = UInt8.ofNat z := by subst hL; simp
      rw [this, UInt8.toNat_ofNat']
      simp; omega
    · rw [World.cell?_setCell_other (w := w5) _ _ _ (by intro h; injection h with _ h _; exact e h.symm), HGC.out j hj']
      have : L[j] = S.data.toList.getD j 0 := by
        subst hL
        rw [List.getElem_set_ne (fun h => e h.symm), List.getD, List.getElem?_eq_getElem (by rw [← list_size S rfl]; exact hj')]; rfl
      rw [this]
  have kc2 := fun cap => run_convert_bytes_back (P := Tryz.prog) (w5.setCell ⟨w3.heap.size, i, none⟩ (.int .u8 (z : Nat))) 62 9 5 ⟨w3.heap.size, 0, none⟩ cap L Tryz.underlying62 Tryz.underlying5 Tryz.underlying9 hcell6
  rw [hLl] at kc2
  have HL0 := Lib.hid hL
  have HLl := Lib.hid hLl
  have HS6 : Hid (Same [] w3 (w5.setCell ⟨w3.heap.size, i, none⟩ (.int .u8 (z : Nat)))) := Lib.hid (HS4.out.setCell (.inr (Nat.le_refl _)) _)
  have hLz : (⟨L.toArray⟩ : ByteArray).size ≤ 100000000 := by
    have : (⟨L.toArray⟩ : ByteArray).size = L.length := bs_size L
    rw [this, hLl]; exact hz1
  have HPA : Hid (∀ W, Same [] w3 W → _) := Lib.hid (fun W hs => par_any (w := W) ⟨L.toArray⟩ hLz (HV.out.frame (HS3.out.trans hs) (by simp)))
  clear hL hLl hcell6 hLz
  go_wp2_with fail
  refine (HPA.out _ HS6.out).mono ?_
  rintro e w7 ⟨d, er, n, D1, d1, D2, d2, D3, d3, hpar, rfl, hrd, hwd, hs7⟩
  have HS7 := Lib.hid (HS6.out.trans hs7)
  have HRD := Lib.hid hrd
  have hb7 := HB3.out.frame HS7.out (by simp)
  have p0 := hb7.cell 0
  have p1 := hb7.cell 1
  have p2 := hb7.cell 2
  have z7 := hb7.lt
  have hkey : (y = 0 ∧ er = 0 ∧ c = d) ∨ (y ≠ 0 ∧ (er = 0 → c ≠ d)) := by
    have hpar' : Cd.parseT Cd.sym L = (d, er, n) := hpar
    by_cases hy0 : y = 0
    · left
      have hzx : z = x := by rw [HZ.out, hy0, Nat.xor_zero]
      have hLS : L = S.data.toList := by
        rw [HL0.out, hzx, HX.out, UInt8.ofNat_toNat]
        apply List.ext_getElem?
        intro j
        by_cases e : j = i
        · subst e
          have hj : j < S.data.toList.length := by rw [← list_size S rfl]; exact hil
          rw [List.getElem?_set_self hj, List.getD, List.getElem?_eq_getElem hj]; rfl
        · rw [List.getElem?_set_ne (fun h => e h.symm)]
      rw [hLS, HS0.out, Cd.parse_text HW.out.consts HOK.out] at hpar'
      injection hpar' with e1 e2
      injection e2 with e2 _
      exact ⟨hy0, e2.symm, e1⟩
    · right
      refine ⟨hy0, fun he hcd => ?_⟩
      have ht := (Cd.text_parse hpar' he).1
      rw [← hcd, ← HS0.out] at ht
      have hj : i < S.data.toList.length := by rw [← list_size S rfl]; exact hil
      have h1 : L.getD i 0 = UInt8.ofNat z := by rw [HL0.out, List.getD, List.getElem?_set_self hj]; rfl
      rw [← ht] at h1
      have h2 := congrArg UInt8.toNat h1
      rw [← HX.out, UInt8.toNat_ofNat'] at h2
      have h3 : z % 256 = z := Nat.mod_eq_of_lt hz8
      have h4 := xor_ne x y hy0
      rw [← HZ.out] at h4
      simp at h2
      omega
  have HKEY := Lib.hid hkey
  clear hpar hrd hwd hs7 hb7 kc2 hxor g0 hgf hkey
  obtain ⟨q, hq⟩ : ∃ q, q = decide (c = d) := ⟨_, rfl⟩
  have HSC : Hid (∀ W, Same [] w7 W → Calls Tryz.prog 19 #[.agg #[.slice A1 c.consts.length c1, .slice A2 c.procs.length c2, .slice A3 c.globals.length c3], .agg #[.slice D1 d.consts.length d1, .slice D2 d.procs.length d2, .slice D3 d.globals.length d3]] W fun e w' => e = .returned (.bool q) ∧ Same [] W w') := Lib.hid (fun W hs => by
    rw [hq]
    exact s0C_any _ _ c d ⟨_, _, _, rfl, HR.out.frame (HS3.out.trans (HS7.out.trans hs))⟩ ⟨_, _, _, rfl, HRD.out.frame hs⟩)
  have HQ := Lib.hid hq
  clear hq
  go_wp2_with fail
  refine (HSC.out _ ((Same.refl _ _).alloc _)).mono ?_
  rintro e w8 ⟨rfl, hs8⟩
  have HS8 := Lib.hid (HS3.out.trans (HS7.out.trans (((Same.refl [] w7).alloc _).trans hs8)))
  clear hs8 p0 p1 p2 z7
  rcases HKEY.out with ⟨h1, h2, h3⟩ | ⟨h1, h2⟩
  · obtain rfl : q = true := by rw [HQ.out, h3]; simp
    subst h1 h2
    clear h3
    go_wp2_with fail
    go_ret
    exact ⟨rfl, HS8.out⟩
  · have e1 : ((y : Int) == 0) = false := by rw [beq_eq_false_iff_ne]; omega
    by_cases he : er = 0
    · obtain rfl : q = false := by rw [HQ.out]; exact decide_eq_false (h2 he)
      subst he
      clear h1 h2
      go_wp2_with fail
      go_ret
      exact ⟨rfl, HS8.out⟩
    · have e2 : (er == 0) = false := by rw [beq_eq_false_iff_ne]; exact he
      clear h1 h2 he
      go_wp2_with fail
      go_ret
      exact ⟨rfl, HS8.out⟩
end Ck
end Go.Proofs.YticaipedpcmhfaaGreatDoor
