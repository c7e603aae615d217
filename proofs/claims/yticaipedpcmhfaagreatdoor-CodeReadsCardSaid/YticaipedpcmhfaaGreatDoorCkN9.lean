/- Layer 8, the document's answer: Parse. -/
import Derived.Test.YticaipedpcmhfaaGreatDoorCkN8
import Derived.Test.YticaipedpcmhfaaGreatDoorCkR3
import Derived.Test.YticaipedpcmhfaaGreatDoorCkU3
import Derived.Test.YticaipedpcmhfaaGreatDoorCdK3
import Derived.Test.YticaipedpcmhfaaGreatDoorCkA8
import Derived.StillTailTactics
namespace Go.Proofs.YticaipedpcmhfaaGreatDoor
open Go.RowKit Hp
namespace Ck
variable {w w' : World}

theorem cut_free (l : List UInt8) (h : (10 : UInt8) ∉ l) : (Lib.cut l [10]).2.2 = false := by
  cases hx : (Lib.cut l [10]).2.2
  · rfl
  · exact absurd (by rw [Cd.cut_back hx]; simp) h
theorem cut_here (t : List UInt8) (j : Nat) (hj : j < t.length) (h : (10 : UInt8) ∉ t.take j) (h10 : t[j] = 10) : Lib.cut t [10] = (t.take j, t.drop (j + 1), true) := by
  have e : t = t.take j ++ 10 :: t.drop (j + 1) := by
    rw [← h10, ← List.drop_eq_getElem_cons hj, List.take_append_drop]
  have := Cd.cut_line (t.take j) (t.drop (j + 1)) h
  rw [← e] at this
  exact this
theorem slice_list (s : ByteArray) (i e : Nat) : (s.extract i e).data.toList = (s.data.toList.drop i).take (e - i) := by
  rw [ByteArray.data_extract, Array.toList_extract, List.extract_eq_take_drop]
theorem take_snoc (t : List UInt8) (j : Nat) (hj : j < t.length) (h : (10 : UInt8) ∉ t.take j) (hn : t[j] ≠ 10) : (10 : UInt8) ∉ t.take (j + 1) := by
  rw [List.take_succ_eq_append_getElem hj, List.mem_append]
  rintro (hm | hm)
  · exact h hm
  · exact hn (List.mem_singleton.1 hm).symm

theorem drop_lt (s : ByteArray) (i j : Nat) (h : i + j < s.size) : j < (s.data.toList.drop i).length := by
  have : s.data.toList.length = s.size := by simp
  rw [List.length_drop]; omega
theorem byte_drop (s : ByteArray) (i j : Nat) (h : i + j < s.size) : (s.data.toList.drop i)[j]'(drop_lt s i j h) = s[i + j] := by
  rw [List.getElem_drop, Array.getElem_toList]; rfl
theorem byte_ne (s : ByteArray) (i j : Nat) (h : i + j < s.size) (hb : ¬ (s[i + j].toNat : Int) = 10) : (s.data.toList.drop i)[j]'(drop_lt s i j h) ≠ 10 := by
  rw [byte_drop s i j h]
  intro e
  exact hb (by rw [e]; rfl)
theorem byte_eq (s : ByteArray) (i j : Nat) (h : i + j < s.size) (hb : (s[i + j].toNat : Int) = 10) : (s.data.toList.drop i)[j]'(drop_lt s i j h) = 10 := by
  rw [byte_drop s i j h]
  exact UInt8.toNat_inj.1 (by have : s[i + j].toNat = 10 := by omega
                              rw [this]; rfl)

/-- In the midst of the document's Parse: the place in the text, the lines read, the code so far. -/
structure MidR (w : World) (s : ByteArray) (wr : World) (i n : Nat) (cv pv gv : Value) (kvs : List Value) (c : Cd.Co) (F : List Nat) : Prop where
  rb : Blk wr w.heap.size 26 [.slice none 0 0, .slice none 0 0, .slice none 0 0]
  nb : Blk wr (w.heap.size + 1) 26 [.slice none 0 0, .slice none 0 0, .slice none 0 0]
  cb : Blk wr (w.heap.size + 1 + 1) 26 [cv, pv, gv]
  oc : OCo wr cv pv gv kvs c F
  new : ∀ b ∈ F, w.heap.size + 3 ≤ b ∧ b < wr.heap.size
  size : w.heap.size + 3 ≤ wr.heap.size
  here : n ≤ i ∧ i ≤ s.data.toList.length
  small : Small c n
  wco : WCo c
  told : readF (s.data.toList.drop i) c n = readF s.data.toList Cd.none_ 0
  same : Same [] w wr

theorem midR_start (w : World) (s : ByteArray) : MidR w s (((w.alloc (.cells #[.slice none 0 0, .slice none 0 0, .slice none 0 0] 26)).alloc (.cells #[.slice none 0 0, .slice none 0 0, .slice none 0 0] 26)).alloc (.cells #[.slice none 0 0, .slice none 0 0, .slice none 0 0] 26)) 0 0 (.slice none 0 0) (.slice none 0 0) (.slice none 0 0) [] Cd.none_ [] := by
  have h1 : Blk (w.alloc (.cells #[.slice none 0 0, .slice none 0 0, .slice none 0 0] 26)) w.heap.size 26 [.slice none 0 0, .slice none 0 0, .slice none 0 0] := blk_new rfl
  have h2 : Blk ((w.alloc (.cells #[.slice none 0 0, .slice none 0 0, .slice none 0 0] 26)).alloc (.cells #[.slice none 0 0, .slice none 0 0, .slice none 0 0] 26)) (w.heap.size + 1) 26 [.slice none 0 0, .slice none 0 0, .slice none 0 0] := blk_new (by simp)
  have h3 : Blk (((w.alloc (.cells #[.slice none 0 0, .slice none 0 0, .slice none 0 0] 26)).alloc (.cells #[.slice none 0 0, .slice none 0 0, .slice none 0 0] 26)).alloc (.cells #[.slice none 0 0, .slice none 0 0, .slice none 0 0] 26)) (w.heap.size + 1 + 1) 26 [.slice none 0 0, .slice none 0 0, .slice none 0 0] := blk_new (by simp)
  exact ⟨(h1.alloc _).alloc _, h2.alloc _, h3, OCo.empty _, fun b hb => (by cases hb), by simp, ⟨Nat.le_refl _, Nat.zero_le _⟩, ⟨Nat.zero_le _, Nat.zero_le _, Nat.zero_le _, fun p hp => (by cases hp)⟩, ⟨fun u hu => (by cases hu), fun u hu => (by cases hu), fun p hp => (by cases hp)⟩, rfl, (((Same.refl [] w).alloc _).alloc _).alloc _⟩

set_option maxHeartbeats 8000000 in
set_option maxRecDepth 100000 in
theorem parseR_any (s : ByteArray) (hs : s.size ≤ 100000000) : Calls Tryz.prog 17 #[.string s] w (ParP (Cd.parseT Cd.sym s.data.toList) w) := by
  have hsl : s.data.toList.length = s.size := (list_size s rfl).symm
  go_enter Tryz.func17, Tryz.ntmps17
  go_wp2_with fail
  go_loopg [7, 8, 9, 10, 11] s.size (fun gk a7 a8 _ _ _ wr => ∃ (i n : Nat) (cv pv gv : Value) (kvs : List Value) (c : Cd.Co) (F : List Nat), gk = s.size - i ∧ a7 = .int .i64 n ∧ a8 = .int .i64 i ∧ MidR w s wr i n cv pv gv kvs c F)
  case atStart =>
    exact ⟨0, 0, .slice none 0 0, .slice none 0 0, .slice none 0 0, [], Cd.none_, [], rfl, rfl, rfl, midR_start w s⟩
  case round =>
    obtain ⟨i, n, cv, pv, gv, kvs, c, F, rfl, rfl, rfl, hm⟩ := hrel
    have r0 := hm.rb.cell 0
    have r1 := hm.rb.cell 1
    have r2 := hm.rb.cell 2
    have rz := hm.rb.lt
    have rf := hm.rb.frozen
    have n0 := hm.nb.cell 0
    have n1 := hm.nb.cell 1
    have n2 := hm.nb.cell 2
    have nz := hm.nb.lt
    have c0 := hm.cb.cell 0
    have c1 := hm.cb.cell 1
    have c2 := hm.cb.cell 2
    have cz := hm.cb.lt
    obtain ⟨hni, hil⟩ := hm.here
    rw [hsl] at hil
    have HM := Lib.hid hm
    clear hm
    by_cases hlt : i < s.size
    · go_wp2_with fail
      go_loopg [9] (s.size - i) (fun gk a9 wx => ∃ j : Nat, i + j ≤ s.size ∧ gk = s.size - (i + j) ∧ a9 = .int .i64 ((i + j : Nat) : Int) ∧ (10 : UInt8) ∉ (s.data.toList.drop i).take j ∧ wx = wr)
      case atStart => exact ⟨0, by omega, by omega, rfl, by simp, rfl⟩
      case round =>
        obtain ⟨j, hj, rfl, rfl, hfree, rfl⟩ := hrel
        have HFR := Lib.hid hfree
        clear hfree
        by_cases hend : i + j < s.size
        · cases hb : ((s[i + j].toNat : Int) == 10)
          · have hstep : Hid ((10 : UInt8) ∉ (s.data.toList.drop i).take (j + 1)) := Lib.hid (take_snoc _ j (by rw [List.length_drop, hsl]; omega) HFR.out (byte_ne s i j hend (by simpa using hb)))
            go_wp2_with fail
            go_roundg (s.size - (i + (j + 1)))
            case measure => omega
            case rel => exact ⟨j + 1, by omega, rfl, by go_num, hstep.out, rfl⟩
          · have h10 := byte_eq s i j hend (by simpa using hb)
            have hjl := drop_lt s i j hend
            have hcut := cut_here _ j hjl HFR.out h10
            obtain ⟨p, hp⟩ : ∃ p, s.extract i (i + j) = p := ⟨_, rfl⟩
            have hpl : p.data.toList = (s.data.toList.drop i).take j := by rw [← hp, slice_list]; congr 1; omega
            have hpz : p.size ≤ 100000000 := by rw [list_size p hpl, List.length_take, List.length_drop, hsl]; omega
            obtain ⟨f, hf⟩ : ∃ f, Cd.lineR c p.data.toList = f := ⟨_, rfl⟩
            have HLN : Hid (∀ W, Same [] wr W → Calls Tryz.prog 51 #[.agg #[cv, pv, gv], .string p] W (LineP F f W)) := Lib.hid (fun W hW => by
              rw [← hf]
              exact lineR_any p (by omega) cv pv gv kvs c F (HM.out.oc.frame hW (by simp)) (fun b hb => Nat.lt_of_lt_of_le (HM.out.new b hb).2 hW.size) ⟨by have := HM.out.small.sa; omega, by have := HM.out.small.sb; omega, by have := HM.out.small.sc; omega, fun q hq => by have := HM.out.small.sd q hq; omega⟩)
            have hcF : w.heap.size + 1 + 1 ∉ F := fun hm => by have := (HM.out.new _ hm).1; omega
            have hFw : ∀ b ∈ F, b < wr.heap.size := fun b hb => (HM.out.new b hb).2
            have ne1 : wr.heap.size ≠ w.heap.size + 1 + 1 := by omega
            have HCUT := Lib.hid hcut
            have HPL := Lib.hid hpl
            have HFF := Lib.hid hf
            have HFW := Lib.hid hFw
            unfold LineP at HLN
            have hi0 : (0 : Int) ≤ (i : Int) := by omega
            have hi1 : (i : Int) ≤ (i : Int) + (j : Int) := by omega
            have hi2 : (i : Int) + (j : Int) ≤ (s.size : Int) := by omega
            have hi3 : ((i : Int) + (j : Int)).toNat = i + j := by omega
            have hi4 : (0 : Int) ≤ (i : Int) + (j : Int) := by omega
            clear h10 hcut hpl hf hFw hjl
            go_upto_region 12 with fail
            go_cut [10, 11] (fun s10 s11 wx => ∃ (b : Nat) (cv3 pv3 gv3 : Value), s10 = .pointer (some ⟨b, 0, none⟩) ∧ s11 = .bool f.isSome ∧ wr.heap.size ≤ b ∧ Blk wx b 26 [cv3, pv3, gv3] ∧ Same F wr wx ∧ ∀ d, f = some d → ∃ kvs3 F3, OCo wx cv3 pv3 gv3 kvs3 d F3 ∧ (∀ x ∈ F3, x < wx.heap.size) ∧ ∀ x ∈ F3, x ∈ F ∨ wr.heap.size ≤ x)
            case first =>
              go_region_held3 (fun W => W.cell? ⟨w.heap.size + 1 + 1, 0, none⟩ = some cv ∧ W.cell? ⟨w.heap.size + 1 + 1, 1, none⟩ = some pv ∧ W.cell? ⟨w.heap.size + 1 + 1, 2, none⟩ = some gv) (go_keep) (first
                | (go_simp; go_at_call 51; refine (HLN.out _ (by repeat (first | exact Same.refl _ _ | refine Same.drew ?_ | refine Same.drewN ?_ _ | refine Same.alloc ?_ _))).mono ?_; rintro e wA ⟨A1, m1, C1, A2, m2, C2, A3, m3, C3, rfl, hsa, hd3⟩; have HSA : Hid (Same F wr wA) := Lib.hid (Same.trans' (F := F) (by repeat (first | exact Same.refl _ _ | refine Same.drew ?_ | refine Same.drewN ?_ _ | refine Same.alloc ?_ _)) hsa (fun x hx => .inl hx)); have c0a := (HSA.out.cell cz hcF).trans c0; have c1a := (HSA.out.cell cz hcF).trans c1; have c2a := (HSA.out.cell cz hcF).trans c2; have ne2 : wA.heap.size ≠ w.heap.size + 1 + 1 := (by have := HSA.out.size; omega); have HD3 := Lib.hid hd3; have HSA0 := Lib.hid hsa; clear hsa hd3; (try (have hbb : Blk wA wr.heap.size 26 [.slice none 0 0, .slice none 0 0, .slice none 0 0] := Blk.frame (by first | exact blk_new (by simp) | exact Blk.drew (blk_new (by simp))) HSA0.out (fun hm => by have := HFW.out _ hm; omega); have bb0 := hbb.cell 0; have bb1 := hbb.cell 1; have bb2 := hbb.cell 2; have bbz := hbb.lt; have bbf := hbb.frozen; have HBB := Lib.hid hbb; clear hbb))))
              all_goals
                go_wp2_with fail
                go_meet
                have hsz := HSA.out.size
                first
                  | (refine ⟨wr.heap.size, _, _, _, rfl, rfl, Nat.le_refl _, ((HBB.out.set 0 _).set 1 _).set 2 _, (by repeat (first | exact HSA.out | refine Same.setCell ?_ (.inr (Nat.le_refl _)) _ | refine Same.drew ?_)), fun d hd => ?_⟩
                     obtain ⟨ks, F3, hO, hl3, hin⟩ := HD3.out d hd
                     exact ⟨ks, F3, res_done hO HBB.out _ _ _, fun x hx => by simpa using hl3 x hx, fun x hx => by
                       rcases hin x hx with h | h
                       · exact .inl h
                       · right; simp at h; omega⟩)
                  | (refine ⟨wA.heap.size, _, _, _, rfl, rfl, hsz, blk_new rfl, (by repeat (first | exact HSA.out | refine Same.drew ?_ | refine Same.alloc ?_ _)), fun d hd => ?_⟩
                     obtain ⟨ks, F3, hO, hl3, hin⟩ := HD3.out d hd
                     exact ⟨ks, F3, hO.frame ((Same.refl [] wA).alloc _) (by simp), fun x hx => by have := hl3 x hx; simp; omega, fun x hx => by
                       rcases hin x hx with h | h
                       · exact .inl h
                       · right; simp at h; omega⟩)
            case rest =>
              obtain ⟨b, cv3, pv3, gv3, rfl, rfl, hb, hbk, hsx, hd3⟩ := hcut
              have hR3 := HM.out.rb.frame hsx (fun hm => by have := (HM.out.new _ hm).1; omega)
              have hN3 := HM.out.nb.frame hsx (fun hm => by have := (HM.out.new _ hm).1; omega)
              have hC3 := HM.out.cb.frame hsx hcF
              have hsw3 := HM.out.same.trans' hsx (fun x hx => .inr (by have := (HM.out.new _ hx).1; omega))
              have HSW3 := Lib.hid hsw3
              have HSX := Lib.hid hsx
              have HR3 := Lib.hid hR3
              have HN3 := Lib.hid hN3
              have HC3 := Lib.hid hC3
              clear r0 r1 r2 rz rf n0 n1 n2 nz c0 c1 c2 cz
              have r0 := hR3.cell 0
              have r1 := hR3.cell 1
              have r2 := hR3.cell 2
              have rz := hR3.lt
              have rf := hR3.frozen
              have n0 := hN3.cell 0
              have n1 := hN3.cell 1
              have n2 := hN3.cell 2
              have nz := hN3.lt
              have c0 := hC3.cell 0
              have c1 := hC3.cell 1
              have c2 := hC3.cell 2
              have cz := hC3.lt
              have cf := hC3.frozen
              have k0 := hbk.cell 0
              have k1 := hbk.cell 1
              have k2 := hbk.cell 2
              have kz := hbk.lt
              have HD3 := Lib.hid hd3
              have HBK := Lib.hid hbk
              clear hd3 hbk hsx hsw3 hR3 hN3 hC3
              have hl0 : s.data.toList.drop i ≠ [] := fun e => by
                have := congrArg List.length e
                rw [List.length_drop, hsl] at this
                simp at this; omega
              cases f with
              | none =>
                have hpar : Cd.parseT Cd.sym s.data.toList = (Cd.none_, 81, n + 1) := by
                  have h1 := readF_bad (s.data.toList.drop i) c n hl0 (by rw [HCUT.out]) (by rw [HCUT.out, ← HPL.out]; exact HFF.out)
                  rw [HM.out.told] at h1
                  unfold Cd.parseT
                  unfold readF at h1
                  rw [h1]
                have HPAR := Lib.hid hpar
                clear hpar hl0
                simp only [Option.isSome_none]
                go_wp2_with fail
                refine bodyPost_ret (v := .tuple #[.agg #[.slice none 0 0, .slice none 0 0, .slice none 0 0], .int .i64 81, .int .i64 (n + 1 : Nat)]) (by simp [results, Tryz.results17, go_sem, r0, r1, r2, rf]) rfl ?_
                have e2 := par_bad (r := Cd.parseT Cd.sym s.data.toList) (by rw [HPAR.out]) HSW3.out (rb := w.heap.size) (Nat.le_refl _) (.slice none 0 0) (.slice none 0 0) (.slice none 0 0)
                rw [HPAR.out] at e2 ⊢
                exact e2
              | some d =>
                obtain ⟨ks3, F3, hO3, hl3, hin3⟩ := HD3.out d rfl
                have hmore := readF_more (s.data.toList.drop i) c d n hl0 (by rw [HCUT.out]) (by rw [HCUT.out, ← HPL.out]; exact HFF.out)
                rw [HCUT.out, HM.out.told, List.drop_drop] at hmore
                have hok := lineR_ok HFF.out (by rw [← list_size p rfl]; omega) HM.out.wco HM.out.small
                obtain ⟨A4, C4, hcv⟩ := hO3.cr.lit
                obtain ⟨A5, C5, hpv⟩ := hO3.pr.lit
                obtain ⟨A6, C6, hgv⟩ := hO3.gr.lit
                subst hcv hpv hgv
                have HMORE := Lib.hid hmore
                have HOK := Lib.hid hok
                have HO3 := Lib.hid hO3
                have HL3 := Lib.hid hl3
                have HIN3 := Lib.hid hin3
                clear hmore hok hO3 hl3 hin3 hl0
                simp only [Option.isSome_some]
                go_wp2_with fail
                go_roundg (s.size - (i + j + 1))
                case measure => omega
                case rel =>
                  refine ⟨i + j + 1, n + 1, .slice A4 d.consts.length C4, .slice A5 d.procs.length C5, .slice A6 d.globals.length C6, ks3, d, F3, rfl, by go_num, by go_num, ?_⟩
                  have hzm := HM.out.size
                  have hzx := HSX.out.size
                  refine ⟨((HR3.out.setOther (by simp; omega) _).setOther (by simp; omega) _).setOther (by simp; omega) _, ((HN3.out.setOther (by simp) _).setOther (by simp) _).setOther (by simp) _, ((HC3.out.set 0 _).set 1 _).set 2 _, res_done HO3.out HC3.out _ _ _, fun x hx => ⟨?_, by have := HL3.out x hx; simpa using this⟩, by simp; omega, ⟨by omega, by rw [hsl]; omega⟩, HOK.out.2, HOK.out.1, ?_, same_done HSW3.out (by omega) _ _ _⟩
                  · rcases HIN3.out x hx with h | h
                    · exact (HM.out.new x h).1
                    · omega
                  · rw [show i + j + 1 = i + (j + 1) from by omega]
                    exact HMORE.out.symm
        · have hpar : Cd.parseT Cd.sym s.data.toList = (Cd.none_, 81, n + 1) := by
            have hl0 : s.data.toList.drop i ≠ [] := fun e => by
              have := congrArg List.length e
              rw [List.length_drop, hsl] at this
              simp at this; omega
            have h1 := readF_cut (s.data.toList.drop i) c n hl0 (cut_free _ (by
              have h2 := HFR.out
              rwa [List.take_of_length_le (by rw [List.length_drop, hsl]; omega)] at h2))
            rw [HM.out.told] at h1
            unfold Cd.parseT
            unfold readF at h1
            rw [h1]
          have HPAR := Lib.hid hpar
          clear hpar
          go_wp2_with fail
          refine bodyPost_ret (v := .tuple #[.agg #[.slice none 0 0, .slice none 0 0, .slice none 0 0], .int .i64 81, .int .i64 (n + 1 : Nat)]) (by simp [results, Tryz.results17, go_sem, r0, r1, r2, rf]) rfl ?_
          have e2 := par_bad (r := Cd.parseT Cd.sym s.data.toList) (by rw [HPAR.out]) HM.out.same (rb := w.heap.size) (Nat.le_refl _) (.slice none 0 0) (.slice none 0 0) (.slice none 0 0)
          rw [HPAR.out] at e2 ⊢
          exact e2
    · have hil' : i = s.size := by omega
      have hrd : Cd.readT (s.data.toList.length + 1) s.data.toList Cd.none_ 0 = (c, true, n) := by
        have h1 := HM.out.told
        rw [hil', ← hsl, List.drop_length, readF_nil] at h1
        exact h1.symm
      obtain ⟨ck, hck⟩ : ∃ ck, Cd.check Cd.sym c = ck := ⟨_, rfl⟩
      have hpar : Cd.parseT Cd.sym s.data.toList = if ck.1 ≠ 0 then (Cd.none_, ck.1, 0) else (c, 0, 0) := by
        unfold Cd.parseT
        rw [hrd, ← hck]
      have HCK := Lib.hid (checkR_any (w := wr) (.agg #[cv, pv, gv]) c ⟨cv, pv, gv, rfl, HM.out.oc.read⟩ HM.out.wco)
      rw [hck] at HCK
      unfold Chk at HCK
      have HPAR := Lib.hid hpar
      clear hpar hck hrd hil'
      go_wp2_with fail
      refine HCK.out.mono ?_
      rintro e w2 ⟨rfl, hs2⟩
      have HO2 := Lib.hid (HM.out.oc.frame hs2 (by simp))
      have HR2 := Lib.hid (HM.out.rb.frame hs2 (by simp))
      have HSW2 := Lib.hid (HM.out.same.trans hs2)
      have hR2 := HM.out.rb.frame hs2 (by simp)
      have hN2 := HM.out.nb.frame hs2 (by simp)
      have hC2 := HM.out.cb.frame hs2 (by simp)
      clear r0 r1 r2 rz rf n0 n1 n2 nz c0 c1 c2 cz
      have r0 := hR2.cell 0
      have r1 := hR2.cell 1
      have r2 := hR2.cell 2
      have rz := hR2.lt
      have rf := hR2.frozen
      have n0 := hN2.cell 0
      have n1 := hN2.cell 1
      have n2 := hN2.cell 2
      have nz := hN2.lt
      have c0 := hC2.cell 0
      have c1 := hC2.cell 1
      have c2 := hC2.cell 2
      have cz := hC2.lt
      have hz2 : w.heap.size + 3 ≤ w2.heap.size := Nat.le_trans HM.out.size hs2.size
      clear hs2 hR2 hN2 hC2
      obtain ⟨A1, C1, hcv⟩ := HO2.out.cr.lit
      obtain ⟨A2, C2, hpv⟩ := HO2.out.pr.lit
      obtain ⟨A3, C3, hgv⟩ := HO2.out.gr.lit
      subst hcv hpv hgv
      by_cases hk : ck.1 = 0
      · go_wp2_with fail
        refine bodyPost_ret (v := .tuple #[.agg #[.slice A1 c.consts.length C1, .slice A2 c.procs.length C2, .slice A3 c.globals.length C3], .int .i64 0, .int .i64 0]) (by simp [results, Tryz.results17, go_sem, r0, r1, r2, rf]) rfl ?_
        have e1 : Cd.parseT Cd.sym s.data.toList = (c, 0, 0) := by rw [HPAR.out, if_neg (by simpa using hk)]
        rw [e1]
        exact ⟨_, _, _, kvs, F, rfl, res_done HO2.out HR2.out _ _ _, fun b hb => by have := (HM.out.new b hb).1; omega, same_done HSW2.out (Nat.le_refl _) _ _ _⟩
      · go_wp2_with fail
        refine bodyPost_ret (v := .tuple #[.agg #[.slice none 0 0, .slice none 0 0, .slice none 0 0], .int .i64 ck.1, .int .i64 0]) (by simp [results, Tryz.results17, go_sem, r0, r1, r2, rf]) rfl ?_
        have e1 : Cd.parseT Cd.sym s.data.toList = (Cd.none_, ck.1, 0) := by rw [HPAR.out, if_pos hk]
        have e2 := par_bad (r := Cd.parseT Cd.sym s.data.toList) (by rw [e1]) HSW2.out (rb := w.heap.size) (Nat.le_refl _) (.slice none 0 0) (.slice none 0 0) (.slice none 0 0)
        rw [e1] at e2 ⊢
        exact e2
end Ck
end Go.Proofs.YticaipedpcmhfaaGreatDoor
