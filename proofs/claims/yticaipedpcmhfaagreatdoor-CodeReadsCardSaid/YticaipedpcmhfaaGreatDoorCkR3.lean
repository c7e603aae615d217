/- Layer 8, package code: Parse. -/
import Derived.Test.YticaipedpcmhfaaGreatDoorCkR2
import Derived.Test.YticaipedpcmhfaaGreatDoorCkQ7
import Derived.Test.YticaipedpcmhfaaGreatDoorCkW8
namespace Go.Proofs.YticaipedpcmhfaaGreatDoor
open Go.RowKit Hp
namespace Ck
variable {w w' : World}

/-- What Parse answers. -/
def ParP (r : Cd.Co × Int × Nat) (w : World) (e : Ending) (w' : World) : Prop := ∃ cv pv gv kvs F, e = .returned (.tuple #[.agg #[cv, pv, gv], .int .i64 r.2.1, .int .i64 r.2.2]) ∧ OCo w' cv pv gv kvs r.1 F ∧ (∀ b ∈ F, w.heap.size ≤ b) ∧ Same [] w w'

/-- In the midst of Parse: the text left, the lines read, the code so far. -/
structure Mid (w : World) (s : ByteArray) (wr : World) (t : ByteArray) (n : Nat) (cv pv gv : Value) (kvs : List Value) (c : Cd.Co) (F : List Nat) : Prop where
  sb : Blk wr w.heap.size 9 [.string t]
  rb : Blk wr (w.heap.size + 1) 26 [.slice none 0 0, .slice none 0 0, .slice none 0 0]
  oc : OC wr (w.heap.size + 1 + 1) cv pv gv kvs c F
  ab : Blk wr (w.heap.size + 1 + 1 + 1) 3 [.int .i64 n]
  new : ∀ b ∈ F, b = w.heap.size + 1 + 1 ∨ w.heap.size + 4 ≤ b
  size : w.heap.size + 4 ≤ wr.heap.size
  left : n + t.data.toList.length ≤ s.data.toList.length
  small : Small c n
  wco : WCo c
  told : readF t.data.toList c n = readF s.data.toList Cd.none_ 0
  same : Same [] w wr

theorem blk_new {W : World} {t b : Nat} {cs : List Value} (h : W.heap.size = b) : Blk (W.alloc (.cells cs.toArray t)) b t cs := h ▸ Blk.new W t cs

theorem mid_start (w : World) (s : ByteArray) : Mid w s ((((w.alloc (.cells #[.string s] 9)).alloc (.cells #[.slice none 0 0, .slice none 0 0, .slice none 0 0] 26)).alloc (.cells #[.slice none 0 0, .slice none 0 0, .slice none 0 0] 26)).alloc (.cells #[.int .i64 0] 3)) s 0 (.slice none 0 0) (.slice none 0 0) (.slice none 0 0) [] Cd.none_ [w.heap.size + 1 + 1] := by
  have h1 : Blk (w.alloc (.cells #[.string s] 9)) w.heap.size 9 [.string s] := blk_new rfl
  have h2 : Blk ((w.alloc (.cells #[.string s] 9)).alloc (.cells #[.slice none 0 0, .slice none 0 0, .slice none 0 0] 26)) (w.heap.size + 1) 26 [.slice none 0 0, .slice none 0 0, .slice none 0 0] := blk_new (by simp)
  have h3 : Blk (((w.alloc (.cells #[.string s] 9)).alloc (.cells #[.slice none 0 0, .slice none 0 0, .slice none 0 0] 26)).alloc (.cells #[.slice none 0 0, .slice none 0 0, .slice none 0 0] 26)) (w.heap.size + 1 + 1) 26 [.slice none 0 0, .slice none 0 0, .slice none 0 0] := blk_new (by simp)
  have h4 : Blk ((((w.alloc (.cells #[.string s] 9)).alloc (.cells #[.slice none 0 0, .slice none 0 0, .slice none 0 0] 26)).alloc (.cells #[.slice none 0 0, .slice none 0 0, .slice none 0 0] 26)).alloc (.cells #[.int .i64 0] 3)) (w.heap.size + 1 + 1 + 1) 3 [.int .i64 (0 : Nat)] := blk_new (by simp)
  refine ⟨((h1.alloc _).alloc _).alloc _, (h2.alloc _).alloc _, ⟨h3.alloc _, (OCo.empty _).mono (fun b hb => (by cases hb)), by simp, fun b hb => ?_⟩, h4, fun b hb => .inl (by simpa using hb), by simp, by simp, ⟨Nat.zero_le _, Nat.zero_le _, Nat.zero_le _, fun p hp => (by cases hp)⟩, ⟨fun u hu => (by cases hu), fun u hu => (by cases hu), fun p hp => (by cases hp)⟩, rfl, ((((Same.refl [] w).alloc _).alloc _).alloc _).alloc _⟩
  rw [List.mem_singleton.1 hb]
  exact (h3.alloc _).lt

theorem res_done {W : World} {rb : Nat} {cs : List Value} {cv pv gv : Value} {kvs : List Value} {c : Cd.Co} {F : List Nat} (h : OCo W cv pv gv kvs c F) (hb : Blk W rb 26 cs) (v0 v1 v2 : Value) :
    OCo (((W.setCell ⟨rb, 0, none⟩ v0).setCell ⟨rb, 1, none⟩ v1).setCell ⟨rb, 2, none⟩ v2) cv pv gv kvs c F :=
  ((h.setBox hb v0).setBox (hb.set 0 v0) v1).setBox ((hb.set 0 v0).set 1 v1) v2

theorem same_done {W W0 : World} {rb : Nat} (h : Same [] W0 W) (hr : W0.heap.size ≤ rb) (v0 v1 v2 : Value) : Same [] W0 (((W.setCell ⟨rb, 0, none⟩ v0).setCell ⟨rb, 1, none⟩ v1).setCell ⟨rb, 2, none⟩ v2) :=
  ((h.setCell (.inr hr) v0).setCell (.inr hr) v1).setCell (.inr hr) v2

theorem par_bad {r : Cd.Co × Int × Nat} {W : World} {rb : Nat} (hr : r.1 = Cd.none_) (h : Same [] w W) (hb : w.heap.size ≤ rb) (v0 v1 v2 : Value) : ParP r w (.returned (.tuple #[.agg #[.slice none 0 0, .slice none 0 0, .slice none 0 0], .int .i64 r.2.1, .int .i64 r.2.2])) (((W.setCell ⟨rb, 0, none⟩ v0).setCell ⟨rb, 1, none⟩ v1).setCell ⟨rb, 2, none⟩ v2) :=
  ⟨_, _, _, _, _, rfl, by rw [hr]; exact OCo.empty _, fun b hb => (by cases hb), same_done h hb v0 v1 v2⟩

theorem ParP.drew {r : Cd.Co × Int × Nat} {e : Ending} {W : World} (h : ParP r w e W) : ParP r w e W.drew := by
  obtain ⟨cv, pv, gv, kvs, F, rfl, h1, h2, h3⟩ := h
  exact ⟨cv, pv, gv, kvs, F, rfl, h1.frame ((Same.refl [] W).drew) (by simp), h2, h3.drew⟩

set_option maxHeartbeats 8000000 in
set_option maxRecDepth 100000 in
theorem parse_any (s : ByteArray) (hs : s.size ≤ 100000000) (hv : Vars w) : Calls Tryz.prog 18 #[.string s] w (ParP (Cd.parseT Cd.sym s.data.toList) w) := by
  have HV := Lib.hid hv
  have hsl : s.data.toList.length = s.size := (list_size s rfl).symm
  clear hv
  go_enter Tryz.func18, Tryz.ntmps18
  go_wp2_with fail
  go_loopg [8] s.data.toList.length (fun gk _ wr => ∃ (t : ByteArray) (n : Nat) (cv pv gv : Value) (kvs : List Value) (c : Cd.Co) (F : List Nat), gk = t.data.toList.length ∧ Mid w s wr t n cv pv gv kvs c F)
  case atStart =>
    exact ⟨s, 0, .slice none 0 0, .slice none 0 0, .slice none 0 0, [], Cd.none_, [w.heap.size + 1 + 1], rfl, mid_start w s⟩
  case round =>
    obtain ⟨t, n, cv, pv, gv, kvs, c, F, rfl, hm⟩ := hrel
    have s0 := hm.sb.cell 0
    have sz := hm.sb.lt
    have sf := hm.sb.frozen
    have htl : t.data.toList.length = t.size := (list_size t rfl).symm
    have hleft := hm.left
    have HM := Lib.hid hm
    have HVr := Lib.hid (HV.out.frame hm.same (by simp))
    clear hm
    cases h0 : t.toList.isEmpty
    · have hl0 : t.data.toList ≠ [] := fun e => by rw [Lib.toList_data, e] at h0; cases h0
      have HN := Lib.hid (next_any t (by omega) HVr.out w.heap.size (w.heap.size + 1 + 1 + 1) n HM.out.sb HM.out.ab (by omega) (by omega))
      obtain ⟨p, hp⟩ : ∃ p, bs (Lib.cut t.data.toList [10]).1 = p := ⟨_, rfl⟩
      obtain ⟨q, hq⟩ : ∃ q, bs (Lib.cut t.data.toList [10]).2.1 = q := ⟨_, rfl⟩
      obtain ⟨x, hx⟩ : ∃ x, (Lib.cut t.data.toList [10]).2.2 = x := ⟨_, rfl⟩
      rw [hp, hq, hx] at HN
      have hpl : p.data.toList = (Lib.cut t.data.toList [10]).1 := by rw [← hp, bs_list]
      have hql : q.data.toList = (Lib.cut t.data.toList [10]).2.1 := by rw [← hq, bs_list]
      have HPL := Lib.hid hpl
      have HQL := Lib.hid hql
      have HX := Lib.hid hx
      have HL0 := Lib.hid hl0
      clear hp hq hx hpl hql hl0
      go_wp2_with fail
      refine HN.out.mono ?_
      rintro e w2 ⟨rfl, hS2, hA2, hs2⟩
      have hd2 : ∀ b ∈ F, b ∉ [w.heap.size, w.heap.size + 1 + 1 + 1] := fun b hb hm => by
        have h1 := HM.out.new b hb
        simp at hm
        omega
      have hcb := HM.out.oc.mem
      have hR2 := HM.out.rb.frame hs2 (by simp)
      have hO2 : OC w2 (w.heap.size + 1 + 1) cv pv gv kvs c F := ⟨HM.out.oc.box.frame hs2 (hd2 _ hcb), HM.out.oc.own.frame hs2 hd2, hcb, fun b hb => Nat.lt_of_lt_of_le (HM.out.oc.lt b hb) hs2.size⟩
      have hsw2 : Same [] w w2 := HM.out.same.trans' hs2 (fun b hb => .inr (by simp at hb; omega))
      have a0 := hA2.cell 0
      have az := hA2.lt
      have af := hA2.frozen
      have r0 := hR2.cell 0
      have r1 := hR2.cell 1
      have r2 := hR2.cell 2
      have rz := hR2.lt
      have rf := hR2.frozen
      have hz2 : w.heap.size + 4 ≤ w2.heap.size := Nat.le_trans HM.out.size hs2.size
      have HS2 := Lib.hid hS2
      have HA2 := Lib.hid hA2
      have HR2 := Lib.hid hR2
      have HO2 := Lib.hid hO2
      have HSW2 := Lib.hid hsw2
      clear hS2 hA2 hs2 hd2 hcb hR2 hO2 hsw2 s0 sz sf
      cases x
      · have hpar : Cd.parseT Cd.sym s.data.toList = (Cd.none_, 81, n + 1) := by
          have h1 := readF_cut t.data.toList c n HL0.out HX.out
          rw [HM.out.told] at h1
          unfold Cd.parseT
          unfold readF at h1
          rw [h1]
        have HPAR := Lib.hid hpar
        clear hpar
        go_upto_region 7 with fail
        go_region
        all_goals
          go_wp2_with fail
        all_goals
          refine bodyPost_ret (v := .tuple #[.agg #[.slice none 0 0, .slice none 0 0, .slice none 0 0], .int .i64 81, .int .i64 (n + 1 : Nat)]) (by simp [results, Tryz.results18, go_sem, r0, r1, r2]) rfl ?_
          have e2 := par_bad (r := Cd.parseT Cd.sym s.data.toList) (by rw [HPAR.out]) HSW2.out (rb := w.heap.size + 1) (by omega) (.slice none 0 0) (.slice none 0 0) (.slice none 0 0)
          rw [HPAR.out] at e2 ⊢
          exact ParP.drew e2
      · have HRD := Lib.hid (read_any p (by have := cut_fst t.data.toList; rw [← HPL.out, ← list_size p rfl] at this; omega) (HV.out.frame HSW2.out (by simp)) (w.heap.size + 1 + 1) cv pv gv kvs c F HO2.out (fun b hb => by have := HV.out.size; have := HM.out.new b hb; omega) (HM.out.small.up (by omega)))
        go_wp2_with fail
        refine HRD.out.mono ?_
        rintro e w3 ⟨rfl, hs3, hd3⟩
        have hnF : ∀ b, b ∈ F → b = w.heap.size + 1 + 1 ∨ w.heap.size + 4 ≤ b := HM.out.new
        have hR3 := HR2.out.frame hs3 (fun hm => by have := hnF _ hm; omega)
        have hA3 := HA2.out.frame hs3 (fun hm => by have := hnF _ hm; omega)
        have hS3 := HS2.out.frame hs3 (fun hm => by have := hnF _ hm; omega)
        have hsw3 : Same [] w w3 := HSW2.out.trans' hs3 (fun b hb => .inr (by have := hnF _ hb; omega))
        have hz3 : w.heap.size + 4 ≤ w3.heap.size := Nat.le_trans hz2 hs3.size
        have HR3 := Lib.hid hR3
        have HA3 := Lib.hid hA3
        have HS3 := Lib.hid hS3
        have HSW3 := Lib.hid hsw3
        cases hl : Cd.lineR c p.data.toList with
        | none =>
          have a0 := hA3.cell 0
          have az := hA3.lt
          have af := hA3.frozen
          have r0 := hR3.cell 0
          have r1 := hR3.cell 1
          have r2 := hR3.cell 2
          have rz := hR3.lt
          have rf := hR3.frozen
          have hpar : Cd.parseT Cd.sym s.data.toList = (Cd.none_, 81, n + 1) := by
            have h1 := readF_bad t.data.toList c n HL0.out HX.out (by rw [← HPL.out]; exact hl)
            rw [HM.out.told] at h1
            unfold Cd.parseT
            unfold readF at h1
            rw [h1]
          have HPAR := Lib.hid hpar
          clear hpar hd3 hs3 hR3 hA3 hS3 hsw3 hl hnF
          go_upto_region 7 with fail
          go_region
          all_goals
            go_wp2_with fail
          all_goals
            refine bodyPost_ret (v := .tuple #[.agg #[.slice none 0 0, .slice none 0 0, .slice none 0 0], .int .i64 81, .int .i64 (n + 1 : Nat)]) (by simp [results, Tryz.results18, go_sem, r0, r1, r2]) rfl ?_
            have e2 := par_bad (r := Cd.parseT Cd.sym s.data.toList) (by rw [HPAR.out]) HSW3.out (rb := w.heap.size + 1) (by omega) (.slice none 0 0) (.slice none 0 0) (.slice none 0 0)
            rw [HPAR.out] at e2 ⊢
            exact ParP.drew e2
        | some d =>
          have hmore := readF_more t.data.toList c d n HL0.out HX.out (by rw [← HPL.out]; exact hl)
          have hcut := cut_snd t.data.toList HL0.out
          have hfst := cut_fst t.data.toList
          have hok := lineR_ok hl (by rw [HPL.out]; omega) HM.out.wco HM.out.small
          obtain ⟨cv3, pv3, gv3, ks3, F3, hO3, hF3⟩ := hd3 d hl
          have HMID : Hid (Mid w s w3 q (n + 1) cv3 pv3 gv3 ks3 d F3) := Lib.hid ⟨hS3, hR3, hO3, hA3, fun b hb => by
            rcases hF3 b hb with h | h
            · exact hnF b h
            · right; omega, hz3, by rw [HQL.out]; have := HM.out.left; omega, hok.2, hok.1, by rw [HQL.out, ← hmore]; exact HM.out.told, hsw3⟩
          have hql : q.data.toList.length + 1 ≤ t.data.toList.length := by rw [HQL.out]; exact hcut
          clear hmore hcut hfst hok hO3 hF3 hd3 hs3 hR3 hA3 hS3 hsw3 hl hnF
          go_wp2_with fail
          go_roundg q.data.toList.length
          case measure => omega
          case rel => exact ⟨q, n + 1, cv3, pv3, gv3, ks3, d, F3, rfl, HMID.out⟩
    · have ht0 : t.data.toList = [] := by rw [Lib.toList_data] at h0; exact List.isEmpty_iff.1 h0
      have hrd : Cd.readT (s.data.toList.length + 1) s.data.toList Cd.none_ 0 = (c, true, n) := by
        have h1 := HM.out.told
        rw [ht0, readF_nil] at h1
        exact h1.symm
      obtain ⟨ck, hck⟩ : ∃ ck, Cd.check Cd.sym c = ck := ⟨_, rfl⟩
      have hpar : Cd.parseT Cd.sym s.data.toList = if ck.1 ≠ 0 then (Cd.none_, ck.1, 0) else (c, 0, 0) := by
        unfold Cd.parseT
        rw [hrd, ← hck]
      have HCK := Lib.hid (check_any (w := wr) (.agg #[cv, pv, gv]) c ⟨cv, pv, gv, rfl, HM.out.oc.own.read⟩ HM.out.wco HVr.out)
      rw [hck] at HCK
      have c0 := HM.out.oc.box.cell 0
      have c1 := HM.out.oc.box.cell 1
      have c2 := HM.out.oc.box.cell 2
      have cz := HM.out.oc.box.lt
      have HPAR := Lib.hid hpar
      clear hpar hck hrd
      go_wp2_with fail
      refine HCK.out.mono ?_
      rintro e w2 ⟨rfl, hs2⟩
      have hR2 := HM.out.rb.frame hs2 (by simp)
      have d0 := (hs2.cell cz (by simp)).trans c0
      have d1 := (hs2.cell cz (by simp)).trans c1
      have d2 := (hs2.cell cz (by simp)).trans c2
      have dz := Nat.lt_of_lt_of_le cz hs2.size
      have HO2 := Lib.hid (HM.out.oc.own.frame hs2 (by simp))
      have HR2 := Lib.hid hR2
      have HSW2 := Lib.hid (HM.out.same.trans hs2)
      have hz2 : w.heap.size + 4 ≤ w2.heap.size := Nat.le_trans HM.out.size hs2.size
      have r0 := hR2.cell 0
      have r1 := hR2.cell 1
      have r2 := hR2.cell 2
      have rz := hR2.lt
      have rf := hR2.frozen
      clear hs2 hR2 c0 c1 c2 cz s0 sz sf
      by_cases hk : ck.1 = 0
      · have HFT := Lib.hid (fitted_any cv pv gv kvs c F HO2.out (HM.out.small.up (by omega)))
        go_wp2_with fail
        refine HFT.out.mono ?_
        rintro e w3 ⟨cv3, pv3, gv3, ks3, F3, rfl, hO3, hF3, hs3⟩
        obtain ⟨A1, C1, hcv⟩ := hO3.cr.lit
        obtain ⟨A2, C2, hpv⟩ := hO3.pr.lit
        obtain ⟨A3, C3, hgv⟩ := hO3.gr.lit
        subst hcv hpv hgv
        have hR3 := HR2.out.frame hs3 (by simp)
        have q0 := hR3.cell 0
        have q1 := hR3.cell 1
        have q2 := hR3.cell 2
        have qz := hR3.lt
        have qf := hR3.frozen
        have HR3 := Lib.hid hR3
        have HO3 := Lib.hid hO3
        have HS3 := Lib.hid hs3
        have HF3 := Lib.hid hF3
        clear hR3 hO3 hs3 hF3 r0 r1 r2 rz rf d0 d1 d2 dz
        go_wp2_with fail
        refine bodyPost_ret (v := .tuple #[.agg #[.slice A1 c.consts.length C1, .slice A2 c.procs.length C2, .slice A3 c.globals.length C3], .int .i64 0, .int .i64 0]) (by simp [results, Tryz.results18, go_sem, q0, q1, q2]) rfl ?_
        have e1 : Cd.parseT Cd.sym s.data.toList = (c, 0, 0) := by rw [HPAR.out, if_neg (by simpa using hk)]
        rw [e1]
        exact ⟨_, _, _, ks3, F3, rfl, res_done HO3.out HR3.out _ _ _, fun b hb => by have := HF3.out b hb; omega, same_done (HSW2.out.trans HS3.out) (by omega) _ _ _⟩
      · go_wp2_with fail
        refine bodyPost_ret (v := .tuple #[.agg #[.slice none 0 0, .slice none 0 0, .slice none 0 0], .int .i64 ck.1, .int .i64 0]) (by simp [results, Tryz.results18, go_sem, r0, r1, r2]) rfl ?_
        have e1 : Cd.parseT Cd.sym s.data.toList = (Cd.none_, ck.1, 0) := by rw [HPAR.out, if_pos hk]
        have e2 := par_bad (r := Cd.parseT Cd.sym s.data.toList) (by rw [e1]) HSW2.out (rb := w.heap.size + 1) (by omega) (.slice none 0 0) (.slice none 0 0) (.slice none 0 0)
        rw [e1] at e2 ⊢
        exact e2
end Ck
end Go.Proofs.YticaipedpcmhfaaGreatDoor
