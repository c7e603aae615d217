/- Book.Code: code's lists are put into the book. -/
import Derived.Test.YticaipedpcmhfaaGreatDoorCkQ6
import Derived.Test.YticaipedpcmhfaaGreatDoorCkG6
import Derived.Deep.RegionHeld3
namespace Go.Proofs.YticaipedpcmhfaaGreatDoor
open Go.RowKit Hp
namespace Ck
variable {w w' W w1 : World} {D : Nat} {to_ wo io po cv pv gv : Value} {tl wl il pl : List (Value × List (List Value))} {kvs : List Value} {c : Cd.Co} {F : List Nat}

def lsW (l : List Int) : List (List Value) := l.map (fun x => [.int .u64 x])
def lsS (l : List ByteArray) : List (List Value) := l.map (fun x => [.string x])
def lsI (l : List Cd.In) : List (List Value) := l.map (fun i => [.int .u8 i.op, .int .i64 i.a])
def lsP : List Cd.Pr → List Value → List (List Value)
  | p :: l, k :: ks => [.int .i64 p.params, k] :: lsP l ks
  | _, _ => []
def iL (c : Cd.Co) (kvs : List Value) (n : Nat) : List (Value × List (List Value)) := (List.range n).map (fun i => (kvs.getD i undef, lsI (c.procs.getD i ⟨0, []⟩).code))
theorem iL_succ (c : Cd.Co) (kvs : List Value) (n : Nat) : iL c kvs (n + 1) = iL c kvs n ++ [(kvs.getD n undef, lsI (c.procs.getD n ⟨0, []⟩).code)] := by
  unfold iL; rw [List.range_succ, List.map_append]; rfl

theorem lsW_flat (l : List Int) : (lsW l).flatten = l.map (Value.int .u64) := by
  unfold lsW; induction l with
  | nil => rfl
  | cons x l ih => simp only [List.map_cons, List.flatten_cons, ih]; rfl
theorem lsS_flat (l : List ByteArray) : (lsS l).flatten = l.map Value.string := by
  unfold lsS; induction l with
  | nil => rfl
  | cons x l ih => simp only [List.map_cons, List.flatten_cons, ih]; rfl
theorem lsI_flat (l : List Cd.In) : (lsI l).flatten = flatI l := by
  unfold lsI flatI; rw [List.flatMap_def]
theorem lsP_flat : ∀ (l : List Cd.Pr) (ks : List Value), (lsP l ks).flatten = flatP l ks
  | [], _ => by simp [lsP, flatP]
  | _ :: _, [] => by simp [lsP, flatP]
  | p :: l, k :: ks => by simp only [lsP, flatP, List.flatten_cons, lsP_flat l ks]; rfl
theorem lsP_len : ∀ (l : List Cd.Pr) (ks : List Value), ks.length = l.length → (lsP l ks).length = l.length
  | [], _, _ => by simp [lsP]
  | p :: l, k :: ks, h => by simp only [lsP, List.length_cons, lsP_len l ks (by simpa using h)]
theorem lsP_two : ∀ (l : List Cd.Pr) (ks : List Value), ∀ x ∈ lsP l ks, x.length = 2
  | [], _, x, h => by simp [lsP] at h
  | _ :: _, [], x, h => by simp [lsP] at h
  | p :: l, k :: ks, x, h => by
    simp only [lsP, List.mem_cons] at h
    rcases h with rfl | h
    · rfl
    · exact lsP_two l ks x h

theorem blk_own {e size n : Nat} {v : Value} {xs : List Value} (h : Ow W e size v n xs) {x : Nat} (hx : x ∈ blk v) : v.ownBlock = some x := by
  rcases h.2 with ⟨rfl, _⟩ | ⟨g, cap, cur, rfl, _⟩
  · simp [blk] at hx
  · simp [blk] at hx; subst hx; rfl

/-- Code's lists. -/
structure CR (W : World) (cv pv gv : Value) (kvs : List Value) (c : Cd.Co) : Prop where
  cr : Row W 74 1 cv c.consts.length (c.consts.map (Value.int .u64))
  gr : Row W 9 1 gv c.globals.length (c.globals.map Value.string)
  pr : Row W 68 2 pv c.procs.length (flatP c.procs kvs)
  kl : kvs.length = c.procs.length
  kr : ∀ i, i < c.procs.length → Row W 82 2 (kvs.getD i undef) (c.procs.getD i ⟨0, []⟩).code.length (flatI (c.procs.getD i ⟨0, []⟩).code)
  kd : ∀ i j, i < c.procs.length → j < c.procs.length → i ≠ j → ∀ x ∈ blk (kvs.getD i undef), x ∉ blk (kvs.getD j undef)

theorem CR.of (h : OCo W cv pv gv kvs c F) : CR W cv pv gv kvs c :=
  ⟨Row.of_own h.cr, Row.of_own h.gr, Row.of_own h.pr, h.kl, fun i hi => Row.of_own (h.kr i hi), fun i j hi hj hij x hx hm => hij (h.kd i j x hi hj (blk_own (h.kr i hi) hx) (blk_own (h.kr j hj) hm))⟩
theorem CR.frame {G : List Nat} (h : CR W cv pv gv kvs c) (hs : Same G W w1) (h1 : ∀ x ∈ blk cv, x ∉ G) (h2 : ∀ x ∈ blk gv, x ∉ G) (h3 : ∀ x ∈ blk pv, x ∉ G) (h4 : ∀ i, i < c.procs.length → ∀ x ∈ blk (kvs.getD i undef), x ∉ G) : CR w1 cv pv gv kvs c :=
  ⟨h.cr.frame hs h1, h.gr.frame hs h2, h.pr.frame hs h3, h.kl, fun i hi => (h.kr i hi).frame hs (h4 i hi), h.kd⟩
/-- Past a list more in the book. -/
theorem CR.step {te s m t : Nat} {v : Value} {xs cs : List Value} (h : CR W cv pv gv kvs c) (hb : Blk W D t cs) (hr : Row W te s v m xs) (hs : Same (D :: blk v) W w1)
    (n1 : 74 ≠ te ∧ 74 ≠ t) (n2 : 9 ≠ te ∧ 9 ≠ t) (n3 : 68 ≠ te ∧ 68 ≠ t) (n4 : 82 ≠ te ∧ 82 ≠ t) : CR w1 cv pv gv kvs c := by
  have key : ∀ {e s' n' : Nat} {v' : Value} {xs' : List Value}, Row W e s' v' n' xs' → e ≠ te ∧ e ≠ t → ∀ x ∈ blk v', x ∉ D :: blk v := fun r hn x hx hm => by
    rcases List.mem_cons.1 hm with e1 | e1
    · exact r.ne_blk hb hn.2 x hx e1
    · exact r.ne hr hn.1 x hx e1
  exact h.frame hs (key h.cr n1) (key h.gr n2) (key h.pr n3) (fun i hi => key (h.kr i hi) n4)

/-- The book's own blocks lie from B on. -/
structure Tops (B D : Nat) (to_ wo io po : Value) : Prop where
  d : B ≤ D
  t : ∀ x ∈ blk to_, B ≤ x
  w : ∀ x ∈ blk wo, B ≤ x
  i : ∀ x ∈ blk io, B ≤ x
  p : ∀ x ∈ blk po, B ≤ x

theorem info_oP : (Tryz.prog.info? 23).map (fun i => (i.zero, i.size, i.bytes)) = some (some (.slice none 0 0), 1, 24) := by kernel_rfl

set_option maxHeartbeats 8000000 in
set_option maxRecDepth 100000 in
theorem bookCode_any {B : Nat} (h : BkAt W D to_ wo io po tl wl il pl) (ho : CR W cv pv gv kvs c) (hB : B ≤ W.heap.size) (ht : Tops B D to_ wo io po) (hn1 : tl.length ≤ 6000) (hn2 : wl.length ≤ 6000) (hn3 : il.length ≤ 6000) (hn4 : pl.length ≤ 6000) (hcn : c.procs.length ≤ 256)
    (aT : ∀ q ∈ tl, ∀ x ∈ blk q.1, x ∉ blk gv) (aW : ∀ q ∈ wl, ∀ x ∈ blk q.1, x ∉ blk cv) (aP : ∀ q ∈ pl, ∀ x ∈ blk q.1, x ∉ blk pv) (aI : ∀ q ∈ il, ∀ x ∈ blk q.1, ∀ i, i < c.procs.length → x ∉ blk (kvs.getD i undef)) :
    Calls Tryz.prog 20 #[.pointer (some ⟨D, 0, none⟩), .agg #[cv, pv, gv]] W fun e w' => e = .returned (.tuple #[]) ∧ ∃ to' wo' io' po', BkAt w' D to' wo' io' po' (tl ++ [(gv, lsS c.globals)]) (wl ++ [(cv, lsW c.consts)]) (il ++ iL c kvs c.procs.length) (pl ++ [(pv, lsP c.procs kvs)]) ∧ Tops B D to' wo' io' po' ∧ Below B W w' := by
  obtain ⟨A1, C1, rfl, -, -, -⟩ := ho.cr.form
  obtain ⟨A2, C2, rfl, -, -, -⟩ := ho.pr.form
  obtain ⟨A3, C3, rfl, -, -, -⟩ := ho.gr.form
  obtain ⟨pA, pC, rfl, -, -, -⟩ := h.fp.top.form
  obtain ⟨i0, hi1, hz0', hz1', hz2'⟩ := info_parts info_oP
  have HI0 := Lib.hid (And.intro hi1 (And.intro hz0' (And.intro hz1' hz2')))
  clear hi1 hz0' hz1' hz2'
  obtain ⟨w0, hw0⟩ : ∃ w0, w0 = W.alloc (.cells #[.slice A1 c.consts.length C1, .slice A2 c.procs.length C2, .slice A3 c.globals.length C3] 26) := ⟨_, rfl⟩
  have hs0 : Same [] W w0 := by rw [hw0]; exact (Same.refl _ _).alloc _
  have H0 := Lib.hid (h.frame0 hs0)
  have R0 := Lib.hid (ho.frame hs0 (by simp) (by simp) (by simp) (fun _ _ => by simp))
  have K0 : Hid (Blk w0 W.heap.size 26 [.slice A1 c.consts.length C1, .slice A2 c.procs.length C2, .slice A3 c.globals.length C3]) := Lib.hid (by rw [hw0]; exact Blk.new W _ _)
  have L0 := Lib.hid (hs0.belowF hB (by simp))
  have hz0 : B ≤ w0.heap.size := Nat.le_trans hB hs0.size
  have HT := Lib.hid ht
  have AT := Lib.hid aT
  have AW := Lib.hid aW
  have AP := Lib.hid aP
  have AI := Lib.hid aI
  have W0 := Lib.hid hw0
  clear h ho ht aT aW aP aI hs0 hw0
  go_enter Tryz.func20, Tryz.ntmps20
  go_wp2_with fail
  rw [← W0.out]
  refine (bkWords H0.out (.slice A1 c.consts.length C1, lsW c.consts) (by rw [lsW_flat]; simpa [lsW] using R0.out.cr) (by simp [lsW]) AW.out (by omega)).mono ?_
  rintro e w1 ⟨rfl, wo1, hb1, hs1, hn1⟩
  have T1 : Hid (Tops B D to_ wo1 io (.slice pA pl.length pC)) := Lib.hid ⟨HT.out.d, HT.out.t, fun x hx => by
    rcases hn1 x hx with h | h
    · exact HT.out.w x h
    · omega, HT.out.i, HT.out.p⟩
  have R1 := Lib.hid (R0.out.step H0.out.b H0.out.fw.top hs1 (by decide) (by decide) (by decide) (by decide))
  have K1 := Lib.hid (K0.out.frame hs1 (fun hm => by
    rcases List.mem_cons.1 hm with e1 | e1
    · exact Blk.ne K0.out H0.out.b (by decide) e1
    · exact H0.out.fw.top.ne_blk K0.out (by decide) _ e1 rfl))
  have L1 : Hid (Below B W w1) := Lib.hid (L0.out.trans (hs1.belowF hz0 (fun x hx => by
    rcases List.mem_cons.1 hx with e1 | e1
    · rw [e1]; exact HT.out.d
    · exact HT.out.w x e1)))
  have hz1 : B ≤ w1.heap.size := Nat.le_trans hz0 hs1.size
  have H1 := Lib.hid hb1
  have k2 := K1.out.cell 2
  clear hb1 hs1 hn1
  go_wp2_with fail
  refine (bkTexts H1.out (.slice A3 c.globals.length C3, lsS c.globals) (by rw [lsS_flat]; simpa [lsS] using R1.out.gr) (by simp [lsS]) AT.out (by omega)).mono ?_
  rintro e w2 ⟨rfl, to1, hb2, hs2, hn2⟩
  have T2 : Hid (Tops B D to1 wo1 io (.slice pA pl.length pC)) := Lib.hid ⟨T1.out.d, fun x hx => by
    rcases hn2 x hx with h | h
    · exact T1.out.t x h
    · omega, T1.out.w, T1.out.i, T1.out.p⟩
  have R2 := Lib.hid (R1.out.step H1.out.b H1.out.ft.top hs2 (by decide) (by decide) (by decide) (by decide))
  have K2 := Lib.hid (K1.out.frame hs2 (fun hm => by
    rcases List.mem_cons.1 hm with e1 | e1
    · exact Blk.ne K1.out H1.out.b (by decide) e1
    · exact H1.out.ft.top.ne_blk K1.out (by decide) _ e1 rfl))
  have L2 : Hid (Below B W w2) := Lib.hid (L1.out.trans (hs2.belowF hz1 (fun x hx => by
    rcases List.mem_cons.1 hx with e1 | e1
    · rw [e1]; exact HT.out.d
    · exact HT.out.t x e1)))
  have hz2 : B ≤ w2.heap.size := Nat.le_trans hz1 hs2.size
  have H2 := Lib.hid hb2
  have k1 := K2.out.cell 1
  have d14 := H2.out.b.cell 14
  have dz := H2.out.b.lt
  have df := H2.out.b.frozen
  have HOP : Hid (∀ W', Same [] w2 W' → W'.ownsRow 0 23 1 (.slice pA pl.length pC) pl.length (pl.map (·.1))) := Lib.hid (fun W' hs => own_frame H2.out.op hs (by simp))
  have HOB : Hid (∀ x, x ∈ (Value.slice pA pl.length pC).ownBlock.toList → x ∈ blk (.slice pA pl.length pC)) := Lib.hid (fun x hx => by
    rcases pA with _ | ⟨g, o, s⟩
    · simp [Value.ownBlock] at hx
    · simpa [Value.ownBlock, blk] using hx)
  have HND : Hid (D ∉ (Value.slice pA pl.length pC).ownBlock.toList) := Lib.hid (fun hm => H2.out.fp.top.ne_blk H2.out.b (by decide) D (HOB.out D hm) rfl)
  clear hb2 hs2 hn2 k2
  go_upto_region 3 with fail
  go_cut [] (fun wx => ∃ po1, BkAt wx D to1 wo1 io po1 (tl ++ [(.slice A3 c.globals.length C3, lsS c.globals)]) (wl ++ [(.slice A1 c.consts.length C1, lsW c.consts)]) il (pl ++ [(.slice A2 c.procs.length C2, lsP c.procs kvs)]) ∧ Tops B D to1 wo1 io po1 ∧ CR wx (.slice A1 c.consts.length C1) (.slice A2 c.procs.length C2) (.slice A3 c.globals.length C3) kvs c ∧ Blk wx W.heap.size 26 [.slice A1 c.consts.length C1, .slice A2 c.procs.length C2, .slice A3 c.globals.length C3] ∧ Below B W wx ∧ B ≤ wx.heap.size)
  case first =>
   go_region_law ((refine step_append_lies _ rfl (.tmp 17) (.tmp 20) 55 rfl 0 23 i0 _ 1 24 Tryz.underlying55 HI0.out.1 HI0.out.2.1 HI0.out.2.2.1 HI0.out.2.2.2 rfl (by decide) (.slice pA pl.length pC) pl.length (pl.map (·.1)) rfl (HOP.out _ (by repeat (first | exact Same.refl _ _ | refine Same.drew ?_ | refine Same.drewN ?_ _ | refine Same.alloc ?_ _))) _ 1 1 [.slice A2 c.procs.length C2] rfl rfl (by first | exact news1 (blk_at (by simp)) | exact news1 (Blk.drew (blk_at (by simp)))) (one1 rfl) (by omega) (by unfold maxLen; omega) (by omega) (Nat.zero_le _) _ rfl ?_); (intro g C w5 hown hgrow hat hlt; have hsA : Same (Value.slice pA pl.length pC).ownBlock.toList w2 w5 := Same.trans (by repeat (first | exact Same.refl _ _ | refine Same.drew ?_ | refine Same.drewN ?_ _ | refine Same.alloc ?_ _)) (Same.of_grown hgrow); have hx1 := (hsA.cell dz HND.out).trans d14; have hx2 : ∀ j, w5.frozen? ⟨D, j, none⟩ = false := (fun j => (hsA.frozen dz HND.out).trans (df j)); have hx3 := Nat.lt_of_lt_of_le dz hsA.size; have HA := Lib.hid hsA; have HOWN := Lib.hid hown; have HAT := Lib.hid hat; clear hsA hown hgrow hat))
   all_goals
    go_wp2_with fail
    go_meet
    have hA2 : Same (blk (.slice pA pl.length pC)) w2 w5 := HA.out.mono (fun x hx => .inl (HOB.out x hx))
    have hS : Same (D :: blk (.slice pA pl.length pC)) w2 (w5.setCell ⟨D, 14, none⟩ (.slice (some ⟨g, 0, none⟩) (pl.length + 1) C)) := (hA2.mono (fun x hx => .inl (List.mem_cons_of_mem _ hx))).setCell (by simp) _
    refine ⟨_, H2.out.addP (.slice A2 c.procs.length C2, lsP c.procs kvs) (by rw [lsP_flat, lsP_len _ _ R2.out.kl]; exact R2.out.pr) (lsP_two _ _) AP.out _ HOWN.out hA2, ⟨T2.out.d, T2.out.t, T2.out.w, T2.out.i, fun x hx => ?_⟩, R2.out.step H2.out.b H2.out.fp.top hS (by decide) (by decide) (by decide) (by decide), K2.out.frame hS (fun hm => ?_), L2.out.trans (hS.belowF hz2 (fun x hx => ?_)), Nat.le_trans hz2 hS.size⟩
    · have e : x = g := by simpa [blk] using hx
      rw [e]
      rcases HAT.out with h | h
      · exact T2.out.p g (HOB.out g (by rw [h]; simp))
      · rw [h]; simp; omega
    · rcases List.mem_cons.1 hm with e1 | e1
      · exact Blk.ne K2.out H2.out.b (by decide) e1
      · exact H2.out.fp.top.ne_blk K2.out (by decide) _ e1 rfl
    · rcases List.mem_cons.1 hx with e1 | e1
      · rw [e1]; exact T2.out.d
      · exact T2.out.p x e1
  case rest =>
    obtain ⟨po1, h3, t3, r3, b3, l3, hz3⟩ := hcut
    obtain ⟨tl1, htl⟩ : ∃ l, l = tl ++ [(Value.slice A3 c.globals.length C3, lsS c.globals)] := ⟨_, rfl⟩
    obtain ⟨wl1, hwl⟩ : ∃ l, l = wl ++ [(Value.slice A1 c.consts.length C1, lsW c.consts)] := ⟨_, rfl⟩
    obtain ⟨pl1, hpl⟩ : ∃ l, l = pl ++ [(Value.slice A2 c.procs.length C2, lsP c.procs kvs)] := ⟨_, rfl⟩
    rw [← htl, ← hwl, ← hpl] at h3
    have HL1 := Lib.hid (And.intro htl (And.intro hwl hpl))
    have H3 := Lib.hid h3
    have T3 := Lib.hid t3
    have R3 := Lib.hid r3
    have K3 := Lib.hid b3
    have L3 := Lib.hid l3
    have HZ3 := Lib.hid hz3
    clear h3 t3 r3 b3 l3 hz3 htl hwl hpl
    go_wp2_with fail
    go_loopg [4] c.procs.length (fun gk a4 wr => ∃ (i : Nat) (io' : Value), i ≤ c.procs.length ∧ gk = c.procs.length - i ∧ a4 = .int .i64 i ∧ BkAt wr D to1 wo1 io' po1 tl1 wl1 (il ++ iL c kvs i) pl1 ∧ Tops B D to1 wo1 io' po1 ∧ CR wr (.slice A1 c.consts.length C1) (.slice A2 c.procs.length C2) (.slice A3 c.globals.length C3) kvs c ∧ Blk wr W.heap.size 26 [.slice A1 c.consts.length C1, .slice A2 c.procs.length C2, .slice A3 c.globals.length C3] ∧ Below B W wr ∧ B ≤ wr.heap.size)
    case atStart => exact ⟨0, io, Nat.zero_le _, rfl, rfl, by simpa [iL] using H3.out, T3.out, R3.out, K3.out, L3.out, HZ3.out⟩
    case round =>
      obtain ⟨i, io', hi, rfl, rfl, h4, t4, r4, b4, l4, hz4⟩ := hrel
      have k1 := b4.cell 1
      have H4 := Lib.hid h4
      have T4 := Lib.hid t4
      have R4 := Lib.hid r4
      have K4 := Lib.hid b4
      have L4 := Lib.hid l4
      have HZ4 := Lib.hid hz4
      clear h4 t4 r4 b4 l4 hz4
      by_cases hlt : i < c.procs.length
      · have hlt' : (i : Int) < (c.procs.length : Int) := by omega
        obtain ⟨g, off, cap, hv, hcap, hgl, hc, hfz⟩ := R4.out.pr.at_ (by omega)
        injection hv with hv1 _ hv2
        subst hv1 hv2
        have k2 := hc (i * 2 + 1) (by omega)
        rw [flatP_at _ _ i 1 R4.out.kl hlt (by omega)] at k2
        rw [← Nat.add_assoc] at k2
        simp only [fP, Nat.one_ne_zero, if_false] at k2
        obtain ⟨Ak, Ck', hkv, -, -, -⟩ := (R4.out.kr i hlt).form
        have HC := Lib.hid (bkInstrs H4.out (kvs.getD i undef, lsI (c.procs.getD i ⟨0, []⟩).code) (by rw [lsI_flat]; simpa [lsI] using R4.out.kr i hlt) (by simp [lsI]) (fun q hq x hx => by
          rcases List.mem_append.1 hq with h | h
          · exact AI.out q h x hx i hlt
          · obtain ⟨j, hj, rfl⟩ := List.mem_map.1 h
            have hj := List.mem_range.1 hj
            exact R4.out.kd j i (by omega) hlt (by omega) x hx) (by rw [List.length_append]; simp [iL]; omega))
        obtain ⟨PC, hPC⟩ : ∃ l, l = (c.procs.getD i ⟨0, []⟩).code := ⟨_, rfl⟩
        rw [← hPC] at hkv HC
        have HKV := Lib.hid hkv
        have HPC := Lib.hid hPC
        rw [hkv] at k2
        simp only at HC
        rw [hkv] at HC
        clear hPC
        clear hc hfz hkv hcap
        go_wp2_with fail
        refine HC.out.mono ?_
        rintro e w5 ⟨rfl, io2, hb5, hs5, hn5⟩
        rw [← HKV.out, HPC.out, List.append_assoc, ← iL_succ] at hb5
        have T5 : Hid (Tops B D to1 wo1 io2 po1) := Lib.hid ⟨T4.out.d, T4.out.t, T4.out.w, fun x hx => by
          rcases hn5 x hx with h | h
          · exact T4.out.i x h
          · have := HZ4.out; omega, T4.out.p⟩
        have R5 := Lib.hid (R4.out.step H4.out.b H4.out.fi.top hs5 (by decide) (by decide) (by decide) (by decide))
        have K5 := Lib.hid (K4.out.frame hs5 (fun hm => by
          rcases List.mem_cons.1 hm with e1 | e1
          · exact Blk.ne K4.out H4.out.b (by decide) e1
          · exact H4.out.fi.top.ne_blk K4.out (by decide) _ e1 rfl))
        have L5 : Hid (Below B W w5) := Lib.hid (L4.out.trans (hs5.belowF HZ4.out (fun x hx => by
          rcases List.mem_cons.1 hx with e1 | e1
          · rw [e1]; exact T4.out.d
          · exact T4.out.i x e1)))
        have Z5 : Hid (B ≤ w5.heap.size) := Lib.hid (Nat.le_trans HZ4.out hs5.size)
        have H5 := Lib.hid hb5
        clear hb5 hs5 hn5 HC k1 k2
        go_wp2_with fail
        go_roundg (c.procs.length - (i + 1))
        case measure => omega
        case rel => exact ⟨i + 1, io2, by omega, rfl, by go_num, H5.out, T5.out, R5.out, K5.out, L5.out, Z5.out⟩
      · have hie : i = c.procs.length := by omega
        have hge : (c.procs.length : Int) ≤ (i : Int) := by omega
        have HIE := Lib.hid hie
        clear hie
        go_wp2_with fail
        go_end0
        obtain ⟨e1, e2, e3⟩ := HL1.out
        refine ⟨rfl, to1, wo1, io', po1, ?_, T4.out, L4.out⟩
        have := H4.out
        rw [HIE.out, e1, e2, e3] at this
        exact this
end Ck
end Go.Proofs.YticaipedpcmhfaaGreatDoor
