/- Layer 19, an end in LocksInOrder: the walk. -/
import Derived.Test.YtkfdoocmapjkbaaDoorLkE0
import Derived.Test.YtkfdoocmapjkbaaDoorLkE2
namespace Go.Proofs.YtkfdoocmapjkbaaDoor
open Go.RowKit Hp
namespace Lk
variable {w w' W : World} {B : Nat} {m m' : Bk} {F G : List Nat} {ro : Value} {rvs : List Value}

theorem info4 : (Tryd.prog.info? 4).map (fun i => (i.zero, i.size, i.bytes)) = some (some (.bool false), 1, 1) := by kernel_rfl

/-- The first loop's state: behind k locks. W1 is the world ahead of 'goes', which lies in block gb. -/
structure E1 (W1 : World) (m : Bk) (t : Int) (G : List Nat) (ro : Value) (gb k : Nat) (wr : World) (rvs : List Value) (G' : List Nat) : Prop where
  ll : LL (nE .i64) 29 3 1 wr ro rvs (rowsE m t k) G'
  new : ∀ x ∈ G', x ∈ G ∨ W1.heap.size ≤ x
  same : Same G W1 wr
  tab : Tab wr gb 4 9 (gV (fun i => wokeB m t k i))
  gn : gb ∉ G'

theorem E1.next {W1 : World} {t : Int} {gb k : Nat} {wr : World} {G' : List Nat} (h : E1 W1 m t G ro gb k wr rvs G') (hr : rowsE m t (k + 1) = rowsE m t k) (hw : ∀ i : Nat, wokeB m t (k + 1) i = wokeB m t k i) : E1 W1 m t G ro gb (k + 1) wr rvs G' :=
  ⟨by rw [hr]; exact h.ll, h.new, h.same, h.tab.congr (fun i _ => by simp only [gV, hw]), h.gn⟩

set_option maxHeartbeats 1600000 in
set_option maxRecDepth 100000 in
theorem endT_any (t x e kd k1 k2 : Int) (jb : Nat) (s : St w W B m F ro rvs G) (hj : Tab W jb 3 9 (jV (jf m))) (jF : jb ∉ F) (jG : jb ∉ G) (ht : m.is t = true) (hg : (m.th t).goes = true) :
    Calls Tryd.prog 17 #[.pointer (some ⟨B, 0, none⟩), .int .i64 t, .agg #[.int .i64 kd, .int .i64 k1, .int .i64 k2, .int .u64 x, .int .i64 e], ro, .slice (some ⟨jb, 0, none⟩) 9 9] W fun en w' =>
      en = .returned (.tuple #[ro, .bool true]) ∧ ∃ F' rvs' G', St w w' B (endM m t x e) F' ro rvs' G' ∧ Tab w' jb 3 9 (jV (jf (endM m t x e))) ∧ jb ∉ F' ∧ jb ∉ G' ∧ Same (jb :: (F ++ G)) W w' := by
  have hll0 := s.ll
  rw [← rowsE_zero m t] at hll0
  have ht1 := ((is_iff m t).1 ht).1
  have ht5 := ((is_iff m t).1 ht).2
  rw [s.nt] at ht5
  have h3 := s.nl
  have HS := Lib.hid s
  have HJ := Lib.hid hj
  have HJF := Lib.hid jF
  have HJG := Lib.hid jG
  have HT := Lib.hid ht
  have HGo := Lib.hid hg
  have HLL := Lib.hid hll0
  have H3 := Lib.hid h3
  have hro : ∃ g0 off0 cap0, ro = .slice (some ⟨g0, off0, none⟩) 3 cap0 := by
    obtain ⟨g, off, cap, hro, -⟩ := hll0.at_ 0 (by rw [rowsE_len, h3]; omega) (by decide)
    rw [rowsE_len, h3] at hro
    exact ⟨g, off, cap, hro⟩
  obtain ⟨g0, off0, cap0, rfl⟩ := hro
  clear s hj jF jG ht hg hll0 h3
  go_enter Tryd.func17, Tryd.ntmps17
  go_wp2_with (first
    | (at_make; refine wpList_make_blk _ rfl (.const (.int .i64 9)) (.const (.int .i64 9)) 108 rfl 4 (.bool false) 1 1 Tryd.underlying108 info4 9 rfl rfl ?m1 ?m2 ?K))
  case m1 => omega
  case m2 => unfold maxLen; omega
  case K =>
    intro w2 hb2 hs2
    have hW1 : (W.alloc (.cells #[.int .i64 kd, .int .i64 k1, .int .i64 k2, .int .u64 x, .int .i64 e] 35)).heap.size = W.heap.size + 1 := by simp
    have hob : Blk (W.alloc (.cells #[.int .i64 kd, .int .i64 k1, .int .i64 k2, .int .u64 x, .int .i64 e] 35)) W.heap.size 35 [.int .i64 kd, .int .i64 k1, .int .i64 k2, .int .u64 x, .int .i64 e] := Blk.new W 35 _
    have hW0 : Same [] W (W.alloc (.cells #[.int .i64 kd, .int .i64 k1, .int .i64 k2, .int .u64 x, .int .i64 e] 35)) := (Same.refl _ _).alloc _
    obtain ⟨W1, hW1e⟩ : ∃ W1, W1 = W.alloc (.cells #[.int .i64 kd, .int .i64 k1, .int .i64 k2, .int .u64 x, .int .i64 e] 35) := ⟨_, rfl⟩
    rw [← hW1e] at hW1 hob hW0 hs2
    clear hW1e
    obtain ⟨ob, hobe⟩ : ∃ ob, ob = W.heap.size := ⟨_, rfl⟩
    rw [← hobe] at hW1 hob ⊢
    rw [← hobe] at hb2
    have HOE := Lib.hid hobe
    have HW1 := Lib.hid hW1
    have HOB := Lib.hid hob
    have HW0 := Lib.hid hW0
    have hb2' : Blk w2 (ob + 1) 4 (List.replicate 9 (.bool false)) := by rw [toList_madeCells_one] at hb2; exact hb2
    have E0 : E1 W1 m t G (.slice (some ⟨g0, off0, none⟩) 3 cap0) (ob + 1) 0 w2 rvs G := by
      refine ⟨(HLL.out.frame hW0 (by simp)).frame hs2 (by simp), fun x hx => .inl hx, hs2.mono (by simp), Tab.of_fill hb2', fun hm => ?_⟩
      have := HLL.out.lt _ hm
      omega
    have E0 := Lib.hid E0
    clear hobe hW1 hob hW0 hb2 hs2 hb2'
    go_wp2
    go_loopw [13] (fun c wr => ∃ k : Nat, k ≤ 3 ∧ c = .int .i64 k ∧ ∃ rvs' G', E1 W1 m t G (.slice (some ⟨g0, off0, none⟩) 3 cap0) (ob + 1) k wr rvs' G') (fun c _ => 3 - (intOf c).toNat)
    case atStart => exact ⟨0, Nat.zero_le _, rfl, rvs, G, E0.out⟩
    case round =>
      obtain ⟨k, hk, rfl, rvs1, G1, hE⟩ := hrel
      have HE := Lib.hid hE
      by_cases hlt : k < 3
      · have ho1 : Own w wr B m F := (HS.out.own.frame HW0.out (by simp)).frame hE.same (fun x hx hm => HS.out.gf x hm hx)
        have hlm : m.isL (k : Int) = true := by rw [isL_iff, H3.out]; omega
        have hh : holderF m (k : Int) = (m.lo (k : Int)).ho := by simp [holderF, hlm]
        have H1 := Lib.hid (own_holder ho1 k _ hh)
        have HO1 := Lib.hid ho1
        clear hE ho1 hh
        by_cases hho : (m.lo (k : Int)).ho = t
        · rw [hho] at H1
          have HHO := Lib.hid hho
          have et : (t == t) = true := by simp
          have hll1 := HE.out.ll
          obtain ⟨g, off, cap, hro, hglt, hgG, hcell, hfr, hfar, hset⟩ := hll1.at_ k (by rw [rowsE_len, H3.out]; exact hlt) (by decide)
          rw [rowsE_len, H3.out] at hro
          injection hro with hro _ hro2
          injection hro with hro
          injection hro with hro hro3 _
          subst hro hro2 hro3
          have hrow := hll1.rows k (by rw [rowsE_len, H3.out]; exact hlt)
          rw [rowsE_at m t k (by rw [H3.out]; exact hlt)] at hrow
          cases hrow0 : (m.lo (k : Int)).row with
          | nil =>
            rw [hrow0] at hrow
            obtain ⟨ra, rc, hra, -, -, -⟩ := hrow.form
            rw [hra] at hcell
            simp only [List.length_nil] at hcell
            have hn2 := Lib.hid (HE.out.next (rowsE_empty m t k (by rw [H3.out]; exact hlt) hrow0) (fun i => woke_empty m t k i hrow0))
            have FR := Lib.hid hfr
            clear hho hrow0 hrow hra hfar hset hfr hll1 hgG hlm
            go_wp2_with fail
            refine H1.out.mono ?_
            rintro en w3 ⟨rfl, rfl⟩
            go_wp2
            go_roundw
            case rel => exact ⟨k + 1, by omega, by go_num, _, _, hn2.out⟩
            case measure => simp [intOf]; omega
          | cons a r =>
            rw [hrow0] at hrow
            have hok := HS.out.own.ok
            have ha := ((is_iff m a).1 (hok.rowIn (k : Int) a hlm (by rw [hrow0]; simp)).1)
            rw [HS.out.nt] at ha
            obtain ⟨ha1, ha5⟩ := ha
            have hlen8 := row_len8 hok hlm
            rw [hrow0] at hlen8
            simp only [List.length_cons] at hlen8
            have hcg := HE.out.tab.cell a.toNat (by omega)
            have hfg := HE.out.tab.froz a.toNat
            have hglt' := HE.out.tab.lt
            obtain ⟨W3, hW3⟩ : ∃ W3, W3 = wr.setCell ⟨ob + 1, a.toNat, none⟩ (.bool true) := ⟨_, rfl⟩
            have hs13 : Same [ob + 1] wr W3 := by rw [hW3]; exact (Same.refl _ _).setCell (.inl (by simp)) _
            have hll3 := hll1.frame hs13 (fun x hx hm => HE.out.gn (by simp at hm; rw [← hm]; exact hx))
            have ht3 : Tab W3 (ob + 1) 4 9 (gV (fun i => wokeB m t (k + 1) i)) := by
              rw [hW3]
              refine (HE.out.tab.set a.toNat (.bool true)).congr (fun i _ => ?_)
              simp only [gV]
              rw [woke_yes m t a k i r hho hrow0 ha1]
              split <;> rfl
            clear hglt hgG hcell hfr hfar hset
            obtain ⟨g, off, cap, hro, hglt, hgG, hcell, hfr, hfar, hset⟩ := hll3.at_ k (by rw [rowsE_len, H3.out]; exact hlt) (by decide)
            rw [rowsE_len, H3.out] at hro
            injection hro with hro _ hro2
            injection hro with hro
            injection hro with hro hro3 _
            subst hro hro2 hro3
            have hrow3 := hll3.rows k (by rw [rowsE_len, H3.out]; exact hlt)
            rw [rowsE_at m t k (by rw [H3.out]; exact hlt), hrow0] at hrow3
            obtain ⟨gr, or_, rc, hra, hrc, hrlt, hcr, -⟩ := hrow3.at_ (by simp)
            rw [hra] at hcell
            simp only [List.length_cons] at hcell hrc
            have hne1 : ¬ g0 = ob + 1 := fun e => HE.out.gn (by rw [← e]; exact hgG)
            have hne2 : ¬ gr = ob + 1 := fun e => HE.out.gn (by
              rw [← e]; exact hll3.rowIn k (by rw [rowsE_len, H3.out]; exact hlt) _ (by rw [hra]; simp [blk]))
            have r0 : W3.cell? ⟨gr, or_, none⟩ = some (.int .i64 a) := by
              have := hcr 0 (by simp)
              simpa [nE] using this
            have hnews : ∀ j u, (r.flatMap (nE .i64))[j]? = some u → W3.cell? ⟨gr, or_ + 1 + j, none⟩ = some u := fun j u hu => by
              have hjl : j < r.length := by
                have := (List.getElem?_eq_some_iff.1 hu).1
                rw [flat_length (nE .i64) 1 (nE_len _)] at this; omega
              have := hcr (1 + j) (by simp; omega)
              rw [← Nat.add_assoc] at this
              rw [this, ← hu, Nat.add_comm 1 j]
              simp [nE]
            have c0 : wr.cell? ⟨g0, off0 + k, none⟩ = some (.slice (some ⟨gr, or_, none⟩) (r.length + 1) rc) := (hs13.cell (hll1.lt _ hgG) (by simpa using hne1)).symm.trans hcell
            have r1 : wr.cell? ⟨gr, or_, none⟩ = some (.int .i64 a) := (hs13.cell (hll1.lt _ (hll3.rowIn k (by rw [rowsE_len, H3.out]; exact hlt) _ (by rw [hra]; simp [blk]))) (by simpa using hne2)).symm.trans r0
            have hbox : Blk wr ob 35 _ := (HOB.out.frame HE.out.same (fun hm => by have := HS.out.ll.lt _ hm; have := HOE.out; omega))
            have HNEWS := Lib.hid hnews
            obtain ⟨q, hq⟩ : ∃ q, q = r.length := ⟨_, rfl⟩
            have HQ := Lib.hid hq
            rw [← hq] at hcell hrc hlen8 c0
            have i1 : (1 : Int) ≤ (rc : Int) := by omega
            have i2 : (q : Int) + 1 ≤ (rc : Int) := by omega
            have hone : Hid (∀ u ∈ r.flatMap (nE .i64), u.oneCell' = true) := Lib.hid (fun u hu => by
              rw [nE_map] at hu; obtain ⟨x, _, rfl⟩ := List.mem_map.1 hu; rfl)
            have FIN : Hid (∀ w3 v', Row w3 3 1 v' r.length (r.flatMap (nE .i64)) → Same [] W3 w3 → (∀ k ∈ blk v', W3.heap.size ≤ k) →
                ∃ rvs' G', E1 W1 m t G (.slice (some ⟨g0, off0, none⟩) 3 cap0) (ob + 1) (k + 1) (w3.setCell ⟨g0, off0 + k, none⟩ v') rvs' G') := by
              refine Lib.hid (fun w3 v' hrow' hs3 hb3 => ?_)
              have hnew := hset w3 v' r (hs3.mono (by simp)) (fun k hk => .inr (hb3 k hk)) hrow'
              have hz1 := HE.out.same.size
              have hz3 := hs13.size
              refine ⟨rvs1.set k v', G1 ++ blk v', ⟨?_, fun x hx => ?_, ?_, ?_, fun hm => ?_⟩⟩
              · rw [rowsE_yes m t k (by rw [H3.out]; exact hlt) hho, hrow0]; exact hnew
              · rcases List.mem_append.1 hx with hx | hx
                · exact HE.out.new x hx
                · have := hb3 x hx; exact .inr (by omega)
              · refine ((HE.out.same.trans' (hs13.trans' hs3 (by simp)) (fun x hx => .inr ?_))).setCell ?_ v'
                · simp at hx; subst hx; have := HW1.out; omega
                · exact HE.out.new _ hgG
              · exact (ht3.frame hs3 (by simp)).setOther (by simp; exact fun e => hne1 e.symm) _
              · rcases List.mem_append.1 hm with hm | hm
                · exact HE.out.gn hm
                · have := hb3 _ hm; omega
            have HRL : Hid (r = [] → q = 0) := Lib.hid (fun e => by rw [hq, e]; rfl)
            have FR := Lib.hid hfr
            have HZ : Hid (W3.heap.size = wr.heap.size) := Lib.hid (by rw [hW3]; simp [World.setCell])
            clear hho hrow0 hrow hra hfar hset hfr hll1 hgG hlm hll3 ht3 hrow3 hcr hs13 hnews hq hok
            by_cases hrc1 : rc = 1
            · subst hrc1
              have hq0 : q = 0 := by omega
              subst hq0
              have hr0 : r = [] := List.eq_nil_of_length_eq_zero HQ.out.symm
              clear i2
              go_wp2_with (first
                | (go_at_call 18; refine H1.out.mono ?_; rintro en w3 ⟨rfl, rfl⟩)
                | (at_builtin; refine wpList_append_row _ rfl (.tmp 51) (.tmp 56) 29 rfl 3 (.int .i64 0) 1 8 Tryd.underlying29 info3 rfl (by decide) (.slice none 0 0) 0 [] rfl ?a1 ⟨gr, or_, none⟩ 0 0 [] rfl rfl ?a2 ?a3 ?a4 ?a5 ?a6))
              case a1 => exact Row.nil _ _ _
              case a2 => intro j u hu; simp at hu
              case a3 => intro u hu; simp at hu
              case a4 => unfold maxLen; omega
              case a5 => omega
              case a6 =>
                intro v' w3 hrow' hsm hbk
                rw [← hW3] at hsm
                rw [← HZ.out] at hbk
                have hs3 : Same [] W3 w3 := hsm.mono (by simp [blk])
                have hb3 : ∀ k ∈ blk v', W3.heap.size ≤ k := fun k hk => by
                  rcases hbk k hk with h | h
                  · simp [blk] at h
                  · exact h
                obtain ⟨a', c', rfl, -, -, -⟩ := hrow'.form
                have HF := Lib.hid (FIN.out w3 _ (by rw [hr0]; simpa using hrow') hs3 hb3)
                have f1 : w3.frozen? ⟨g0, off0 + k, none⟩ = false := (hs3.frozen hglt (by simp)).trans (FR.out _)
                have q1 := (hs3.cell (b := g0) (o := off0 + k) hglt (by simp)).trans hcell
                clear hrow' hsm hbk hs3 hb3
                go_wp2
                go_roundw
                case rel => exact ⟨k + 1, by omega, by go_num, HF.out⟩
                case measure => simp [intOf]; omega
            · have hrc2 : 1 < rc := by omega
              have hne : (rc = 1) = False := by simpa using hrc1
              clear hrc1
              go_wp2_with (first
                | (go_at_call 18; refine H1.out.mono ?_; rintro en w3 ⟨rfl, rfl⟩)
                | (at_builtin; refine wpList_append_row _ rfl (.tmp 51) (.tmp 56) 29 rfl 3 (.int .i64 0) 1 8 Tryd.underlying29 info3 rfl (by decide) (.slice none 0 0) 0 [] rfl ?d1 ⟨gr, or_ + 1, none⟩ q (rc - 1) (r.flatMap (nE .i64)) rfl ?d0 ?d2 ?d3 ?d4 ?d5 ?d6))
              case d0 => rw [flat_length (nE .i64) 1 (nE_len _), HQ.out]
              case d1 => exact Row.nil _ _ _
              case d2 => intro j u hu; rw [Addr.add_lit, ← hW3]; exact HNEWS.out j u hu
              case d3 => exact hone.out
              case d4 => unfold maxLen; omega
              case d5 => omega
              case d6 =>
                intro v' w3 hrow' hsm hbk
                rw [← hW3] at hsm
                rw [← HZ.out] at hbk
                have hs3 : Same [] W3 w3 := hsm.mono (by simp [blk])
                have hb3 : ∀ k ∈ blk v', W3.heap.size ≤ k := fun k hk => by
                  rcases hbk k hk with h | h
                  · simp [blk] at h
                  · exact h
                obtain ⟨a', c', rfl, -, -, -⟩ := hrow'.form
                have HF := Lib.hid (FIN.out w3 _ (by rw [← HQ.out]; simpa using hrow') hs3 hb3)
                have f1 : w3.frozen? ⟨g0, off0 + k, none⟩ = false := (hs3.frozen hglt (by simp)).trans (FR.out _)
                have q1 := (hs3.cell (b := g0) (o := off0 + k) hglt (by simp)).trans hcell
                clear hrow' hsm hbk hs3 hb3
                go_wp2
                go_roundw
                case rel => exact ⟨k + 1, by omega, by go_num, HF.out⟩
                case measure => simp [intOf]; omega
        · have et : ((m.lo (k : Int)).ho == t) = false := by simpa using hho
          have hn2 := Lib.hid (HE.out.next (rowsE_no m t k (by rw [H3.out]; exact hlt) hho) (fun i => woke_other m t k i hho))
          clear hho hlm
          generalize (m.lo (k : Int)).ho = ho0 at *
          go_wp2_with fail
          refine H1.out.mono ?_
          rintro en w3 ⟨rfl, rfl⟩
          go_wp2
          go_roundw
          case rel => exact ⟨k + 1, by omega, by go_num, _, _, hn2.out⟩
          case measure => simp [intOf]; omega
      · have hk3 : k = 3 := by omega
        subst hk3
        obtain ⟨wa, hwa⟩ : ∃ wa, wa = wr := ⟨_, rfl⟩
        subst hwa
        rw [show ((3 : Nat) : Int) = 3 from rfl]
        clear hlt hk hE
        have hj1 : Tab wa jb 3 9 (jV (jmid m t 1)) := ((HJ.out.frame HW0.out (by simp)).frame HE.out.same HJG.out).congr (fun i _ => by simp only [jV, jmid_one m t ht1])
        have hg1 : Tab wa (ob + 1) 4 9 (gV (gmid m t 1)) := HE.out.tab.congr (fun i _ => by simp only [gV, gmid_one m t ht1])
        have hjlt := HJ.out.lt
        have hjne : jb ≠ ob + 1 := by have := HOE.out; omega
        have HJ1 := Lib.hid hj1
        have HG1 := Lib.hid hg1
        clear hj1 hg1
        go_wp2
        go_loopw [15] (fun c wq => ∃ k : Nat, 1 ≤ k ∧ k ≤ 6 ∧ c = .int .i64 k ∧ Tab wq jb 3 9 (jV (jmid m t k)) ∧ Tab wq (ob + 1) 4 9 (gV (gmid m t k)) ∧ Same [jb, ob + 1] wa wq) (fun c _ => 6 - (intOf c).toNat)
        case atStart => exact ⟨1, by omega, by omega, by go_num, HJ1.out, HG1.out, Same.refl _ _⟩
        case round =>
          obtain ⟨k, hk1, hk6, rfl, hjk, hgk, hsk⟩ := hrel
          by_cases hlt : k < 6
          · have c1 := hjk.cell k (by omega)
            have f1 := hjk.froz k
            have c2 := hgk.cell k (by omega)
            have f2 := hgk.froz k
            have l1 := hjk.lt
            have l2 := hgk.lt
            simp only [jV, gV, jmid_at] at c1 c2
            generalize gmid m t k k = gk at c2
            by_cases hy : jf m k = t
            · have hj2 := Lib.hid ((((hjk.set k (.int .i64 0)).setOther (p := ⟨ob + 1, k, none⟩) hjne (.bool true))).congr (f' := jV (jmid m t (k + 1))) (fun i _ => by simp only [jV, jmid_yes m t k i hy]; split <;> rfl))
              have hg2 := Lib.hid ((((hgk.setOther (p := ⟨jb, k, none⟩) hjne.symm (.int .i64 0)).set k (.bool true))).congr (f' := gV (gmid m t (k + 1))) (fun i _ => by simp only [gV, gmid_yes m t k i hy]; split <;> rfl))
              have hs2 := Lib.hid ((hsk.setCell (p := ⟨jb, k, none⟩) (.inl (by simp)) (.int .i64 0)).setCell (p := ⟨ob + 1, k, none⟩) (.inl (by simp)) (.bool true))
              have ey : (jf m k == t) = true := by simpa using hy
              clear hjk hgk hsk hy
              generalize jf m k = y at *
              go_wp2
              go_roundw
              case rel => exact ⟨k + 1, by omega, by omega, by go_num, hj2.out, hg2.out, hs2.out⟩
              case measure => simp [intOf]; omega
            · have hj2 := Lib.hid (hjk.congr (f' := jV (jmid m t (k + 1))) (fun i _ => by simp only [jV, jmid_no m t k i hy]))
              have hg2 := Lib.hid (hgk.congr (f' := gV (gmid m t (k + 1))) (fun i _ => by simp only [gV, gmid_no m t k i hy]))
              have hs2 := Lib.hid hsk
              have ey : (jf m k == t) = false := by simpa using hy
              clear hjk hgk hsk hy
              generalize jf m k = y at *
              go_wp2
              go_roundw
              case rel => exact ⟨k + 1, by omega, by omega, by go_num, hj2.out, hg2.out, hs2.out⟩
              case measure => simp [intOf]; omega
          · have hk3 : k = 6 := by omega
            subst hk3
            obtain ⟨wq, hwq⟩ : ∃ wq, wq = wr := ⟨_, rfl⟩
            subst hwq
            rw [show ((6 : Nat) : Int) = 6 from rfl]
            have HJ2 := Lib.hid hjk
            have HG2 := Lib.hid hgk
            have HS2 := Lib.hid hsk
            clear hlt hk1 hk6 hjk hgk hsk
            go_wp2
            go_loopw [16, 17] (fun out c wz => ∃ j : Nat, j ≤ 5 ∧ c = .int .i64 ((j + 1 : Nat) : Int) ∧ Row wz 3 1 out (wantL (gmid m t 6) j).length ((wantL (gmid m t 6) j).flatMap (nE .i64)) ∧ Same [] wq wz ∧ ∀ b ∈ blk out, wq.heap.size ≤ b) (fun _ c _ => 6 - (intOf c).toNat)
            case atStart => exact ⟨0, by omega, by go_num, Row.nil _ _ _, Same.refl _ _, by simp [blk]⟩
            case round =>
              obtain ⟨j, hj5, rfl, hrw, hsz, hbo⟩ := hrel
              have HRW := Lib.hid hrw
              have HSZ := Lib.hid hsz
              have HBO := Lib.hid hbo
              by_cases hlt : j < 5
              · have c2 := (HG2.out.frame hsz (by simp)).cell (j + 1) (by omega)
                simp only [gV] at c2
                by_cases hy : gmid m t 6 (j + 1) = true
                · rw [hy] at c2
                  have hwl := wantL_yes (gmid m t 6) j hy
                  have hwn := wantL_len (gmid m t 6) j
                  have HWL := Lib.hid hwl
                  obtain ⟨wz, hwz⟩ : ∃ wz, wz = wr := ⟨_, rfl⟩
                  subst hwz
                  obtain ⟨oa, oc, rfl, -, -, -⟩ := hrw.form
                  clear hrw hsz hbo hy hwl
                  go_wp2_with (at_builtin; refine wpList_append_row _ rfl (.tmp 86) (.tmp 88) 29 rfl 3 (.int .i64 0) 1 8 Tryd.underlying29 info3 rfl (by decide) (.slice oa (wantL (gmid m t 6) j).length oc) (wantL (gmid m t 6) j).length ((wantL (gmid m t 6) j).flatMap (nE .i64)) rfl ?x1 ⟨wz.heap.size, 0, none⟩ 1 1 [.int .i64 ((j + 1 : Nat) : Int)] rfl rfl ?x2 ?x3 ?x4 ?x5 ?x6)
                  case x1 => exact HRW.out.alloc _
                  case x2 => exact cell_one_new wz (.int .i64 ((j : Int) + 1)) 3
                  case x3 => intro u hu; simp at hu; subst hu; rfl
                  case x4 => unfold maxLen; omega
                  case x5 => omega
                  case x6 =>
                    intro v' w3 hrow' hsm hbk
                    have hs3 : Same [] wq w3 := (HSZ.out.alloc (.cells #[.int .i64 ((j : Int) + 1)] 3)).trans' hsm (fun b hb => .inr (HBO.out b hb))
                    have hb3 : ∀ b ∈ blk v', wq.heap.size ≤ b := fun b hb => by
                      rcases hbk b hb with h | h
                      · exact HBO.out b h
                      · have := HSZ.out.size; omega
                    have HR3 : Hid (Row w3 3 1 v' (wantL (gmid m t 6) (j + 1)).length ((wantL (gmid m t 6) (j + 1)).flatMap (nE .i64))) := Lib.hid (by
                      rw [HWL.out, List.flatMap_append, List.length_append]
                      simpa [nE] using hrow')
                    have HS3 := Lib.hid hs3
                    have HB3 := Lib.hid hb3
                    obtain ⟨a', c', rfl, -, -, -⟩ := hrow'.form
                    clear hrow' hsm hbk hs3 hb3
                    go_wp2
                    go_roundw
                    case rel => exact ⟨j + 1, by omega, by go_num, HR3.out, HS3.out, HB3.out⟩
                    case measure => simp [intOf]; omega
                · have hy : gmid m t 6 (j + 1) = false := by simpa using hy
                  rw [hy] at c2
                  have hwl := wantL_no (gmid m t 6) j hy
                  have HR3 : Hid (Row wr 3 1 _ (wantL (gmid m t 6) (j + 1)).length ((wantL (gmid m t 6) (j + 1)).flatMap (nE .i64))) := Lib.hid (by rw [hwl]; exact hrw)
                  clear hrw hsz hbo hy hwl
                  go_wp2
                  go_roundw
                  case rel => exact ⟨j + 1, by omega, by go_num, HR3.out, HSZ.out, HBO.out⟩
                  case measure => simp [intOf]; omega
              · have hj : j = 5 := by omega
                subst hj
                rw [show ((5 + 1 : Nat) : Int) = 6 from rfl]
                obtain ⟨wz, hwz⟩ : ∃ wz, wz = wr := ⟨_, rfl⟩
                subst hwz
                have ok := HS.out.own.ok
                have hw1 := HW1.out
                have hoe := HOE.out
                have hlts := HS.out.own.rep.lt
                have hoA : Own w wa B m F := (HS.out.own.frame HW0.out (by simp)).frame HE.out.same (fun y hy hm => HS.out.gf y hm hy)
                have hoQ : Own w wq B m F := hoA.frame HS2.out (fun y hy hm => by
                  simp at hm
                  rcases hm with rfl | rfl
                  · exact HJF.out hy
                  · have := hlts _ hy; omega)
                have hoZ : Own w wz B m F := hoQ.frame hsz (by simp)
                have hwW : w.heap.size ≤ wz.heap.size := by
                  have := HS.out.hw; have := HW0.out.size; have := HE.out.same.size; have := HS2.out.size; have := hsz.size; omega
                have hE1 := own_end hoZ hwW t x e (wantL (gmid m t 6) 5) 0 (endM m t x e) (by
                  unfold endF
                  rw [if_neg (by rw [HT.out]; simp), if_neg (by rw [HGo.out]; simp), endOut_want ok x e HT.out HGo.out HS.out.nt H3.out])
                have hbox : Blk wz ob 35 [.int .i64 kd, .int .i64 k1, .int .i64 k2, .int .u64 x, .int .i64 e] := by
                  refine ((HOB.out.frame HE.out.same (fun hm => ?_)).frame HS2.out (fun hm => ?_)).frame hsz (by simp)
                  · have := HS.out.ll.lt _ hm; omega
                  · have := HJ.out.lt
                    rcases List.mem_cons.1 hm with h | h
                    · omega
                    · rcases List.mem_cons.1 h with h | h
                      · omega
                      · cases h
                have b3 : wz.cell? ⟨ob, 3, none⟩ = some (.int .u64 x) := hbox.cell 3
                have b4 : wz.cell? ⟨ob, 4, none⟩ = some (.int .i64 e) := hbox.cell 4
                have hblt := hbox.lt
                have hbF : ob ∉ F := fun hm => by have := hlts _ hm; omega
                obtain ⟨oa, oc, rfl, -, -, -⟩ := hrw.form
                have HEND := Lib.hid hE1
                have HBOX := Lib.hid hbox
                have HBF := Lib.hid hbF
                clear hE1 hbox hoA hoQ hoZ hlts hrw hsz hbo hlt hj5 hbF ok hoe hw1
                go_wp2_with fail
                refine HEND.out.mono ?_
                rintro en w4 ⟨v, F2, rfl, ho4, u4, hrow4, hbk4⟩
                obtain ⟨va, vc, rfl, -, -, -⟩ := hrow4.form
                have hwn := wantL_len (gmid m t 6) 5
                have hsi := same_ints (wantL (gmid m t 6) 5) (wantL (gmid m t 6) 5) _ _ hrow4 (HRW.out.frame u4.same (fun b hb hm => by
                  have := HBO.out b hb; have := HS.out.own.rep.lt b hm
                  have := HW0.out.size; have := HE.out.same.size; have := HS2.out.size; omega)) (by omega) (by omega)
                rw [decide_eq_true rfl] at hsi
                have HSI := Lib.hid hsi
                have hself := end_self HS.out.own.ok x e HT.out HGo.out
                have hlen := end_len m t x e
                rw [HS.out.nt, H3.out] at hlen
                have hist : (endM m t x e).is t = true := by rw [is_iff, hlen.1]; omega
                have HED : Hid (∀ w5, Same [] w4 w5 → Calls Tryd.prog 11 #[.pointer (some ⟨B, 0, none⟩), .int .i64 t] w5 fun en w' => en = .returned (.tuple #[.agg #[.bool true, .int .u64 (if e = 0 then x else 0), .int .i64 e], .int .i64 0]) ∧ Same [] w5 w') := by
                  refine Lib.hid (fun w5 h5 => ?_)
                  have := ended_any t (ho4.rep.frame h5 (by simp)) (by rw [hlen.1]; omega)
                  rw [if_pos hist, hself.1, hself.2.1, hself.2.2] at this
                  exact this
                have HO4 := Lib.hid ho4
                have HU4 := Lib.hid u4
                have HLEN := Lib.hid hlen
                have POST : Hid (∀ w8, Same [] w4 w8 → ∃ F' rvs' G', St w w8 B (endM m t x e) F' (.slice (some ⟨g0, off0, none⟩) 3 cap0) rvs' G' ∧ Tab w8 jb 3 9 (jV (jf (endM m t x e))) ∧ jb ∉ F' ∧ jb ∉ G' ∧ Same (jb :: (F ++ G)) W w8) := by
                  refine Lib.hid (fun w8 h8 => ?_)
                  have hz1 := HW0.out.size
                  have hz2 := HE.out.same.size
                  have hz3 := HS2.out.size
                  have hz4 := HSZ.out.size
                  have hz5 := u4.same.size
                  have hz6 := h8.size
                  have hw1 := HW1.out
                  have hoe := HOE.out
                  have hjb := HJ.out.lt
                  have hFlt := HS.out.own.rep.lt
                  have hGlt := HS.out.ll.lt
                  have hjG1 : jb ∉ G1 := fun hm => by
                    rcases HE.out.new _ hm with h | h
                    · exact HJG.out h
                    · omega
                  have hgF : ∀ k ∈ G1, k ∉ F := fun k hk hm => by
                    rcases HE.out.new _ hk with h | h
                    · exact HS.out.gf k h hm
                    · have := hFlt k hm; omega
                  have hllz : LL (nE .i64) 29 3 1 wz (.slice (some ⟨g0, off0, none⟩) 3 cap0) rvs1 (rowsE m t 3) G1 := (HE.out.ll.frame HS2.out (fun k hk hm => by
                    rcases List.mem_cons.1 hm with h | h
                    · rw [h] at hk; exact hjG1 hk
                    · rw [List.mem_singleton.1 h] at hk; exact HE.out.gn hk)).frame HSZ.out (by simp)
                  have hll8 := (hllz.frame u4.same hgF).frame h8 (by simp)
                  have hro : rowsOf (endM m t x e) = rowsE m t 3 := by rw [rowsOf_end HS.out.own.ok x e HT.out HGo.out, H3.out]
                  have hj8 := ((HJ2.out.frame HSZ.out (by simp)).frame u4.same HJF.out).frame h8 (by simp)
                  refine ⟨F2, rvs1, G1, ⟨ho4.frame h8 (by simp), by rw [hro]; exact hll8, u4.apart hgF hllz.lt, fun k hk => ?_, hlen.1, hlen.2, ?_⟩, hj8.congr (fun i _ => by simp only [jV, jf_end HS.out.own.ok x e HT.out HGo.out HS.out.nt]), fun hm => ?_, hjG1, ?_⟩
                  · rcases HE.out.new _ hk with h | h
                    · exact HS.out.gn k h
                    · have := HS.out.hw; omega
                  · have := HS.out.hw; omega
                  · rcases u4.new _ hm with h | h
                    · exact HJF.out h
                    · omega
                  · refine ((((HW0.out.mono (F' := jb :: (F ++ G)) (by simp)).trans' HE.out.same (fun y hy => .inl (by simp [hy]))).trans' HS2.out (fun y hy => ?_)).trans' HSZ.out (by simp)).trans' u4.same (fun y hy => .inl (by simp [hy])) |>.trans' h8 (by simp)
                    rcases List.mem_cons.1 hy with h | h
                    · exact .inl (by simp [h])
                    · rw [List.mem_singleton.1 h]; exact .inr (by omega)
                have HHH : Hid (∀ k : Nat, k < 3 → ∃ h : Int, (h == t) = false ∧ ∀ w8, Same [] w4 w8 → Calls Tryd.prog 18 #[.pointer (some ⟨B, 0, none⟩), .int .i64 k] w8 fun en w' => en = .returned (.int .i64 h) ∧ w8 = w') := by
                  refine Lib.hid (fun k hk => ?_)
                  have hlm : m.isL (k : Int) = true := by rw [isL_iff, H3.out]; omega
                  have hlm2 : (endM m t x e).isL (k : Int) = true := by rw [isL_iff, hlen.2]; omega
                  refine ⟨((endM m t x e).lo (k : Int)).ho, by simpa using end_holder HS.out.own.ok x e HT.out HGo.out k hlm, fun w8 h8 => ?_⟩
                  exact own_holder (ho4.frame h8 (by simp)) k _ (by simp [holderF, hlm2])
                clear hsi hself hlen hist hwn hrow4 ho4
                by_cases he : e = 0
                · have E2 : (e != 0) = false := by simpa using he
                  have E3 : (0 : Int) = 0 := rfl
                  have HWV : Hid ((if e = 0 then x else 0) = x) := Lib.hid (by simp [he])
                  rw [HWV.out] at HED
                  clear he
                  go_wp2_with fail
                  refine HSI.out.mono ?_
                  rintro en w5 ⟨rfl, hs5⟩
                  go_wp2_with fail
                  refine (HED.out w5 hs5).mono ?_
                  rintro en w6 ⟨rfl, hs6⟩
                  have hbx6 := (HBOX.out.frame u4.same HBF.out).frame (hs5.trans hs6) (by simp)
                  have hs46 := Lib.hid (hs5.trans hs6)
                  have HBX6 := Lib.hid hbx6
                  have b3' : w6.cell? ⟨ob, 3, none⟩ = some (.int .u64 x) := hbx6.cell 3
                  have b4' : w6.cell? ⟨ob, 4, none⟩ = some (.int .i64 e) := hbx6.cell 4
                  have hblt6 := hbx6.lt
                  clear hbx6 hs5 hs6 b3 b4 hblt
                  go_wp2
                  obtain ⟨xb, hxb⟩ : ∃ xb, xb = w6.heap.size := ⟨_, rfl⟩
                  have hb7 : Blk (w6.alloc (.cells #[.bool true, .int .u64 (x), .int .i64 e] 38)) w6.heap.size 38 [.bool true, .int .u64 (x), .int .i64 e] := Blk.new w6 38 _
                  have hs7 : Same [] w6 (w6.alloc (.cells #[.bool true, .int .u64 (x), .int .i64 e] 38)) := (Same.refl _ _).alloc _
                  rw [← hxb] at hb7 ⊢
                  generalize w6.alloc (.cells #[.bool true, .int .u64 (x), .int .i64 e] 38) = w7 at *
                  have hs47 := Lib.hid (hs46.out.trans hs7)
                  have hx4 := Lib.hid (HBX6.out.frame hs7 (by simp))
                  have HB7 := Lib.hid hb7
                  clear hb7 hs7 b3' b4' hblt6 hxb HBX6
                  go_loopw [24] (fun c w8 => ∃ k : Nat, k ≤ 3 ∧ c = .int .i64 k ∧ w8 = w7) (fun c _ => 3 - (intOf c).toNat)
                  case atStart => exact ⟨0, by omega, by go_num, rfl⟩
                  case round =>
                    obtain ⟨k, hk3, rfl, rfl⟩ := hrel
                    by_cases hlt : k < 3
                    · obtain ⟨h, hne, hcal⟩ := HHH.out k hlt
                      have HCAL := Lib.hid (hcal _ hs47.out)
                      clear hcal
                      go_wp2_with fail
                      refine HCAL.out.mono ?_
                      rintro en w9 ⟨rfl, rfl⟩
                      go_wp2
                      go_roundw
                      case rel => exact ⟨k + 1, by omega, by go_num, trivial⟩
                      case measure => simp [intOf]; omega
                    · have hk : k = 3 := by omega
                      subst hk
                      rw [show ((3 : Nat) : Int) = 3 from rfl]
                      have q0 : wr.cell? ⟨xb, 0, none⟩ = some (.bool true) := HB7.out.cell 0
                      have q1 : wr.cell? ⟨xb, 1, none⟩ = some (.int .u64 (x)) := HB7.out.cell 1
                      have q2 : wr.cell? ⟨xb, 2, none⟩ = some (.int .i64 e) := HB7.out.cell 2
                      have q4 : wr.cell? ⟨ob, 4, none⟩ = some (.int .i64 e) := hx4.out.cell 4
                      have qlt := HB7.out.lt
                      have olt := hx4.out.lt
                      go_wp2
                      go_region
                      go_wp2
                      go_ret2
                      exact ⟨rfl, POST.out _ hs47.out.drew⟩
                · have E2 : (e != 0) = true := by simpa using he
                  have E3 : (0 : Int) = 0 := rfl
                  have HWV : Hid ((if e = 0 then x else 0) = 0) := Lib.hid (by simp [he])
                  rw [HWV.out] at HED
                  clear he
                  go_wp2_with fail
                  refine HSI.out.mono ?_
                  rintro en w5 ⟨rfl, hs5⟩
                  go_wp2_with fail
                  refine (HED.out w5 hs5).mono ?_
                  rintro en w6 ⟨rfl, hs6⟩
                  have hbx6 := (HBOX.out.frame u4.same HBF.out).frame (hs5.trans hs6) (by simp)
                  have hs46 := Lib.hid (hs5.trans hs6)
                  have HBX6 := Lib.hid hbx6
                  have b3' : w6.cell? ⟨ob, 3, none⟩ = some (.int .u64 x) := hbx6.cell 3
                  have b4' : w6.cell? ⟨ob, 4, none⟩ = some (.int .i64 e) := hbx6.cell 4
                  have hblt6 := hbx6.lt
                  clear hbx6 hs5 hs6 b3 b4 hblt
                  go_wp2
                  obtain ⟨xb, hxb⟩ : ∃ xb, xb = w6.heap.size := ⟨_, rfl⟩
                  have hb7 : Blk (w6.alloc (.cells #[.bool true, .int .u64 (0), .int .i64 e] 38)) w6.heap.size 38 [.bool true, .int .u64 (0), .int .i64 e] := Blk.new w6 38 _
                  have hs7 : Same [] w6 (w6.alloc (.cells #[.bool true, .int .u64 (0), .int .i64 e] 38)) := (Same.refl _ _).alloc _
                  rw [← hxb] at hb7 ⊢
                  generalize w6.alloc (.cells #[.bool true, .int .u64 (0), .int .i64 e] 38) = w7 at *
                  have hs47 := Lib.hid (hs46.out.trans hs7)
                  have hx4 := Lib.hid (HBX6.out.frame hs7 (by simp))
                  have HB7 := Lib.hid hb7
                  clear hb7 hs7 b3' b4' hblt6 hxb HBX6
                  go_loopw [24] (fun c w8 => ∃ k : Nat, k ≤ 3 ∧ c = .int .i64 k ∧ w8 = w7) (fun c _ => 3 - (intOf c).toNat)
                  case atStart => exact ⟨0, by omega, by go_num, rfl⟩
                  case round =>
                    obtain ⟨k, hk3, rfl, rfl⟩ := hrel
                    by_cases hlt : k < 3
                    · obtain ⟨h, hne, hcal⟩ := HHH.out k hlt
                      have HCAL := Lib.hid (hcal _ hs47.out)
                      clear hcal
                      go_wp2_with fail
                      refine HCAL.out.mono ?_
                      rintro en w9 ⟨rfl, rfl⟩
                      go_wp2
                      go_roundw
                      case rel => exact ⟨k + 1, by omega, by go_num, trivial⟩
                      case measure => simp [intOf]; omega
                    · have hk : k = 3 := by omega
                      subst hk
                      rw [show ((3 : Nat) : Int) = 3 from rfl]
                      have q0 : wr.cell? ⟨xb, 0, none⟩ = some (.bool true) := HB7.out.cell 0
                      have q1 : wr.cell? ⟨xb, 1, none⟩ = some (.int .u64 (0)) := HB7.out.cell 1
                      have q2 : wr.cell? ⟨xb, 2, none⟩ = some (.int .i64 e) := HB7.out.cell 2
                      have q4 : wr.cell? ⟨ob, 4, none⟩ = some (.int .i64 e) := hx4.out.cell 4
                      have qlt := HB7.out.lt
                      have olt := hx4.out.lt
                      go_wp2
                      go_region
                      go_wp2
                      go_ret2
                      exact ⟨rfl, POST.out _ hs47.out.drew⟩
end Lk
end Go.Proofs.YtkfdoocmapjkbaaDoor
