/- Layer 19, LocksDoes: the walk. -/
import Derived.Test.YtkfdoocmapjkbaaDoorLdM
import Derived.Test.YtkfdoocmapjkbaaDoorLsW
import Derived.StillTailTactics
namespace Go.Proofs.YtkfdoocmapjkbaaDoor
open Go.RowKit Hp
namespace Lk
variable {w w' W : World}

theorem info24 : (Tryd.prog.info? 24).map (fun i => (i.zero, i.size, i.bytes)) = some (some (.pointer none), 1, 8) := by kernel_rfl
theorem info51 : (Tryd.prog.info? 51).map (fun i => (i.zero, i.size, i.bytes)) = some (some (.pointer none), 1, 8) := by kernel_rfl

theorem row_cell {e : TypeId} {g o n c : Nat} {xs : List Value} (h : Row W e 1 (.slice (some ⟨g, o, none⟩) n c) n xs) (i : Nat) (hi : i < n) : W.cell? ⟨g, o + i, none⟩ = xs[i]? := by
  obtain ⟨g', o', c', e1, _, _, hc, _⟩ := h.at_ (by omega)
  injection e1 with a1 _ _
  injection a1 with a1
  injection a1 with a1 a2 _
  subst a1 a2
  exact hc i (by omega)

/-- What stands when a loop begins. -/
def Bks2 (w W : World) (N D : Nat) (ls : List (List Int)) (V : List Nat) (bv rv : Value) (B R : Nat → Nat) : Prop := ∃ m F G, Many w W N B R D m ls F G V bv rv

set_option maxHeartbeats 3200000 in
set_option maxRecDepth 100000 in
theorem does_any (L G O : Int) (v : Value) (n : Nat) (hs : Sc w v n) (hb : Bnd w) : Calls Tryd.prog 6 #[.agg #[.int .i64 L, .int .i64 G, .int .i64 O, v]] w fun e w' => e = .returned (.bool true) ∧ Same [] w w' := by
  obtain ⟨A, c, rfl, hnc, hcm, hops⟩ := hs
  have HO := Lib.hid hops
  have HB := Lib.hid hb
  clear hops hb
  by_cases g1 : (20000 : Int) < n
  · go_enter Tryd.func6, Tryd.ntmps6
    go_wp2
    go_ret
    exact ⟨rfl, (Same.refl _ _).alloc _⟩
  have g1' : (n : Int) ≤ 20000 := by omega
  clear g1
  go_enter Tryd.func6, Tryd.ntmps6
  obtain ⟨W0, hW0⟩ : ∃ W0, W0 = w.alloc (.cells #[.int .i64 L, .int .i64 G, .int .i64 O, .slice A n c] 78) := ⟨_, rfl⟩
  have hs0 : Same [] w W0 := by rw [hW0]; exact (Same.refl _ _).alloc _
  have hb0 : Blk W0 w.heap.size 78 [.int .i64 L, .int .i64 G, .int .i64 O, .slice A n c] := by rw [hW0]; exact Blk.new w 78 _
  have HW0 := Lib.hid hW0
  have HS0 := Lib.hid hs0
  have HB0 := Lib.hid hb0
  have HK := Lib.hid (known_any (HB.out.frame hs0 (by simp)))
  clear hW0 hs0 hb0
  go_wp2_with fail
  rw [← HW0.out]
  refine HK.out.mono ?_
  rintro en w1 ⟨rfl, hk1⟩
  obtain ⟨tb, htb⟩ : ∃ tb, tb = w.heap.size := ⟨_, rfl⟩
  have HT1 : Hid (Blk w1 tb 78 [.int .i64 L, .int .i64 G, .int .i64 O, .slice A n c]) := Lib.hid (by rw [htb]; exact HB0.out.frame hk1 (by simp))
  have HS1 : Hid (Same [] w w1) := Lib.hid (HS0.out.trans hk1)
  have HB1 : Hid (Bnd w1) := Lib.hid ((HB.out.frame HS0.out (by simp)).frame hk1 (by simp))
  rw [← htb]
  clear hk1 htb
  obtain ⟨w2, hw2⟩ : ∃ w2, w2 = w1.alloc (.cells #[.slice none 0 0, .slice none 0 0, .slice none 0 0, .slice none 0 0, .slice none 0 0, .slice none 0 0, .slice none 0 0, .slice none 0 0, .slice none 0 0, .slice none 0 0, .slice none 0 0, .slice none 0 0, .slice none 0 0, .slice none 0 0, .slice none 0 0, .slice none 0 0, .slice none 0 0] 74) := ⟨_, rfl⟩
  obtain ⟨D, hD⟩ : ∃ D, D = w1.heap.size := ⟨_, rfl⟩
  have hm2 : Many w1 w2 0 (fun _ => 0) (fun _ => 0) D (fun _ => newM 0 0) [] (fun _ => []) (fun _ => []) [] (.slice none 0 0) (.slice none 0 0) := by
    refine ⟨⟨_, [], by rw [hw2, hD]; exact Blk.new w1 74 (cs17 (.slice none 0 0)), LL.nil _⟩, by simp, by rw [hD]; exact Nat.le_refl _, by simp, fun j hj => by omega, fun j hj => by omega, fun j hj => by omega, fun a b ha => by omega, Row.nil _ _ _, Row.nil _ _ _, by simp [blk]⟩
  have hs2 : Same [] w1 w2 := by rw [hw2]; exact (Same.refl _ _).alloc _
  have HW2 := Lib.hid hw2
  have HDD := Lib.hid hD
  have HM2 := Lib.hid hm2
  have HS2 := Lib.hid hs2
  clear hw2 hD hm2 hs2
  go_wp2
  rw [← HW2.out, ← HDD.out]
  go_loopw [3, 8, 9, 10] (fun mv bv rv iv wr => ∃ (i N : Nat) (B R : Nat → Nat), i ≤ 2 ∧ iv = .int .i64 i ∧ mv = .int .i64 (if i = 0 then L else O) ∧ N ≤ i ∧ Bks2 w1 wr N D [] [] bv rv B R ∧ Same [] w1 wr) (fun _ _ _ iv _ => 2 - (intOf iv).toNat)
  case atStart => exact ⟨0, 0, _, _, by omega, rfl, by simp, by omega, ⟨_, _, _, HM2.out⟩, HS2.out⟩
  case round =>
    obtain ⟨i, N, B, R, hi, rfl, rfl, hNi, hbk, hsr⟩ := hrel
    obtain ⟨m, F, Gf, hm⟩ := hbk
    obtain ⟨ba, bc, rfl, hbl, hbm, -⟩ := hm.bs.form
    obtain ⟨ra, rc, rfl, hrl, hrm, -⟩ := hm.rs.form
    by_cases hlt : i < 2
    · have hlt' : (i : Int) < 2 := by omega
      obtain ⟨M, hM⟩ : ∃ M, M = (if i = 0 then L else O) := ⟨_, rfl⟩
      rw [← hM]
      have t2 : wr.cell? ⟨tb, 2, none⟩ = some (.int .i64 O) := (HT1.out.frame hsr (by simp)).cell 2
      have hO : (if i + 1 = 0 then L else O) = O := if_neg (by omega)
      have HOO := Lib.hid hO
      have HMN := Lib.hid hm
      have HSR := Lib.hid hsr
      have HBR : Hid (Bnd wr) := Lib.hid (HB1.out.frame hsr (by simp))
      clear hm hsr hM hO
      by_cases hok : newOk M G = true
      · simp only [newOk, decide_eq_true_eq] at hok
        obtain ⟨k1, k2, k3, k4⟩ := hok
        obtain ⟨l, rfl⟩ : ∃ l : Nat, M = (l : Int) := ⟨M.toNat, by omega⟩
        obtain ⟨g, rfl⟩ : ∃ g : Nat, G = (g : Int) := ⟨G.toNat, by omega⟩
        have HN1 := Lib.hid (own_new (w := w1) (W := wr) l g (by omega) (by omega) HSR.out.size HBR.out)
        go_wp2_with fail
        refine HN1.out.mono ?_
        rintro en w3 ⟨b, Fb, rfl, ho, u⟩
        have hFn : ∀ k ∈ Fb, wr.heap.size ≤ k := fun k hk => by
          rcases u.new k hk with h | h
          · cases h
          · exact h
        have HN2 := Lib.hid (r_new (w := w3) l g (by omega) (by omega) (HBR.out.frame u.same (by simp)))
        have HOW := Lib.hid ho
        have HFN := Lib.hid hFn
        have HU := Lib.hid u.same
        clear ho u hFn
        go_wp2_with fail
        refine HN2.out.mono ?_
        rintro en w4 ⟨r, Gr, rfl, hr, hs4, hGn⟩
        have HP : Hid (Pair w1 w4 b r (newM l g) (newM l g) Fb Gr) := Lib.hid ⟨HOW.out.frame hs4 (by simp), newM_ok l g (by omega) (by omega), (fun t ht => by have := (is_iff _ t).1 ht; simp [newM] at this; omega), hr, fun k hk => by have := hGn k hk; have := HU.out.size; have := HSR.out.size; omega, fun k hk hm => by have := HOW.out.rep.lt k hk; have := hGn k hm; omega⟩
        have HGN : Hid (∀ k ∈ Gr, wr.heap.size ≤ k) := Lib.hid (fun k hk => by have := hGn k hk; have := HU.out.size; omega)
        have HS4 : Hid (Same [] wr w4) := Lib.hid (HU.out.trans hs4)
        clear hr hs4 hGn
        go_wp2_with (first
          | (at_builtin; refine wpList_append_row _ rfl (.tmp 59) (.tmp 61) 79 rfl 24 (.pointer none) 1 8 Tryd.underlying79 info24 rfl (by decide) (.slice ba N bc) N (ptrs N B) rfl ?a1 ⟨w4.heap.size, 0, none⟩ 1 1 [.pointer (some ⟨b, 0, none⟩)] rfl rfl ?a2 ?a3 ?a4 ?a5 ?a6))
        case a1 => exact (HMN.out.bs.frame HS4.out (by simp)).alloc _
        case a2 => exact cell_one_new w4 (.pointer (some ⟨b, 0, none⟩)) 24
        case a3 => intro u hu; simp at hu; subst hu; rfl
        case a4 => unfold maxLen; omega
        case a5 => omega
        case a6 =>
          intro bv' w5 hrow5 hs5 hb5
          have hsz4 : wr.heap.size ≤ w4.heap.size := HS4.out.size
          have hs45 : Same (blk (.slice ba N bc)) w4 w5 := ((Same.refl _ _).alloc _).trans hs5
          have hb5' : ∀ k ∈ blk bv', k ∈ blk (.slice ba N bc) ∨ w4.heap.size ≤ k := fun k hk => by
            rcases hb5 k hk with h | h
            · exact .inl h
            · exact .inr (by omega)
          have hrow5' : Row w5 24 1 bv' (N + 1) (ptrs N B ++ [.pointer (some ⟨b, 0, none⟩)]) := by simpa using hrow5
          have hrs4 := HMN.out.rs.frame HS4.out (by simp)
          have hrs5 : Row w5 51 1 (.slice ra N rc) N (ptrs N R) := hrs4.frame hs45 (fun y hy hm => (HMN.out.bs.frame HS4.out (by simp)).ne hrs4 (by decide) y hm hy)
          have hlb : ∀ k ∈ blk (.slice ba N bc), k < wr.heap.size := HMN.out.bs.lt
          have hlr : ∀ k ∈ blk (.slice ra N rc), k < wr.heap.size := HMN.out.rs.lt
          have hp5 : Pair w1 w5 b r (newM l g) (newM l g) Fb Gr := HP.out.frame hs45 (fun k hk hm => by have := HFN.out k hk; have := hlb k hm; omega) (fun k hk hm => by have := HGN.out k hk; have := hlb k hm; omega)
          have H45 := Lib.hid hs45
          have HB5 := Lib.hid hb5'
          have HROW5 := Lib.hid hrow5'
          have HRS5 := Lib.hid hrs5
          have HLB := Lib.hid hlb
          have HLR := Lib.hid hlr
          have HP5 := Lib.hid hp5
          have HFL : Hid (∀ k, k ∈ Fb ∨ k ∈ Gr → wr.heap.size ≤ k ∧ k < w4.heap.size) := Lib.hid (fun k hk => by
            rcases hk with hk | hk
            · exact ⟨HFN.out k hk, HP.out.b.rep.lt k hk⟩
            · exact ⟨HGN.out k hk, HP.out.r.lt k hk⟩)
          obtain ⟨b5a, b5c, rfl, -, -, -⟩ := hrow5.form
          clear hs5 hb5 hrow5 hs45 hb5' hrow5' hrs4 hrs5 hlb hlr hp5
          go_wp2_with (first
            | (at_builtin; refine wpList_append_row _ rfl (.tmp 63) (.tmp 65) 80 rfl 51 (.pointer none) 1 8 Tryd.underlying80 info51 rfl (by decide) (.slice ra N rc) N (ptrs N R) rfl ?b1 ⟨w5.heap.size, 0, none⟩ 1 1 [.pointer (some ⟨r, 0, none⟩)] rfl rfl ?b2 ?b3 ?b4 ?b5 ?b6))
          case b1 => exact HRS5.out.alloc _
          case b2 => exact cell_one_new w5 (.pointer (some ⟨r, 0, none⟩)) 51
          case b3 => intro u hu; simp at hu; subst hu; rfl
          case b4 => unfold maxLen; omega
          case b5 => omega
          case b6 =>
            intro rv' w6 hrow6 hs6 hb6
            have hs56 : Same (blk (.slice ra N rc)) w5 w6 := ((Same.refl _ _).alloc _).trans hs6
            have hsz5 := H45.out.size
            have hrow6' : Row w6 51 1 rv' (N + 1) (ptrs N R ++ [.pointer (some ⟨r, 0, none⟩)]) := by simpa using hrow6
            have hrow5'' := HROW5.out.frame hs56 (fun y hy hm => HROW5.out.ne HRS5.out (by decide) y hy hm)
            have hp6 := HP5.out.frame hs56 (fun k hk hm => by have := (HFL.out k (.inl hk)).1; have := HLR.out k hm; omega) (fun k hk hm => by have := (HFL.out k (.inr hk)).1; have := HLR.out k hm; omega)
            have hsall : Same (blk (.slice ba N bc) ++ blk (.slice ra N rc)) wr w6 := ((HS4.out.mono (by simp)).trans' H45.out (fun k hk => .inl (List.mem_append_left _ hk))).trans' hs56 (fun k hk => .inl (List.mem_append_right _ hk))
            have hb6' : ∀ k ∈ blk rv', k ∈ blk (.slice ra N rc) ∨ w5.heap.size ≤ k := fun k hk => by
              rcases hb6 k hk with h | h
              · exact .inl h
              · exact .inr (by omega)
            have hadd := HMN.out.add HSR.out.size hp6 (fun k hk => (HFL.out k (.inl hk)).1) (fun k hk => (HFL.out k (.inr hk)).1) hsall hrow5'' hrow6'
              (fun x hx => by
                rcases hx with hx | hx
                · rcases HB5.out x hx with h | h
                  · exact .inl (.inl h)
                  · exact .inr (by omega)
                · rcases hb6' x hx with h | h
                  · exact .inl (.inr h)
                  · exact .inr (by omega))
              (fun x hx => by
                have hno : ∀ k, k ∈ Fb ∨ k ∈ Gr → k ≠ x := fun k hk e => by
                  subst e
                  have h1 := HFL.out k hk
                  rcases hx with hx | hx
                  · rcases HB5.out k hx with h | h
                    · have := HLB.out k h; omega
                    · omega
                  · rcases hb6' k hx with h | h
                    · have := HLR.out k h; omega
                    · omega
                exact ⟨fun h => hno x (.inl h) rfl, fun h => hno x (.inr h) rfl⟩)
            have hs16 : Same [] w1 w6 := HSR.out.trans' hsall (fun k hk => .inr (by
              rcases List.mem_append.1 hk with h | h
              · exact (HMN.out.xn k (.inl h)).1
              · exact (HMN.out.xn k (.inr h)).1))
            have t2' : w6.cell? ⟨tb, 2, none⟩ = some (.int .i64 O) := (HT1.out.frame hs16 (by simp)).cell 2
            have HADD := Lib.hid hadd
            have HS16 := Lib.hid hs16
            obtain ⟨r6a, r6c, rfl, -, -, -⟩ := hrow6.form
            clear hrow6 hs6 hb6 hs56 hrow6' hrow5'' hp6 hsall hb6' hadd hs16 t2
            go_wp2
            go_roundw
            case rel => exact ⟨i + 1, N + 1, _, _, by omega, by go_num, by rw [HOO.out], by omega, ⟨_, _, _, HADD.out⟩, HS16.out⟩
            case measure => simp [intOf]; omega
      · have hbad : newOk M G = false := by simpa using hok
        have HN1 := Lib.hid (new_bad (w := wr) M G hbad)
        have HN2 := Lib.hid (r_new_bad (w := wr) M G hbad)
        clear hok hbad
        go_wp2_with fail
        refine HN1.out.mono ?_
        rintro en w3 ⟨rfl, rfl⟩
        go_wp2_with fail
        refine HN2.out.mono ?_
        rintro en w3 ⟨rfl, rfl⟩
        go_wp2
        go_roundw
        case rel => exact ⟨i + 1, N, B, R, by omega, by go_num, by rw [HOO.out], by omega, ⟨_, _, _, HMN.out⟩, HSR.out⟩
        case measure => simp [intOf]; omega
    · have hi2 : i = 2 := by omega
      subst hi2
      by_cases hN : N = 0
      · subst hN
        have HF := Lib.hid (HS1.out.trans hsr)
        clear hm hsr hlt
        rw [show ((2 : Nat) : Int) = 2 from rfl]
        go_wp2
        go_ret
        exact ⟨rfl, HF.out⟩
      have hN1 : 1 ≤ N := by omega
      have hNI : ((N : Int) == 0) = false := by simp; omega
      have hNZ : (N : Int) ≠ 0 := by omega
      obtain ⟨gb, ob, cb, eb, -, hgb, -, -⟩ := hm.bs.at_ (by omega)
      injection eb with eb _ eb2
      subst eb eb2
      obtain ⟨gr, or_, cr, er, -, hgr, -, -⟩ := hm.rs.at_ (by omega)
      injection er with er _ er2
      subst er er2
      have HMM := Lib.hid hm
      have HSR := Lib.hid hsr
      obtain ⟨wa, hwa⟩ : ∃ wa, wa = wr := ⟨_, rfl⟩
      subst hwa
      rw [show ((2 : Nat) : Int) = 2 from rfl]
      obtain ⟨M, hM⟩ : ∃ M, M = (if 2 = 0 then L else O) := ⟨_, rfl⟩
      clear hm hsr hlt hi hN hM
      go_wp2
      go_loopw [15, 16] (fun kv iv wr => ∃ (kk i : Nat) (ls : List (List Int)) (V : List Nat), i ≤ n ∧ kv = .int .i64 kk ∧ iv = .int .i64 i ∧ kk < N ∧ Bks2 w1 wr N D ls V (.slice (some ⟨gb, ob, none⟩) N bc) (.slice (some ⟨gr, or_, none⟩) N rc) B R ∧ Same [] w1 wr ∧ ls.length ≤ 2 * i ∧ ∀ l ∈ ls, l.length ≤ 8) (fun _ iv _ => n - (intOf iv).toNat)
      case atStart => exact ⟨0, 0, [], [], Nat.zero_le _, rfl, rfl, by omega, ⟨_, _, _, HMM.out⟩, HSR.out, by simp, by simp⟩
      case round =>
        obtain ⟨kk, i, ls, V, hi, rfl, rfl, hkk, hbk, hsr, hls, hl8⟩ := hrel
        obtain ⟨m2, F2, G2, hm⟩ := hbk
        have hsw := HS1.out.trans hsr
        by_cases hlt : i < n
        · have i1 : (i : Int) < n := by omega
          obtain ⟨a, ha, hblt, kd, t, x1, x, e, -, ht, hx1, f0, f1, f2, f3, f4⟩ := HO.out i hlt
          have hfr : ∀ b : Addr, b.block = (a.add (i * 5)).block → w.cell? b = wr.cell? b := fun b hb => (World.cell?_of_block (w := w) (a := b) (hsw.block b.block (by rw [hb]; exact hblt) (by simp))).symm
          rw [hfr _ rfl] at f0
          rw [hfr ⟨(a.add (i * 5)).block, (a.add (i * 5)).off + 1, none⟩ rfl] at f1
          rw [hfr ⟨(a.add (i * 5)).block, (a.add (i * 5)).off + 2, none⟩ rfl] at f2
          rw [hfr ⟨(a.add (i * 5)).block, (a.add (i * 5)).off + 3, none⟩ rfl] at f3
          rw [hfr ⟨(a.add (i * 5)).block, (a.add (i * 5)).off + 4, none⟩ rfl] at f4
          have hblt' : (a.add (i * 5)).block < wr.heap.size := Nat.lt_of_lt_of_le hblt hsw.size
          subst ha
          have j1 : (kk : Int) < N := by omega
          have HMR := Lib.hid hm
          have HSX := Lib.hid hsr
          have HL8 := Lib.hid hl8
          have HLS := Lib.hid hls
          clear hm hsr hl8 hls hsw hfr hblt ht hx1
          by_cases k8 : kd = 8
          · subst k8
            obtain ⟨k2, hk2, hk2N⟩ : ∃ k2 : Nat, ((kk : Int) + 1).tmod (N : Int) = k2 ∧ k2 < N := by
              refine ⟨(((kk : Int) + 1).tmod (N : Int)).toNat, ?_, ?_⟩
              · rw [Int.toNat_of_nonneg (Int.tmod_nonneg _ (by omega))]
              · have := Int.tmod_lt_of_pos ((kk : Int) + 1) (show (0 : Int) < N by omega)
                omega
            clear f1 f2 f3 f4
            go_wp2
            go_roundw
            case rel => exact ⟨k2, i + 1, ls, V, by omega, by first | rfl | (rw [hk2]), by go_num, hk2N, ⟨_, _, _, HMR.out⟩, HSX.out, by have := HLS.out; omega, HL8.out⟩
            case measure => simp [intOf]; omega
          · have e8 : (kd == 8) = false := by simpa using k8
            clear k8
            have hmd := HMR.out.quiet ((Same.refl [] wr).drew)
            have hlm : ls.length ≤ 1000000 := by have := HLS.out; omega
            have qb : wr.cell? ⟨gb, ob + kk, none⟩ = some (.pointer (some ⟨B kk, 0, none⟩)) := (row_cell HMR.out.bs kk hkk).trans (ptrs_get _ _ _ hkk)
            have qr : wr.cell? ⟨gr, or_ + kk, none⟩ = some (.pointer (some ⟨R kk, 0, none⟩)) := (row_cell HMR.out.rs kk hkk).trans (ptrs_get _ _ _ hkk)
            have HST := Lib.hid (step_any (W := wr.drew) kd t x1 x e (hmd.trio kk hkk) (Nat.le_trans HSX.out.size ((Same.refl [] wr).drew).size) hlm)
            have HMD := Lib.hid hmd
            clear hmd hlm
            go_wp2
            go_still_tail 13, (by kernel_rfl)
            change wpList _ _ _ _ _ wr.drew
            go_wp2_with fail
            refine HST.out.mono ?_
            rintro en w5 ⟨cc, rfl, hcc, hst⟩
            obtain rfl : cc = true := hcc (by first | trivial | rfl)
            obtain ⟨F', G', V', ls', hmn, ⟨hl1, hl2⟩, hbel, hsame⟩ := HMD.out.step kk hkk hst
            have HMN2 := Lib.hid hmn
            have HS5 : Hid (Same [] w1 w5) := Lib.hid ((HSX.out.drew).trans' hsame (fun y hy => .inr (Nat.le_of_not_lt (fun hlt2 => hbel y hlt2 hy))))
            have HL5 : Hid (ls'.length ≤ 2 * i + 1 ∧ ∀ l ∈ ls', l.length ≤ 8) := Lib.hid ⟨by have := HLS.out; omega, fun l hl => by
              rcases hl2 l hl with h | h
              · exact HL8.out l h
              · exact h⟩
            have qb5 : w5.cell? ⟨gb, ob + kk, none⟩ = some (.pointer (some ⟨B kk, 0, none⟩)) := (row_cell hmn.bs kk hkk).trans (ptrs_get _ _ _ hkk)
            have qr5 : w5.cell? ⟨gr, or_ + kk, none⟩ = some (.pointer (some ⟨R kk, 0, none⟩)) := (row_cell hmn.rs kk hkk).trans (ptrs_get _ _ _ hkk)
            have hmd5 := hmn.quiet ((Same.refl [] w5).drew)
            have ht5 := hmd5.trio kk hkk
            rw [upd_same, upd_same, upd_same] at ht5
            have HTL := Lib.hid (tells_any (W := w5.drew) ht5 (Nat.le_trans HS5.out.size ((Same.refl [] w5).drew).size) (by have := HL5.out.1; omega))
            have HMD5 := Lib.hid hmd5
            clear hmn hl1 hl2 hbel hsame hst hcc hmd5 ht5 qb qr f0 f1 f2 f3 f4 hblt'
            go_wp2
            go_still_tail 9, (by kernel_rfl)
            change wpList _ _ _ _ _ w5.drew
            go_wp2_with fail
            refine HTL.out.mono ?_
            rintro en w6 ⟨rfl, hst6⟩
            have hst6' : Stepped w1 w5.drew w6 (B kk) (R kk) D (stepM (m2 kk) kd t x1 x e) (stepM (m2 kk) kd t x1 x e) ls' ((upd F2 kk F') kk) ((upd G2 kk G') kk) V' := by rw [upd_same, upd_same]; exact hst6
            obtain ⟨F'', G'', V'', ls'', hmn6, ⟨hl61, hl62⟩, hbel6, hsame6⟩ := HMD5.out.step kk hkk hst6'
            have HMN6 := Lib.hid hmn6
            have HS6 : Hid (Same [] w1 w6) := Lib.hid ((HS5.out.drew).trans' hsame6 (fun y hy => .inr (Nat.le_of_not_lt (fun hlt2 => hbel6 y hlt2 hy))))
            have HL6 : Hid (ls''.length ≤ 2 * (i + 1) ∧ ∀ l ∈ ls'', l.length ≤ 8) := Lib.hid ⟨by have := HL5.out.1; omega, fun l hl => by
              rcases hl62 l hl with h | h
              · exact HL5.out.2 l h
              · exact h⟩
            clear hst6 hst6' hmn6 hl61 hl62 hbel6 hsame6 qb5 qr5
            go_wp2
            go_roundw
            case rel => exact ⟨kk, i + 1, ls'', V'', by omega, rfl, by go_num, hkk, ⟨_, _, _, HMN6.out⟩, HS6.out, HL6.out.1, HL6.out.2⟩
            case measure => simp [intOf]; omega
        · have hge : (n : Int) ≤ (i : Int) := by omega
          have HOW := Lib.hid (own_book hm.i hm.dV (by omega) (fun l hl => Nat.le_trans (hl8 l hl) (by omega)))
          have HSE : Hid (∀ w9, Same V wr w9 → Same [] w w9) := Lib.hid (fun w9 h9 => hsw.trans' h9 (fun y hy => .inr (by have := hm.vn y hy; have := HS1.out.size; omega)))
          clear hm hsw hsr hl8 hlt
          go_wp2_with fail
          refine HOW.out.mono ?_
          rintro en w9 ⟨rfl, hs9⟩
          go_wp2
          go_ret
          exact ⟨rfl, HSE.out _ hs9⟩
end Lk
end Go.Proofs.YtkfdoocmapjkbaaDoor
