/- ownInts: lists of numbers that share no memory, nor room behind. -/
import Derived.Test.YtkfdoocmapjkbaaDoorLrK
import Derived.Test.YtkfdoocmapjkbaaDoorHpFam
namespace Go.Proofs.YtkfdoocmapjkbaaDoor
open Go.RowKit Hp
namespace Lk
variable {w w' W : World} {ro : Value} {rvs : List Value} {N : Nat} {n : Nat → Nat} {c : Nat → Nat → Int} {V : List Nat}

def mkv (i k : Nat) : Int := (i : Int) * 1000 + k
def lgv (n i k : Nat) : Int := if k < n then (i : Int) * 1000 + k else (-1 - (i : Int)) * 1000 + ((k : Int) - n)
theorem lgv_lo {n i k : Nat} (h : k < n) : lgv n i k = mkv i k := by unfold lgv mkv; rw [if_pos h]
theorem lgv_hi (n i k : Nat) : lgv n i (n + k) = (-1 - (i : Int)) * 1000 + k := by
  unfold lgv; rw [if_neg (by omega)]; congr 1; omega

/-- The lists grown, so far. -/
structure Lg (w0 : Nat) (wr : World) (ro : Value) (rvs : List Value) (N : Nat) (n : Nat → Nat) (V : List Nat) (i : Nat) (lo : Value) (lvs : List Value) : Prop where
  f : Fam .i64 29 3 wr ro rvs N n mkv V
  top : Row wr 29 1 lo i lvs
  topN : ∀ x ∈ blk lo, w0 ≤ x
  rows : ∀ a, a < i → Row wr 3 1 (lvs.getD a undef) (n a + 16) (nums .i64 (n a + 16) (lgv (n a) a))
  own : ∀ a, a < i → ∀ x ∈ blk (lvs.getD a undef), x ∈ blk (rvs.getD a undef) ∨ w0 ≤ x
  apart : ∀ a b, a < i → b < i → a ≠ b → ∀ x ∈ blk (lvs.getD a undef), x ∉ blk (lvs.getD b undef)

/-- The i-th list, grown by k. -/
structure Lx (w0 : Nat) (wr : World) (ro : Value) (rvs : List Value) (N : Nat) (n : Nat → Nat) (V : List Nat) (i : Nat) (lo : Value) (lvs : List Value) (k : Nat) (x : Value) : Prop where
  l : Lg w0 wr ro rvs N n V i lo lvs
  row : Row wr 3 1 x (n i + k) (nums .i64 (n i + k) (lgv (n i) i))
  at_ : (∃ A C, rvs.getD i undef = .slice A (n i) C ∧ x = .slice A (n i + k) C) ∨ ∀ y ∈ blk x, w0 ≤ y
  off : ∀ a, a < i → ∀ y ∈ blk x, y ∉ blk (lvs.getD a undef)

section
variable {w0 : Nat} {wr w1 : World} {lo x x' : Value} {lvs : List Value} {i k : Nat}

theorem Lx.own (h : Lx w0 wr ro rvs N n V i lo lvs k x) : ∀ y ∈ blk x, y ∈ blk (rvs.getD i undef) ∨ w0 ≤ y := fun y hy => by
  rcases h.at_ with ⟨A, C, e1, e2⟩ | h
  · left
    rw [e1]
    rw [e2] at hy
    cases A with
    | none => exact hy
    | some a => exact hy
  · exact .inr (h y hy)

theorem Lg.start (h : Lg w0 wr ro rvs N n V i lo lvs) (hi : i < N) (hV : ∀ x ∈ V, x < w0) : Lx w0 wr ro rvs N n V i lo lvs 0 (rvs.getD i undef) := by
  obtain ⟨A, C, e, -, -, -⟩ := (h.f.rows i hi).form
  refine ⟨h, ?_, .inl ⟨A, C, e, e⟩, fun a ha y hy hm => ?_⟩
  · have := h.f.rows i hi
    rw [Nat.add_zero, nums_congr .i64 (n i) (c := mkv i) (fun j hj => lgv_lo hj)]
    exact this
  · rcases h.own a ha y hm with h1 | h1
    · exact h.f.apart i a hi (by omega) (by omega) y hy h1
    · have := hV y (h.f.rowIn i hi y hy); omega

/-- Nothing of what is told is touched by an append to x. -/
theorem Lg.keep {F : List Nat} (h : Lg w0 wr ro rvs N n V i lo lvs) (hs : Same F wr w1) (hro : ∀ y ∈ blk ro, y ∉ F) (hlo : ∀ y ∈ blk lo, y ∉ F) (hr : ∀ a, a < N → a ≠ i → ∀ y ∈ blk (rvs.getD a undef), y ∉ F)
    (hri : Row w1 3 1 (rvs.getD i undef) (n i) (nums .i64 (n i) (mkv i))) (hl : ∀ a, a < i → ∀ y ∈ blk (lvs.getD a undef), y ∉ F) : Lg w0 w1 ro rvs N n V i lo lvs :=
  ⟨⟨h.f.top.frame hs hro, fun a ha => by
      by_cases e : a = i
      · subst e; exact hri
      · exact (h.f.rows a ha).frame hs (hr a ha e), h.f.apart, h.f.topIn, h.f.rowIn⟩,
    h.top.frame hs hlo, h.topN, fun a ha => (h.rows a ha).frame hs (hl a ha), h.own, h.apart⟩

theorem Lx.step (h : Lx w0 wr ro rvs N n V i lo lvs k x) (hi : i < N) (hV : ∀ y ∈ V, y < w0) (hw : w0 ≤ wr.heap.size) (hr : Row w1 3 1 x' (n i + k + 1) (nums .i64 (n i + (k + 1)) (lgv (n i) i)))
    (hc : (∃ A C, x = .slice A (n i + k) C ∧ x' = .slice A (n i + k + 1) C) ∧ Same (blk x) wr w1 ∨ Same [] wr w1 ∧ ∀ y ∈ blk x', wr.heap.size ≤ y) :
    Lx w0 w1 ro rvs N n V i lo lvs (k + 1) x' := by
  have hblk : ∀ (A : Option Addr) (a b c d : Nat), blk (.slice A a b) = blk (.slice A c d) := fun A a b c d => by cases A <;> rfl
  have hlr := h.l.f.rows i hi
  rcases hc with ⟨⟨A, C, e1, e2⟩, hs⟩ | ⟨hs, hnew⟩
  · have hbx : blk x' = blk x := by rw [e1, e2]; exact hblk A _ _ _ _
    have hrow : Row w1 3 1 (rvs.getD i undef) (n i) (nums .i64 (n i) (mkv i)) := by
      rcases h.at_ with ⟨A2, C2, q1, q2⟩ | hn
      · rw [q2] at e1
        injection e1 with a1 _ a3
        subst a1 a3
        rw [e2] at hr
        have hr2 : Row w1 3 1 (.slice A2 (n i + k + 1) C2) (n i + k + 1) (nums .i64 (n i + (k + 1)) (lgv (n i) i)) := hr
        have := hr2.pre (k := n i) (by omega)
        rw [Nat.mul_one, nums_take _ _ _ _ (by omega), nums_congr .i64 (n i) (c := mkv i) (fun j hj => lgv_lo hj)] at this
        rw [q1]; exact this
      · refine hlr.frame hs (fun y hy hm => ?_)
        have := hn y hm
        have := hV y (h.l.f.rowIn i hi y hy)
        omega
    refine ⟨h.l.keep hs (fun y hy hm => ?_) (fun y hy hm => ?_) (fun a ha hne y hy hm => ?_) hrow (fun a ha y hy hm => h.off a ha y hm hy), hr, ?_, fun a ha y hy => by rw [hbx] at hy; exact h.off a ha y hy⟩
    · exact h.l.f.top.ne h.row (by decide) y hy hm
    · exact h.l.top.ne h.row (by decide) y hy hm
    · rcases h.own y hm with h1 | h1
      · exact h.l.f.apart a i ha hi hne y hy h1
      · have := hV y (h.l.f.rowIn a ha y hy); omega
    · rcases h.at_ with ⟨A2, C2, q1, q2⟩ | hn
      · rw [q2] at e1
        injection e1 with a1 _ a3
        subst a1 a3
        exact .inl ⟨_, _, q1, e2⟩
      · exact .inr (fun y hy => hn y (by rw [← hbx]; exact hy))
  · refine ⟨h.l.keep hs (by simp) (by simp) (by simp) (hlr.frame hs (by simp)) (by simp), hr, .inr (fun y hy => Nat.le_trans hw (hnew y hy)), fun a ha y hy hm => ?_⟩
    have := hnew y hy
    have := (h.l.rows a ha).lt y hm
    omega

/-- It is laid to the grown ones. -/
theorem Lx.done {lo' : Value} (h : Lx w0 wr ro rvs N n V i lo lvs 16 x) (hi : i < N) (hV : ∀ y ∈ V, y < w0) (hw : w0 ≤ wr.heap.size) (hr : Row w1 29 1 lo' (i + 1) (lvs ++ [x])) (hs : Same (blk lo) wr w1) (hb : ∀ y ∈ blk lo', y ∈ blk lo ∨ wr.heap.size ≤ y) :
    Lg w0 w1 ro rvs N n V (i + 1) lo' (lvs ++ [x]) := by
  have hlen : lvs.length = i := by have := h.l.top.1; omega
  have g1 : ∀ a, a < i → (lvs ++ [x]).getD a undef = lvs.getD a undef := fun a ha => by
    simp only [List.getD_eq_getElem?_getD]; rw [List.getElem?_append_left (by omega)]
  have g2 : (lvs ++ [x]).getD i undef = x := by
    simp only [List.getD_eq_getElem?_getD]; rw [List.getElem?_append_right (by omega)]; simp [hlen]
  have far : ∀ {m : Nat} {v : Value} {xs : List Value}, Row wr 3 1 v m xs → ∀ y ∈ blk v, y ∉ blk lo := fun hr y hy hm => h.l.top.ne hr (by decide) y hm hy
  refine ⟨⟨h.l.f.top.frame hs (fun y hy hm => ?_), fun a ha => (h.l.f.rows a ha).frame hs (far (h.l.f.rows a ha)), h.l.f.apart, h.l.f.topIn, h.l.f.rowIn⟩, hr, fun y hy => ?_, fun a ha => ?_, fun a ha y hy => ?_, fun a b ha hb' hab y hy hm => ?_⟩
  · have := h.l.topN y hm
    have := hV y (h.l.f.topIn y hy)
    omega
  · rcases hb y hy with h1 | h1
    · exact h.l.topN y h1
    · omega
  · by_cases e : a = i
    · subst e; rw [g2]; exact h.row.frame hs (far h.row)
    · rw [g1 a (by omega)]; exact (h.l.rows a (by omega)).frame hs (far (h.l.rows a (by omega)))
  · by_cases e : a = i
    · subst e; rw [g2] at hy; exact h.own y hy
    · rw [g1 a (by omega)] at hy; exact h.l.own a (by omega) y hy
  · by_cases e : a = i
    · subst e
      rw [g2] at hy
      rw [g1 b (by omega)] at hm
      exact h.off b (by omega) y hy hm
    · rw [g1 a (by omega)] at hy
      by_cases e2 : b = i
      · subst e2
        rw [g2] at hm
        exact h.off a (by omega) y hm hy
      · rw [g1 b (by omega)] at hm
        exact h.l.apart a b (by omega) (by omega) hab y hy hm
end

set_option maxHeartbeats 3200000 in
set_option maxRecDepth 100000 in
theorem ownInts_any (h : Fam .i64 29 3 W ro rvs N n c V) (hV : ∀ x ∈ V, x < W.heap.size) (hN : N ≤ 1000000) (hn : ∀ i, i < N → n i ≤ 900) : Calls Tryd.prog 53 #[ro] W fun e w' => e = .returned (.bool true) ∧ Same V W w' := by
  obtain ⟨ra, rc, rfl, -, -, -⟩ := h.top.form
  have H0 := Lib.hid h
  have HV := Lib.hid hV
  have HN := Lib.hid hn
  clear h hV hn
  go_enter Tryd.func53, Tryd.ntmps53
  go_wp2
  go_loopw [3] (fun v wr => ∃ (i : Nat) (c' : Nat → Nat → Int), i ≤ N ∧ v = .int .i64 i ∧ Fam .i64 29 3 wr (.slice ra N rc) rvs N n c' V ∧ (∀ a b, a < i → b < n a → c' a b = mkv a b) ∧ Same V W wr) (fun v _ => N - (intOf v).toNat)
  case atStart => exact ⟨0, c, Nat.zero_le _, rfl, H0.out, fun a b h => by omega, Same.refl _ _⟩
  case round =>
    obtain ⟨i, c', hi, rfl, hf, hc, hs⟩ := hrel
    by_cases hlt : i < N
    · have hlt' : (i : Int) < (N : Int) := by omega
      obtain ⟨g, off, cap, hro, hgl, hgV, hcell⟩ := hf.at_ i hlt
      injection hro with hro _ hro2
      subst hro hro2
      have hni := HN.out i hlt
      obtain ⟨ia, ic, hiv, -, -, -⟩ := (hf.rows i hlt).form
      rw [hiv] at hcell
      have hcw : ∀ w2, Same V W w2 → Fam .i64 29 3 w2 (.slice (some ⟨g, off, none⟩) N rc) rvs N n c' V → True := fun _ _ _ => trivial
      have HF := Lib.hid hf
      have HC := Lib.hid hc
      have HS := Lib.hid hs
      have HIV := Lib.hid hiv
      clear hf hc hs hiv hcw
      obtain ⟨wo, hwo⟩ : ∃ wo, wo = wr := ⟨_, rfl⟩
      subst hwo
      go_wp2
      go_loopw [4] (fun v wr => ∃ (j : Nat) (c2 : Nat → Nat → Int), j ≤ n i ∧ v = .int .i64 j ∧ Fam .i64 29 3 wr (.slice (some ⟨g, off, none⟩) N rc) rvs N n c2 V ∧ (∀ a b, a < i → b < n a → c2 a b = mkv a b) ∧ (∀ b, b < j → c2 i b = mkv i b) ∧ Same V W wr) (fun v _ => n i - (intOf v).toNat)
      case atStart => exact ⟨0, c', Nat.zero_le _, rfl, HF.out, HC.out, fun b h => by omega, HS.out⟩
      case round =>
        obtain ⟨j, c2, hj, rfl, hf2, hc2, hc3, hs2⟩ := hrel
        obtain ⟨g2, off2, cap2, hro, hgl2, hgV2, hcell2⟩ := hf2.at_ i hlt
        injection hro with hro _ hro2
        injection hro with hro
        injection hro with hro hro3 _
        subst hro hro2 hro3
        rw [HIV.out] at hcell2
        by_cases hjn : j < n i
        · have hjn' : (j : Int) < (n i : Int) := by omega
          obtain ⟨gi, oi, ci, hri, -, hgil, hci, hcf⟩ := (hf2.rows i hlt).at_ (by omega)
          rw [HIV.out] at hri
          injection hri with hri _ hri2
          subst hri hri2
          have kj := hci j (by omega)
          rw [nums_get _ _ _ _ hjn] at kj
          have hfz := hcf (oi + j)
          have HNEW := Lib.hid (hf2.put (by decide) i j hlt hjn gi oi ic HIV.out ((i : Int) * 1000 + j))
          have HC2 := Lib.hid hc2
          have HC3 := Lib.hid hc3
          have HS2 : Hid (Same V W (wr.setCell ⟨gi, oi + j, none⟩ (.int .i64 ((i : Int) * 1000 + j)))) := Lib.hid (hs2.setCell (.inl (hf2.rowIn i hlt gi (by rw [HIV.out]; simp [blk]))) _)
          clear hf2 hc2 hc3 hs2 hci hcf
          go_wp2
          go_roundw
          case rel =>
            refine ⟨j + 1, _, by omega, by go_num, HNEW.out, fun a b h1 h2 => ?_, fun b h1 => ?_, HS2.out⟩
            · rw [if_neg (by omega)]; exact HC2.out a b h1 h2
            · by_cases e : b = j
              · rw [if_pos ⟨rfl, e⟩, e]; rfl
              · rw [if_neg (by omega)]; exact HC3.out b (by omega)
          case measure => simp [intOf]; omega
        · have hge : (n i : Int) ≤ (j : Int) := by omega
          have hje : j = n i := by omega
          have HX : Hid (∀ a b, a < i + 1 → b < n a → c2 a b = mkv a b) := Lib.hid (fun a b h1 h2 => by
            by_cases e : a = i
            · subst e; exact hc3 b (by omega)
            · exact hc2 a b (by omega) h2)
          have HF2 := Lib.hid hf2
          have HS2 := Lib.hid hs2
          clear hf2 hc2 hc3 hs2 hje
          go_wp2
          go_roundw
          case rel => exact ⟨i + 1, c2, by omega, by go_num, HF2.out, HX.out, HS2.out⟩
          case measure => simp [intOf]; omega
    · have hiN : i = N := by omega
      have hge : (N : Int) ≤ (i : Int) := by omega
      have hL0 : Lg W.heap.size wr (.slice ra N rc) rvs N n V 0 (.slice none 0 0) [] := ⟨hf.congr (fun a b ha hb => (hc a b (by omega) hb).symm), Row.nil _ _ _, by simp [blk], fun a ha => by omega, fun a ha => by omega, fun a b ha => by omega⟩
      have HL0 := Lib.hid hL0
      have HS0 := Lib.hid hs
      clear hf hc hs hL0 hlt hi
      obtain ⟨wa, hwa⟩ : ∃ wa, wa = wr := ⟨_, rfl⟩
      subst hwa
      subst hiN
      go_wp2
      go_loopw [5, 6] (fun lo v wr => ∃ (j : Nat) (lvs : List Value), j ≤ i ∧ v = .int .i64 j ∧ Lg W.heap.size wr (.slice ra i rc) rvs i n V j lo lvs ∧ Same V W wr) (fun _ v _ => i - (intOf v).toNat)
      case atStart => exact ⟨0, [], Nat.zero_le _, rfl, HL0.out, HS0.out⟩
      case round =>
        obtain ⟨j, lvs, hj, rfl, hl, hs⟩ := hrel
        obtain ⟨loa, loc, rfl, -, -, -⟩ := hl.top.form
        by_cases hlt : j < i
        · have hlt' : (j : Int) < (i : Int) := by omega
          obtain ⟨g, off, cap, hro, hgl, hgV, hcell⟩ := hl.f.at_ j hlt
          injection hro with hro _ hro2
          subst hro hro2
          have hni := HN.out j hlt
          have hx0 := hl.start hlt HV.out
          obtain ⟨ia, ic, hiv, -, -, -⟩ := (hl.f.rows j hlt).form
          rw [hiv] at hcell hx0
          have HX0 := Lib.hid hx0
          have HS := Lib.hid hs
          have HIV := Lib.hid hiv
          clear hl hx0 hs hiv
          obtain ⟨wo, hwo⟩ : ∃ wo, wo = wr := ⟨_, rfl⟩
          subst hwo
          go_wp2
          go_loopw [7, 8] (fun x v wr => ∃ k : Nat, k ≤ 16 ∧ v = .int .i64 k ∧ Lx W.heap.size wr (.slice (some ⟨g, off, none⟩) i rc) rvs i n V j (.slice loa j loc) lvs k x ∧ Same V W wr) (fun _ v _ => 16 - (intOf v).toNat)
          case atStart => exact ⟨0, Nat.zero_le _, rfl, HX0.out, HS.out⟩
          case round =>
            obtain ⟨k, hk, rfl, hx, hs2⟩ := hrel
            obtain ⟨xa, xc, rfl, -, -, -⟩ := hx.row.form
            by_cases hk16 : k < 16
            · have hk' : (k : Int) < 16 := by omega
              have HX := Lib.hid hx
              have HS2 := Lib.hid hs2
              have HNUM : Hid (nums .i64 (n j + k) (lgv (n j) j) ++ [.int .i64 ((-1 - (j : Int)) * 1000 + k)] = nums .i64 (n j + (k + 1)) (lgv (n j) j)) := Lib.hid (by
                rw [nums_snoc _ _ _ _ (lgv_hi (n j) j k)]; rfl)
              clear hx hs2
              go_wp2_with (at_builtin; refine wpList_append_two _ rfl (.tmp 52) (.tmp 58) 29 rfl 3 (.int .i64 0) 1 8 Tryd.underlying29 info3 rfl (by decide) (.slice xa (n j + k) xc) (n j + k) (nums .i64 (n j + k) (lgv (n j) j)) rfl ?a1 ⟨wr.heap.size, 0, none⟩ 1 1 [.int .i64 ((-1 - (j : Int)) * 1000 + k)] rfl rfl ?a2 ?a3 ?a4 ?a5 ?a6)
              case a1 => exact HX.out.row.alloc _
              case a2 => exact cell_one_new wr (.int .i64 ((-1 - (j : Int)) * 1000 + k)) 3
              case a3 => intro u hu; simp at hu; subst hu; rfl
              case a4 => unfold maxLen; omega
              case a5 => omega
              case a6 =>
                intro v' w1 hrow hcase
                have hc2 : (∃ A C, Value.slice xa (n j + k) xc = .slice A (n j + k) C ∧ v' = .slice A (n j + k + 1) C) ∧ Same (blk (.slice xa (n j + k) xc)) wr w1 ∨ Same [] wr w1 ∧ ∀ y ∈ blk v', wr.heap.size ≤ y := by
                  rcases hcase with ⟨⟨A, C, e1, e2⟩, h1⟩ | ⟨h1, h2⟩
                  · exact .inl ⟨⟨A, C, by rw [e1.1, e1.2], e2⟩, ((Same.refl _ _).alloc _).trans h1⟩
                  · exact .inr ⟨((Same.refl _ _).alloc _).trans h1, fun y hy => by have := h2 y hy; omega⟩
                have hsz := HS2.out.size
                have hx1 := HX.out.step hlt HV.out hsz (by rw [← HNUM.out]; exact hrow) hc2
                have hs1 : Same V W w1 := by
                  rcases hc2 with ⟨_, h1⟩ | ⟨h1, _⟩
                  · refine HS2.out.trans' h1 (fun y hy => ?_)
                    rcases HX.out.own y hy with h3 | h3
                    · exact .inl (HX.out.l.f.rowIn j hlt y h3)
                    · exact .inr h3
                  · exact HS2.out.trans' h1 (by simp)
                obtain ⟨a5, c5, rfl, -, -, -⟩ := hrow.form
                have HX1 := Lib.hid hx1
                have HS1 := Lib.hid hs1
                clear hrow hcase hc2 hx1 hs1 hsz
                go_wp2
                go_roundw
                case rel => exact ⟨k + 1, by omega, by go_num, HX1.out, HS1.out⟩
                case measure => simp [intOf]; omega
            · have hke : k = 16 := by omega
              subst hke
              have HX := Lib.hid hx
              have HS2 := Lib.hid hs2
              clear hx hs2 hk16
              rw [show ((16 : Nat) : Int) = 16 from rfl]
              go_wp2_with (at_builtin; refine wpList_append_row _ rfl (.tmp 60) (.tmp 62) 28 rfl 29 (.slice none 0 0) 1 24 Tryd.underlying28 info29b rfl (by decide) (.slice loa j loc) j lvs rfl ?b1 ⟨wr.heap.size, 0, none⟩ 1 1 [.slice xa (n j + 16) xc] rfl rfl ?b2 ?b3 ?b4 ?b5 ?b6)
              case b1 => exact HX.out.l.top.alloc _
              case b2 => exact cell_one_new wr (.slice xa (n j + 16) xc) 29
              case b3 => intro u hu; simp at hu; subst hu; rfl
              case b4 => unfold maxLen; omega
              case b5 => omega
              case b6 =>
                intro v' w1 hrow hsm hbk
                have hs1 : Same (blk (.slice loa j loc)) wr w1 := ((Same.refl _ _).alloc _).trans hsm
                have hl1 := HX.out.done hlt HV.out HS2.out.size (by simpa using hrow) hs1 (fun y hy => by
                  rcases hbk y hy with h | h
                  · exact .inl h
                  · right; omega)
                have hsv : Same V W w1 := HS2.out.trans' hs1 (fun y hy => .inr (HX.out.l.topN y hy))
                obtain ⟨a5, c5, rfl, -, -, -⟩ := hrow.form
                have HL1 := Lib.hid hl1
                have HSV := Lib.hid hsv
                clear hrow hsm hbk hs1 hl1 hsv
                go_wp2
                go_roundw
                case rel => exact ⟨j + 1, _, by omega, by go_num, HL1.out, HSV.out⟩
                case measure => simp [intOf]; omega
        · have hje : j = i := by omega
          have hge2 : (i : Int) ≤ (j : Int) := by omega
          subst hje
          have HL := Lib.hid hl
          have HS := Lib.hid hs
          clear hl hs hlt hj
          obtain ⟨wc, hwc⟩ : ∃ wc, wc = wr := ⟨_, rfl⟩
          subst hwc
          go_wp2
          go_loopw [9] (fun v wr => ∃ a : Nat, a ≤ j ∧ v = .int .i64 a ∧ wc = wr) (fun v _ => j - (intOf v).toNat)
          case atStart => exact ⟨0, Nat.zero_le _, rfl, rfl⟩
          case round =>
            obtain ⟨a, ha, rfl, rfl⟩ := hrel
            by_cases hlt : a < j
            · have hlt' : (a : Int) < (j : Int) := by omega
              obtain ⟨g, off, cap, hro, -, -, hcell⟩ := HL.out.f.at_ a hlt
              injection hro with hro _ hro2
              subst hro hro2
              have hni := HN.out a hlt
              obtain ⟨ia, ic, hiv, -, -, -⟩ := (HL.out.f.rows a hlt).form
              rw [hiv] at hcell
              have hlen : lvs.length = j := by have := HL.out.top.1; omega
              obtain ⟨g2, off2, cap2, hlo, -, -, hc2, -⟩ := HL.out.top.at_ (by omega)
              injection hlo with hlo _ hlo2
              subst hlo hlo2
              have hcell2 := hc2 a (by omega)
              have hlr := HL.out.rows a hlt
              obtain ⟨gl, ol, lc, hlv, -, -, hlc, -⟩ := hlr.at_ (by omega)
              have hgd : lvs[a]? = some (lvs.getD a undef) := by
                rw [List.getD_eq_getElem?_getD, List.getElem?_eq_getElem (by omega)]; rfl
              rw [hgd, hlv] at hcell2
              have HLC : Hid (∀ k, k < n a + 16 → wc.cell? ⟨gl, ol + k, none⟩ = some (.int .i64 (lgv (n a) a k))) := Lib.hid (fun k hk => by
                have := hlc k (by omega)
                rw [nums_get _ _ _ _ hk] at this; exact this)
              have HIC : Hid (∀ k, k < n a → ∃ gi oi, ia = some ⟨gi, oi, none⟩ ∧ wc.cell? ⟨gi, oi + k, none⟩ = some (.int .i64 (mkv a k))) := Lib.hid (fun k hk => by
                obtain ⟨gi, oi, ci, e, -, -, hc, -⟩ := (HL.out.f.rows a hlt).at_ (by omega)
                rw [hiv] at e
                injection e with e _ _
                refine ⟨gi, oi, e, ?_⟩
                have := hc k (by omega)
                rw [nums_get _ _ _ _ hk] at this; exact this)
              clear hc2 hlr hlc hgd hlv hiv hlen
              go_wp2
              go_loopw [11] (fun v wr => ∃ k : Nat, k ≤ n a ∧ v = .int .i64 k ∧ wc = wr) (fun v _ => n a - (intOf v).toNat)
              case atStart => exact ⟨0, Nat.zero_le _, rfl, rfl⟩
              case round =>
                obtain ⟨k, hk, rfl, rfl⟩ := hrel
                by_cases hkn : k < n a
                · have hkn' : (k : Int) < (n a : Int) := by omega
                  obtain ⟨gi, oi, rfl, kc⟩ := HIC.out k hkn
                  have kl := HLC.out k (by omega)
                  rw [lgv_lo hkn] at kl
                  unfold mkv at kc kl
                  have e1 : ((a : Int) * 1000 + (k : Int) != (a : Int) * 1000 + (k : Int)) = false := by simp
                  go_wp2
                  go_roundw
                  case rel => exact ⟨k + 1, by omega, by go_num, (by first | rfl | trivial)⟩
                  case measure => simp [intOf]; omega
                · have hkn' : (n a : Int) ≤ (k : Int) := by omega
                  go_wp2
                  go_loopw [12] (fun v wr => ∃ q : Nat, q ≤ 16 ∧ v = .int .i64 q ∧ wc = wr) (fun v _ => 16 - (intOf v).toNat)
                  case atStart => exact ⟨0, Nat.zero_le _, rfl, rfl⟩
                  case round =>
                    obtain ⟨q, hq, rfl, rfl⟩ := hrel
                    by_cases hqn : q < 16
                    · have hqn' : (q : Int) < 16 := by omega
                      have kl := HLC.out (n a + q) (by omega)
                      rw [lgv_hi] at kl
                      have e1 : ((-1 - (a : Int)) * 1000 + (q : Int) != (-1 - (a : Int)) * 1000 + (q : Int)) = false := by simp
                      go_wp2
                      go_roundw
                      case rel => exact ⟨q + 1, by omega, by go_num, (by first | rfl | trivial)⟩
                      case measure => simp [intOf]; omega
                    · have hqn' : (16 : Int) ≤ (q : Int) := by omega
                      go_wp2
                      go_roundw
                      case rel => exact ⟨a + 1, by omega, by go_num, (by first | rfl | trivial)⟩
                      case measure => simp [intOf]; omega
            · have hlt' : (j : Int) ≤ (a : Int) := by omega
              go_wp2
              go_ret
              exact ⟨rfl, HS.out⟩
end Lk
end Go.Proofs.YtkfdoocmapjkbaaDoor
