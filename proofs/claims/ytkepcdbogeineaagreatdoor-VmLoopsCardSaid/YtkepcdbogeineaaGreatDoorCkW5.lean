/- Layer 8, package code: depths. -/
import Derived.Test.YtkepcdbogeineaaGreatDoorCkW3
import Derived.Test.YtkepcdbogeineaaGreatDoorCkW4
import Derived.Test.YtkepcdbogeineaaGreatDoorCd
import Derived.Test.YtkepcdbogeineaaGreatDoorHpMake
import Derived.Deep.LoopGhost
import Derived.Test.YtkepcdbogeineaaGreatDoorHpAp
import Derived.Deep.DeepCutAuto
namespace Go.Proofs.YtkepcdbogeineaaGreatDoor
open Go.RowKit Hp
namespace Ck
variable {w w' : World}

theorem infoD : (Tryz.prog.info? 118).map (fun i => (i.zero, i.size, i.bytes)) = some (some (.agg #[.int .i64 0, .int .i64 0]), 2, 16) := by kernel_rfl

theorem made_start (n : Nat) : (madeCells #[.int .i64 0, .int .i64 0] (n * 2)).toList = flatD (List.replicate n ⟨0, 0⟩) := by
  have h := madeCells_flat [.int .i64 0, .int .i64 0] n (by simp)
  rw [show n * 2 = n * [Value.int .i64 0, .int .i64 0].length from rfl, h, flatD]
  clear h
  induction n with
  | zero => rfl
  | succ n ih => simp only [List.replicate_succ, List.flatMap_cons, ih]; rfl
theorem zero_at (n : Nat) (h : 0 < n) : (flatD (List.replicate n ⟨0, 0⟩))[0]? = some (.int .i64 0) := by
  have := flat_at (List.replicate n ⟨0, 0⟩) 0 0 (by simpa using h) (by omega)
  rw [Nat.zero_mul] at this
  rw [this]
  simp [List.getD, h, encD]
theorem start_at (n : Nat) (h : 0 < n) : (flatD (List.replicate n ⟨0, 0⟩)).set 0 (.int .i64 1) = flatD (Cd.start n).1 := by
  have := flat_put0 (List.replicate n ⟨0, 0⟩) 0 (by simpa using h) 1
  rw [Nat.zero_mul] at this
  rw [show (1 : Int) = ((1 : Nat) : Int) from rfl, this]
  congr 1
  cases n with
  | zero => omega
  | succ n => simp [Cd.start, List.replicate_succ]

theorem start_rep {w w1 : World} {n : Nat} (h : Blk w1 w.heap.size 118 (flatD (List.replicate n ⟨0, 0⟩))) (hs : w.heap.size ≤ w1.heap.size) (hn : 0 < n) (hm : n ≤ 4096) :
    DRep w.heap.size ((((w1.setCell ⟨w.heap.size, 0, none⟩ (.int .i64 1)).alloc (.cells #[.slice (some ⟨w.heap.size, 0, none⟩) n n] 115)).alloc (.cells #[.int .i64 0] 3)).alloc (.cells #[.slice (some ⟨w1.heap.size + 1, 0, none⟩) 1 1] 42)) w1.heap.size (w1.heap.size + 1 + 1) w.heap.size (.slice (some ⟨w1.heap.size + 1, 0, none⟩) 1 1) (Cd.start n) := by
  have e0 : (w1.setCell ⟨w.heap.size, 0, none⟩ (.int .i64 1)).heap.size = w1.heap.size := by simp
  have hl : (Cd.start n).1.length = n := by simp [Cd.start]; omega
  have b1 := Blk.new (w1.setCell ⟨w.heap.size, 0, none⟩ (.int .i64 1)) 115 [.slice (some ⟨w.heap.size, 0, none⟩) n n]
  rw [e0] at b1
  have b2 := Blk.new ((w1.setCell ⟨w.heap.size, 0, none⟩ (.int .i64 1)).alloc (.cells #[.slice (some ⟨w.heap.size, 0, none⟩) n n] 115)) 3 [.int .i64 0]
  rw [show ((w1.setCell ⟨w.heap.size, 0, none⟩ (.int .i64 1)).alloc (.cells #[.slice (some ⟨w.heap.size, 0, none⟩) n n] 115)).heap.size = w1.heap.size + 1 by simp] at b2
  have b3 := Blk.new (((w1.setCell ⟨w.heap.size, 0, none⟩ (.int .i64 1)).alloc (.cells #[.slice (some ⟨w.heap.size, 0, none⟩) n n] 115)).alloc (.cells #[.int .i64 0] 3)) 42 [.slice (some ⟨w1.heap.size + 1, 0, none⟩) 1 1]
  rw [show (((w1.setCell ⟨w.heap.size, 0, none⟩ (.int .i64 1)).alloc (.cells #[.slice (some ⟨w.heap.size, 0, none⟩) n n] 115)).alloc (.cells #[.int .i64 0] 3)).heap.size = w1.heap.size + 1 + 1 by simp] at b3
  refine ⟨?_, b3, ?_, ?_, hs, by omega, Nat.le_refl _, fun k hk => ?_, by rw [hl]; exact hm⟩
  · rw [hl]; exact (b1.alloc _).alloc _
  · have := (((h.set 0 (.int .i64 1)).alloc (.cells #[.slice (some ⟨w.heap.size, 0, none⟩) n n] 115)).alloc (.cells #[.int .i64 0] 3)).alloc (.cells #[.slice (some ⟨w1.heap.size + 1, 0, none⟩) 1 1] 42)
    rw [start_at n hn] at this
    exact this
  · exact Row.full (b2.alloc _) 1 1 rfl (by unfold maxLen; omega)
  · simp [blk] at hk; omega

/-- The last of those to do is taken off. -/
theorem DRep.pop {B Lb Tb L g o C q : Nat} {s : List Cd.De × List Nat} (h : DRep B w Lb Tb L (.slice (some ⟨g, o, none⟩) (q + 1) C) s) (hq : s.2.length = q + 1) :
    DRep B (w.setCell ⟨Tb, 0, none⟩ (.slice (some ⟨g, o, none⟩) q C)) Lb Tb L (.slice (some ⟨g, o, none⟩) q C) (s.1, s.2.dropLast) := by
  have n0 : Lb ≠ Tb := h.lbox.ne h.tbox (by decide)
  have n1 : L ≠ Tb := h.lrow.ne h.tbox (by decide)
  have hr := h.trow
  rw [hq] at hr
  have hd : s.2.dropLast.length = q := by simp [hq]
  refine ⟨h.lbox.setOther n0 _, by simpa using h.tbox.set 0 _, h.lrow.setOther n1 _, ?_, h.b0, h.b1, h.b2, fun k hk => h.b3 k (by simpa [blk] using hk), h.n⟩
  have := (hr.pre (k := q) (by omega)).setOther (p := ⟨Tb, 0, none⟩) (fun hm => hr.ne_blk h.tbox (by decide) _ (by simpa [blk] using hm) rfl) (.slice (some ⟨g, o, none⟩) q C)
  dsimp only
  rw [hd]
  have e : (natsV s.2).take (q * 1) = natsV s.2.dropLast := by
    rw [Nat.mul_one, natsV, ← List.map_take, List.dropLast_eq_take, hq]; rfl
  rw [e] at this
  exact this

theorem DRep.len {B Lb Tb L : Nat} {tv : Value} {s : List Cd.De × List Nat} (h : DRep B w Lb Tb L tv s) : ∃ A C, tv = .slice A s.2.length C := by
  obtain ⟨A, C, e, _⟩ := h.trow.form
  exact ⟨A, C, e⟩

/-- The last of those to do, where it lies. -/
theorem DRep.top {B Lb Tb L : Nat} {tv : Value} {s : List Cd.De × List Nat} (h : DRep B w Lb Tb L tv s) (q : Nat) (hq : s.2.length = q + 1) : ∃ g o C, tv = .slice (some ⟨g, o, none⟩) (q + 1) C ∧ q + 1 ≤ C ∧ C ≤ maxLen ∧ g < w.heap.size ∧ w.cell? ⟨g, o + q, none⟩ = some (.int .i64 (s.2.getLastD 0 : Nat)) := by
  have hr := h.trow
  rw [hq] at hr
  obtain ⟨A, C', hv, _, hm, _⟩ := hr.form
  obtain ⟨g, o, C, rfl, h1, h2, h3, h4⟩ := hr.at_ (by omega)
  injection hv with _ _ hv
  subst hv
  refine ⟨g, o, C, rfl, h1, hm, h2, ?_⟩
  rw [h3 q (by omega), natsV, List.getElem?_map, List.getLastD_eq_getLast?, List.getLast?_eq_getElem?, hq, Nat.add_sub_cancel]
  rw [List.getElem?_eq_getElem (by omega)]
  rfl

theorem DRep.below {B Lb Tb L : Nat} {tv : Value} {s : List Cd.De × List Nat} (h : DRep B w Lb Tb L tv s) (hs : Same (Tb :: L :: blk tv) w w') : Below B w w' := by
  refine hs.belowF (Nat.le_trans h.b0 (Nat.le_of_lt h.lbox.lt)) (fun x hx => ?_)
  rcases List.mem_cons.1 hx with rfl | hx
  · exact h.b1
  · rcases List.mem_cons.1 hx with rfl | hx
    · exact h.b2
    · exact h.b3 x hx

theorem comes_todo (s : List Cd.De × List Nat) (at_ : Nat) (d : Cd.De) : (Cd.comes s at_ d).2.length ≤ s.2.length + 1 := by
  unfold Cd.comes
  dsimp only
  repeat' split
  all_goals simp

theorem good_pop {n : Nat} {s : List Cd.De × List Nat} (h : Cd.Good n s) : Cd.Good n (s.1, s.2.dropLast) :=
  ⟨h.len, fun i hi => h.todo i ((List.dropLast_sublist _).subset hi), h.le⟩

theorem two_new (W : World) (n : Nat) (hn : W.heap.size = n) (t1 t2 : TypeId) (c1 c2 : List Value) : Blk ((W.alloc (.cells c1.toArray t1)).alloc (.cells c2.toArray t2)).drew n t1 c1 ∧ Blk ((W.alloc (.cells c1.toArray t1)).alloc (.cells c2.toArray t2)).drew (n + 1) t2 c2 ∧ Same [] W ((W.alloc (.cells c1.toArray t1)).alloc (.cells c2.toArray t2)).drew := by
  have h1 := Blk.new W t1 c1
  have h2 := Blk.new (W.alloc (.cells c1.toArray t1)) t2 c2
  rw [show (W.alloc (.cells c1.toArray t1)).heap.size = n + 1 by simp [hn]] at h2
  rw [hn] at h1
  exact ⟨h1.alloc _, h2, (((Same.refl _ _).alloc _).alloc _).drew⟩

set_option maxHeartbeats 4000000 in
set_option maxRecDepth 100000 in
theorem depths_any (v : Value) (code : List Cd.In) (hr : RIs w v code) (hn : 1 ≤ code.length ∧ code.length ≤ 4096) (hf : ∀ i ∈ code, Cd.Fit code.length i) (hl : (code.getLastD ⟨0, 0⟩).op = 8 ∨ (code.getLastD ⟨0, 0⟩).op = 11 ∨ (code.getLastD ⟨0, 0⟩).op = 12) (hv : Vars w) :
    Calls Tryz.prog 66 #[v] w fun e w' => ∃ L, e = .returned (.slice (some ⟨L, 0, none⟩) code.length code.length) ∧ Blk w' L 118 (flatD (Cd.depths code)) ∧ w.heap.size ≤ L ∧ Same [] w w' := by
  obtain ⟨A, cap, rfl, k1, k2, k3⟩ := hr
  obtain ⟨b, off, rfl, hb, hc⟩ := k3 (by omega)
  unfold maxLen at k2
  obtain ⟨hn1, hn2⟩ := hn
  have HC := Lib.hid hc
  have HF := Lib.hid hf
  have HLast := Lib.hid hl
  have HV := Lib.hid hv
  clear hc hf hl hv k3
  go_enter Tryz.func66, Tryz.ntmps66
  go_wp2_with (first
    | (refine wpList_make_blk _ rfl (.tmp 12) (.tmp 12) 115 rfl 118 _ 2 16 Tryz.underlying115 infoD code.length rfl rfl (by omega) (by unfold maxLen; omega) ?a1))
  case a1 =>
    intro w1 hblk hs
    rw [made_start] at hblk
    have hz1 := hblk.lt
    have c0 : w1.cell? ⟨w.heap.size, 0, none⟩ = some (.int .i64 0) := by rw [hblk.cell, zero_at _ (by omega)]
    have f0 := hblk.frozen
    have HBLK := Lib.hid hblk
    have HS := Lib.hid hs
    clear hblk hs
    go_wp2
    have hrep := start_rep (w := w) HBLK.out HS.out.size (by omega) hn2
    have hbel : Below w.heap.size w ((((w1.setCell ⟨w.heap.size, 0, none⟩ (.int .i64 1)).alloc (.cells #[.slice (some ⟨w.heap.size, 0, none⟩) code.length code.length] 115)).alloc (.cells #[.int .i64 0] 3)).alloc (.cells #[.slice (some ⟨w1.heap.size + 1, 0, none⟩) 1 1] 42)) := by
      have := HS.out.size
      exact (((HS.out.below.setCell (p := ⟨w.heap.size, 0, none⟩) (Nat.le_refl _) _).alloc (by simpa using this) _).alloc (by simp; omega) _).alloc (by simp; omega) _
    have HR := Lib.hid hrep
    have HB := Lib.hid hbel
    clear hrep hbel c0 f0
    go_loopg [6] (4 * code.length + 1) (fun gk _ wr => ∃ (m : Nat) (s : List Cd.De × List Nat) (tv : Value), gk = 4 * code.length + 1 - m ∧ Cd.Run code m s ∧ DRep w.heap.size wr w1.heap.size (w1.heap.size + 1 + 1) w.heap.size tv s ∧ Below w.heap.size w wr)
    case atStart => exact ⟨0, Cd.start code.length, _, by omega, Cd.Run.start hn1, HR.out, HB.out⟩
    case round =>
      obtain ⟨m, s, tv, rfl, hrun, hrep, hbel⟩ := hrel
      have hlb : wr.cell? ⟨w1.heap.size, 0, none⟩ = some (.slice (some ⟨w.heap.size, 0, none⟩) code.length code.length) := by rw [hrep.lbox.cell, hrun.good.len]; rfl
      have hzl := hrep.lbox.lt
      have hzt := hrep.tbox.lt
      have hzL := hrep.lrow.lt
      have hft := hrep.tbox.frozen
      have hct : wr.cell? ⟨w1.heap.size + 1 + 1, 0, none⟩ = some tv := hrep.tbox.cell 0
      by_cases hne : s.2 = []
      · obtain ⟨A, C, rfl⟩ := hrep.len
        rw [hne, List.length_nil] at hct
        have HD := Lib.hid (hrun.done hne)
        have HR2 := Lib.hid hrep
        have HB2 := Lib.hid hbel
        clear hrep hbel hrun hne
        go_wp2
        go_ret
        refine ⟨w.heap.size, rfl, ?_, Nat.le_refl _, Same.of_below HB2.out⟩
        rw [← HD.out]; exact HR2.out.lrow
      · obtain ⟨q, hq⟩ : ∃ q, s.2.length = q + 1 := ⟨s.2.length - 1, by have := List.length_pos_iff.2 hne; omega⟩
        obtain ⟨g, o, C, rfl, hC1, hC2, hg, hcell⟩ := hrep.top q hq
        unfold maxLen at hC2
        obtain ⟨hat1, hat2, hat3⟩ := hrun.last hne
        obtain ⟨at_, hatE⟩ : ∃ a, s.2.getLastD 0 = a := ⟨_, rfl⟩
        rw [hatE] at hcell hat1 hat2 hat3
        have HP := Lib.hid (hrep.pop hq)
        have HRUN := Lib.hid hrun
        have HR2 := Lib.hid hrep
        have HB2 := Lib.hid hbel
        have HAT := Lib.hid hatE
        have HNE := Lib.hid hne
        have HQ := Lib.hid hq
        clear hrep hbel hrun hne hatE hq
        have hi := HF.out (code.getD at_ ⟨0, 0⟩) (Cd.getD_mem code at_ hat1)
        obtain ⟨ix, hix⟩ : ∃ ix, code.getD at_ ⟨0, 0⟩ = ix := ⟨_, rfl⟩
        have hi0 : wr.cell? ⟨b, off + at_ * 2, none⟩ = some (.int .u8 ix.op) := by
          have := HC.out at_ 0 hat1 (by omega)
          rw [HB2.out.cell (p := ⟨b, _, none⟩) hb, ← Nat.add_zero (off + at_ * 2), this, fI, hix]; rfl
        have hi1 : wr.cell? ⟨b, off + at_ * 2 + 1, none⟩ = some (.int .i64 ix.a) := by
          have := HC.out at_ 1 hat1 (by omega)
          rw [HB2.out.cell (p := ⟨b, _, none⟩) hb, this, fI, hix]; rfl
        obtain ⟨dx, hdx⟩ : ∃ dx, s.1.getD at_ ⟨2, 0⟩ = dx := ⟨_, rfl⟩
        have hslen : at_ < s.1.length := by rw [HRUN.out.good.len]; exact hat1
        have hd0 : wr.cell? ⟨w.heap.size, at_ * 2, none⟩ = some (.int .i64 dx.ways) := by
          have := flat_at s.1 at_ 0 hslen (by omega)
          rw [HR2.out.lrow.cell, ← Nat.add_zero (at_ * 2), this, hdx]; rfl
        have hd1 : wr.cell? ⟨w.heap.size, at_ * 2 + 1, none⟩ = some (.int .i64 dx.deep) := by
          have := flat_at s.1 at_ 1 hslen (by omega)
          rw [HR2.out.lrow.cell, this, hdx]; rfl
        rw [hix] at hi
        rw [hdx] at hat2 hat3
        obtain ⟨ja, hja⟩ : ∃ ja : Nat, ix.a = ja := ⟨ix.a.toNat, by have := hi.a; omega⟩
        rw [hja] at hi1
        have HJA := Lib.hid hja
        have HI := Lib.hid hi
        have HIX := Lib.hid hix
        have HDX := Lib.hid hdx
        have hsz1 : w.heap.size < w1.heap.size := hz1
        have q1 : b ≠ w1.heap.size + 1 + 1 := by omega
        have q2 : w.heap.size ≠ w1.heap.size + 1 + 1 := by omega
        have q3 : w1.heap.size ≠ w1.heap.size + 1 + 1 := by omega
        have hbz : b < wr.heap.size := Nat.lt_trans hb hzL
        clear hi hix hdx hslen hja
        go_upto_region 8 with fail
        go_cut [7, 8] from 19 to 81 (fun s7 s8 wx => ∃ b7 b8 : Nat, s7 = .pointer (some ⟨b7, 0, none⟩) ∧ s8 = .pointer (some ⟨b8, 0, none⟩) ∧ Blk wx b7 53 [.int .u8 ix.op, .int .i64 ja] ∧ Blk wx b8 118 [.int .i64 dx.ways, .int .i64 dx.deep] ∧ wr.heap.size ≤ b7 ∧ wr.heap.size ≤ b8 ∧ Same [] (wr.setCell ⟨w1.heap.size + 1 + 1, 0, none⟩ (.slice (some ⟨g, o, none⟩) q C)) wx)
        case first =>
          go_region
          all_goals
            go_wp2_with fail
            go_meet
          · obtain ⟨z1, z2, z3⟩ := two_new (wr.setCell ⟨w1.heap.size + 1 + 1, 0, none⟩ (.slice (some ⟨g, o, none⟩) q C)) wr.heap.size (by simp) 53 118 [.int .u8 ix.op, .int .i64 ja] [.int .i64 dx.ways, .int .i64 dx.deep]
            exact ⟨_, _, rfl, rfl, z1, z2, Nat.le_refl _, Nat.le_succ _, z3⟩
          · obtain ⟨z1, z2, z3⟩ := two_new (wr.setCell ⟨w1.heap.size + 1 + 1, 0, none⟩ (.slice (some ⟨g, o, none⟩) q C)) wr.heap.size (by simp) 118 53 [.int .i64 dx.ways, .int .i64 dx.deep] [.int .u8 ix.op, .int .i64 ja]
            exact ⟨_, _, rfl, rfl, z2, z1, Nat.le_succ _, Nat.le_refl _, z3⟩
        case rest =>
          obtain ⟨b7, b8, rfl, rfl, hb7, hb8, hz7, hz8, hs8⟩ := hcut
          have e70 := hb7.cell 0
          have e71 := hb7.cell 1
          have e7z := hb7.lt
          have HS8 := Lib.hid hs8
          have HB7 := Lib.hid hb7
          have HB8 := Lib.hid hb8
          have hvc : Vars wc := (HV.out.frame (Same.of_below HB2.out) (by simp)).frame ((((Same.refl [w1.heap.size + 1 + 1] wr).setCell (.inl (by simp)) _)).trans' hs8 (by simp)) (by have := HV.out.size; simp; try omega)
          have HST := Lib.hid (stack_any (w := wc) ix HI.out.op HI.out.prim (by have := HI.out.a; omega) (by have := HI.out.a; omega) hvc)
          clear hs8 hb7 hb8 hvc
          have HST' : Hid (Calls Tryz.prog 67 #[.agg #[.int .u8 ix.op, .int .i64 ja]] wc fun e w' => e = .returned (.tuple #[.int .i64 (Cd.took ix), .int .i64 (Cd.puts ix)]) ∧ Same [] wc w') := Lib.hid (by have := HST.out; rw [HJA.out] at this; exact this)
          clear HST
          go_wp2_with fail
          refine HST'.out.mono ?_
          rintro e w2 ⟨rfl, hs2⟩
          have hB72 := HB7.out.frame hs2 (by simp)
          have hB82 := HB8.out.frame hs2 (by simp)
          have g70 := hB72.cell 0
          have g71 := hB72.cell 1
          have g7z := hB72.lt
          have g80 := hB82.cell 0
          have g81 := hB82.cell 1
          have g8z := hB82.lt
          have g8f := hB82.frozen
          have g78 : b7 ≠ b8 := hB72.ne hB82 (by decide)
          have hdeep := HRUN.out.deep at_
          rw [HDX.out] at hdeep
          have hleft := HRUN.out.left
          have hm1 : (m : Int) ≤ 16384 := by omega
          obtain ⟨hdeep1, hdeep2⟩ := hdeep
          have htk := Cd.took_le HI.out
          have hpt := Cd.puts_le ix
          obtain ⟨tk, htkE⟩ : ∃ tk, Cd.took ix = tk := ⟨_, rfl⟩
          obtain ⟨pt, hptE⟩ : ∃ pt, Cd.puts ix = pt := ⟨_, rfl⟩
          rw [htkE] at htk
          rw [hptE] at hpt
          rw [htkE, hptE]
          have HTP := Lib.hid (And.intro htkE hptE)
          obtain ⟨htk1, htk2⟩ := htk
          obtain ⟨hpt1, hpt2⟩ := hpt
          have hD1 : -90000000 ≤ dx.deep := by omega
          have hD2 : dx.deep ≤ 90000000 := by omega
          have HS3 : Hid (Same [] (wr.setCell ⟨w1.heap.size + 1 + 1, 0, none⟩ (.slice (some ⟨g, o, none⟩) q C)) (w2.setCell ⟨b8, 1, none⟩ (.int .i64 (dx.deep + (pt - tk))))) := Lib.hid ((HS8.out.trans hs2).setCell (.inr (by simpa using hz8)) _)
          have HD3 : Hid (DRep w.heap.size (w2.setCell ⟨b8, 1, none⟩ (.int .i64 (dx.deep + (pt - tk)))) w1.heap.size (w1.heap.size + 1 + 1) w.heap.size (.slice (some ⟨g, o, none⟩) q C) (s.1, s.2.dropLast)) := Lib.hid (HP.out.frame HS3.out)
          have HW3 : Hid (Below w.heap.size w (w2.setCell ⟨b8, 1, none⟩ (.int .i64 (dx.deep + (pt - tk))))) := Lib.hid ((HB2.out.setCell (p := ⟨w1.heap.size + 1 + 1, 0, none⟩) (by show w.heap.size ≤ w1.heap.size + 1 + 1; omega) _).trans (HS3.out.belowF (by simp; omega) (by simp)))
          clear hdeep1 hdeep2 hleft hm1 htkE hptE hB72 hB82 hs2 e70 e71 e7z
          by_cases o8 : ix.op = 8
          · have hlen3 : (s.1, s.2.dropLast).1.length = code.length := HRUN.out.good.len
            have hq3 : s.2.dropLast.length = q := by rw [List.length_dropLast, HQ.out]; rfl
            have hq4 : q ≤ 100000 := by have := HRUN.out.left; have := HQ.out; simp only [Cd.weight] at *; omega
            have hjl : ja < code.length := by have := HI.out.jump (.inl o8); have := HJA.out; omega
            have HC1 := Lib.hid (comes_any w.heap.size w1.heap.size (w1.heap.size + 1 + 1) w.heap.size (.slice (some ⟨g, o, none⟩) q C) (s.1, s.2.dropLast) HD3.out (by simp; have := HS3.out.size; simp at this; omega) ja ⟨dx.ways, dx.deep + (pt - tk)⟩ (by rw [hlen3]; exact hjl) ⟨hat2, hat3⟩ (HRUN.out.good.le _) (by dsimp only; rw [hq3]; exact hq4))
            have o8' : (ix.op == 8) = true := by rw [o8]; rfl
            have HO := Lib.hid o8
            clear o8 hlen3 hq3 hq4 hjl
            go_wp2_with fail
            refine HC1.out.mono ?_
            rintro e w4 ⟨rfl, tv4, hd4, hs4⟩
            have HD4 := Lib.hid hd4
            have HS4 := Lib.hid hs4
            clear hd4 hs4
            go_wp2_with fail
            go_roundg (4 * code.length + 1 - (m + 1))
            case measure => have := HRUN.out.left; omega
            case rel =>
              refine ⟨m + 1, Cd.round code s, tv4, rfl, HRUN.out.step HF.out (Cd.ways_of HF.out HLast.out) HNE.out, ?_, HW3.out.trans (HD3.out.below HS4.out)⟩
              have e : Cd.round code s = Cd.comes (s.1, s.2.dropLast) ja ⟨dx.ways, dx.deep + (pt - tk)⟩ := by
                unfold Cd.round
                dsimp only
                rw [HAT.out, HIX.out, HDX.out, if_pos HO.out, HJA.out, HTP.out.1, HTP.out.2]; rfl
              rw [e]
              exact HD4.out
          · by_cases o12 : ix.op = 12 ∨ ix.op = 11
            · have o8' : (ix.op == 8) = false := by rw [beq_eq_false_iff_ne]; exact o8
              have HO := Lib.hid (And.intro o8 o12)
              obtain ⟨g12, hg12⟩ : ∃ g12, (ix.op == 12) = g12 := ⟨_, rfl⟩
              have hg11 : g12 = false → (ix.op == 11) = true := fun h => by rcases o12 with h1 | h1; (rw [h1] at hg12; rw [← hg12] at h; cases h); (rw [h1]; rfl)
              clear o8 o12
              cases g12
              all_goals
                first | have hg11' := hg11 rfl | skip
                clear hg11
                go_wp2_with fail
                go_roundg (4 * code.length + 1 - (m + 1))
                case measure => have := HRUN.out.left; omega
                case rel =>
                  refine ⟨m + 1, Cd.round code s, .slice (some ⟨g, o, none⟩) q C, rfl, HRUN.out.step HF.out (Cd.ways_of HF.out HLast.out) HNE.out, ?_, HW3.out⟩
                  have e : Cd.round code s = (s.1, s.2.dropLast) := by
                    unfold Cd.round
                    dsimp only
                    rw [HAT.out, HIX.out, if_neg HO.out.1, if_pos HO.out.2]
                  rw [e]
                  exact HD3.out
            · by_cases o9 : ix.op = 9
              · have o8' : (ix.op == 8) = false := by rw [beq_eq_false_iff_ne]; exact o8
                have o9' : (ix.op == 9) = true := by rw [o9]; rfl
                have o11' : (ix.op == 11) = false := by rw [beq_eq_false_iff_ne]; exact fun e => o12 (.inr e)
                have o12' : (ix.op == 12) = false := by rw [beq_eq_false_iff_ne]; exact fun e => o12 (.inl e)
                have hlen3 : (s.1, s.2.dropLast).1.length = code.length := HRUN.out.good.len
                have hq3 : s.2.dropLast.length = q := by rw [List.length_dropLast, HQ.out]; rfl
                have hq4 : q ≤ 90000 := by have := HRUN.out.left; have := HQ.out; simp only [Cd.weight] at *; omega
                have hjl : ja < code.length := by have := HI.out.jump (.inr o9); have := HJA.out; omega
                have hnx : at_ + 1 < code.length := (Cd.ways_of HF.out HLast.out).last at_ hat1 (by rw [HIX.out]; exact o8) (by rw [HIX.out]; exact fun e => o12 (.inr e)) (by rw [HIX.out]; exact fun e => o12 (.inl e))
                have hg4 := Cd.comes_good (good_pop HRUN.out.good) ja ⟨dx.ways, dx.deep + (pt - tk)⟩ hjl ⟨hat2, hat3⟩
                have hl4 := comes_todo (s.1, s.2.dropLast) ja ⟨dx.ways, dx.deep + (pt - tk)⟩
                have hB3 : w.heap.size ≤ (w2.setCell ⟨b8, 1, none⟩ (.int .i64 (dx.deep + (pt - tk)))).heap.size := by simp; have := HS3.out.size; simp at this; omega
                have HC1 := Lib.hid (comes_any w.heap.size w1.heap.size (w1.heap.size + 1 + 1) w.heap.size (.slice (some ⟨g, o, none⟩) q C) (s.1, s.2.dropLast) HD3.out hB3 ja ⟨dx.ways, dx.deep + (pt - tk)⟩ (by rw [hlen3]; exact hjl) ⟨hat2, hat3⟩ (HRUN.out.good.le _) (by dsimp only; rw [hq3]; omega))
                have HC2 : ∀ W tv, DRep w.heap.size W w1.heap.size (w1.heap.size + 1 + 1) w.heap.size tv (Cd.comes (s.1, s.2.dropLast) ja ⟨dx.ways, dx.deep + (pt - tk)⟩) → w.heap.size ≤ W.heap.size → Hid (Calls Tryz.prog 97 #[.int .i64 (at_ + 1 : Nat), .agg #[.int .i64 dx.ways, .int .i64 (dx.deep + (pt - tk))], .pointer (some ⟨w1.heap.size, 0, none⟩), .pointer (some ⟨w1.heap.size + 1 + 1, 0, none⟩)] W (Came w.heap.size W w1.heap.size (w1.heap.size + 1 + 1) w.heap.size tv (Cd.comes (Cd.comes (s.1, s.2.dropLast) ja ⟨dx.ways, dx.deep + (pt - tk)⟩) (at_ + 1) ⟨dx.ways, dx.deep + (pt - tk)⟩))) := fun W tv hd hB => Lib.hid (comes_any w.heap.size w1.heap.size (w1.heap.size + 1 + 1) w.heap.size tv _ hd hB (at_ + 1) ⟨dx.ways, dx.deep + (pt - tk)⟩ (by rw [hg4.len]; exact hnx) ⟨hat2, hat3⟩ (hg4.le _) (by rw [hq3] at hl4; omega))
                have HO := Lib.hid (And.intro o8 (And.intro o12 o9))
                have HC2' := Lib.hid HC2
                have h8F : b8 ∉ (w1.heap.size + 1 + 1) :: w.heap.size :: blk (.slice (some ⟨g, o, none⟩) q C) := by simp [blk]; omega
                have h7F : b7 ∉ (w1.heap.size + 1 + 1) :: w.heap.size :: blk (.slice (some ⟨g, o, none⟩) q C) := by simp [blk]; omega
                have H8F := Lib.hid h8F
                have H7F := Lib.hid h7F
                have HB3 := Lib.hid hB3
                clear o8 o12 o9 hlen3 hq3 hq4 hjl hg4 hl4 HC2 h8F h7F hB3
                go_wp2_with fail
                refine HC1.out.mono ?_
                rintro e w4 ⟨rfl, tv4, hd4, hs4⟩
                have k80 : w4.cell? ⟨b8, 0, none⟩ = some (.int .i64 dx.ways) := by
                  rw [hs4.cell (by simpa using g8z) H8F.out]; go_simp
                have k81 : w4.cell? ⟨b8, 1, none⟩ = some (.int .i64 (dx.deep + (pt - tk))) := by
                  rw [hs4.cell (by simpa using g8z) H8F.out]; go_simp
                have HD4 := Lib.hid hd4
                have HS4 := Lib.hid hs4
                have HC3 := HC2'.out w4 tv4 hd4 (Nat.le_trans HB3.out hs4.size)
                clear hd4 hs4
                go_wp2_with fail
                refine HC3.out.mono ?_
                rintro e w5 ⟨rfl, tv5, hd5, hs5⟩
                have HD5 := Lib.hid hd5
                have HS5 := Lib.hid hs5
                clear hd5 hs5
                go_wp2_with fail
                go_roundg (4 * code.length + 1 - (m + 1))
                case measure => have := HRUN.out.left; omega
                case rel =>
                  refine ⟨m + 1, Cd.round code s, tv5, rfl, HRUN.out.step HF.out (Cd.ways_of HF.out HLast.out) HNE.out, ?_, (HW3.out.trans (HD3.out.below HS4.out)).trans (HD4.out.below HS5.out)⟩
                  have e : Cd.round code s = Cd.comes (Cd.comes (s.1, s.2.dropLast) ja ⟨dx.ways, dx.deep + (pt - tk)⟩) (at_ + 1) ⟨dx.ways, dx.deep + (pt - tk)⟩ := by
                    unfold Cd.round
                    dsimp only
                    rw [HAT.out, HIX.out, HDX.out, if_neg HO.out.1, if_neg HO.out.2.1, if_pos HO.out.2.2, HJA.out, HTP.out.1, HTP.out.2]; rfl
                  rw [e]
                  exact HD5.out
              · have o8' : (ix.op == 8) = false := by rw [beq_eq_false_iff_ne]; exact o8
                have o9' : (ix.op == 9) = false := by rw [beq_eq_false_iff_ne]; exact o9
                have o11' : (ix.op == 11) = false := by rw [beq_eq_false_iff_ne]; exact fun e => o12 (.inr e)
                have o12' : (ix.op == 12) = false := by rw [beq_eq_false_iff_ne]; exact fun e => o12 (.inl e)
                have hlen3 : (s.1, s.2.dropLast).1.length = code.length := HRUN.out.good.len
                have hq3 : s.2.dropLast.length = q := by rw [List.length_dropLast, HQ.out]; rfl
                have hq4 : q ≤ 100000 := by have := HRUN.out.left; have := HQ.out; simp only [Cd.weight] at *; omega
                have hnx : at_ + 1 < code.length := (Cd.ways_of HF.out HLast.out).last at_ hat1 (by rw [HIX.out]; exact o8) (by rw [HIX.out]; exact fun e => o12 (.inr e)) (by rw [HIX.out]; exact fun e => o12 (.inl e))
                have HC1 := Lib.hid (comes_any w.heap.size w1.heap.size (w1.heap.size + 1 + 1) w.heap.size (.slice (some ⟨g, o, none⟩) q C) (s.1, s.2.dropLast) HD3.out (by simp; have := HS3.out.size; simp at this; omega) (at_ + 1) ⟨dx.ways, dx.deep + (pt - tk)⟩ (by rw [hlen3]; exact hnx) ⟨hat2, hat3⟩ (HRUN.out.good.le _) (by dsimp only; rw [hq3]; exact hq4))
                have HO := Lib.hid (And.intro o8 (And.intro o12 o9))
                clear o8 o12 o9 hlen3 hq3 hq4
                go_wp2_with fail
                refine HC1.out.mono ?_
                rintro e w4 ⟨rfl, tv4, hd4, hs4⟩
                have HD4 := Lib.hid hd4
                have HS4 := Lib.hid hs4
                clear hd4 hs4
                go_wp2_with fail
                go_roundg (4 * code.length + 1 - (m + 1))
                case measure => have := HRUN.out.left; omega
                case rel =>
                  refine ⟨m + 1, Cd.round code s, tv4, rfl, HRUN.out.step HF.out (Cd.ways_of HF.out HLast.out) HNE.out, ?_, HW3.out.trans (HD3.out.below HS4.out)⟩
                  have e : Cd.round code s = Cd.comes (s.1, s.2.dropLast) (at_ + 1) ⟨dx.ways, dx.deep + (pt - tk)⟩ := by
                    unfold Cd.round
                    dsimp only
                    rw [HAT.out, HIX.out, HDX.out, if_neg HO.out.1, if_neg HO.out.2.1, if_neg HO.out.2.2, HTP.out.1, HTP.out.2]
                  rw [e]
                  exact HD4.out
end Ck
end Go.Proofs.YtkepcdbogeineaaGreatDoor
