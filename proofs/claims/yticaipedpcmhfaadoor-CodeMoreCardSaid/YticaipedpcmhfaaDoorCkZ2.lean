/- Layer 8, the law CodeMore: its walk. -/
import Derived.Test.YticaipedpcmhfaaDoorCkX3
import Derived.Test.YticaipedpcmhfaaDoorCkO2
import Derived.Test.YticaipedpcmhfaaDoorCkZ1
import Derived.Test.YticaipedpcmhfaaDoorCdZ
import Derived.Deep.DeepCutAuto
import Derived.Deep.LoopGhost
namespace Go.Proofs.YticaipedpcmhfaaDoor
open Go.RowKit Hp
namespace Ck
variable {w w' : World}

/-- A constant more, if it may be one and there is room. -/
def moreC (c : Cd.Co) (x : Int) : List Int := if Cd.isWord x = true ∧ Cd.wordT x ≠ 8 ∧ c.consts.length < 1024 then c.consts ++ [x] else c.consts
theorem moreC_wider {c : Cd.Co} (g : Cd.GoodC c) (x : Int) : Cd.Wider c (moreC c x) := by
  unfold moreC
  split
  · rename_i h
    refine ⟨by rw [List.length_append]; simp; omega, by rw [List.length_append]; omega, fun y hy => ?_⟩
    rcases List.mem_append.1 hy with hy | hy
    · exact g.consts y hy
    · rw [List.mem_singleton.1 hy]; exact ⟨h.1, h.2.1⟩
  · exact ⟨g.lens.1, Nat.le_refl _, g.consts⟩
theorem moreC_in {c : Cd.Co} (hw : WCo c) {x : Int} (hx : 0 ≤ x ∧ x < 18446744073709551616) : ∀ y ∈ moreC c x, 0 ≤ y ∧ y < 18446744073709551616 := fun y hy => by
  unfold moreC at hy
  split at hy
  · rcases List.mem_append.1 hy with hy | hy
    · exact hw.consts y hy
    · rw [List.mem_singleton.1 hy]; exact hx
  · exact hw.consts y hy

def ofT' (x : Int) : Int := if Cd.isWord x then Cd.wordT x else 0
def ofN' (x : Int) : Int := if Cd.isWord x then Cd.wordN x else 0
theorem of_any' (x : Int) (hx : 0 ≤ x ∧ x < 18446744073709551616) (h : Vars w) : Calls Tryd.prog 9 #[.int .u64 x] w fun e w' => e = .returned (.tuple #[.int .u8 (ofT' x), .int .i64 (ofN' x), .bool (Cd.isWord x)]) ∧ w = w' := by
  refine (of_any x hx h).mono ?_
  rintro e w' ⟨rfl, rfl⟩
  refine ⟨?_, rfl⟩
  unfold ofT' ofN'
  cases Cd.isWord x <;> simp

theorem oneW (l : List Int) : ∀ u ∈ l.map (Value.int .u64), u.oneCell' = true := fun u hu => by obtain ⟨x, _, rfl⟩ := List.mem_map.1 hu; rfl
theorem oneS (l : List ByteArray) : ∀ u ∈ l.map Value.string, u.oneCell' = true := fun u hu => by obtain ⟨x, _, rfl⟩ := List.mem_map.1 hu; rfl
theorem oneP : ∀ (l : List Cd.Pr) (ks : List Value), (∀ k ∈ ks, ∃ A n c, k = .slice A n c) → ∀ u ∈ flatP l ks, u.oneCell' = true
  | [], _, _, u, hu => by simp [flatP] at hu
  | _ :: _, [], _, u, hu => by simp [flatP] at hu
  | p :: l, k :: ks, h, u, hu => by
    rw [show flatP (p :: l) (k :: ks) = .int .i64 p.params :: k :: flatP l ks from rfl] at hu
    rcases List.mem_cons.1 hu with rfl | hu
    · rfl
    · rcases List.mem_cons.1 hu with rfl | hu
      · obtain ⟨A, n, c, e⟩ := h u (by simp)
        rw [e]; rfl
      · exact oneP l ks (fun k hk => h k (by simp [hk])) u hu
theorem flatP_rep (p : Cd.Pr) (k : Value) : ∀ n, flatP (List.replicate n p) (List.replicate n k) ++ [.int .i64 p.params, k] = flatP (List.replicate (n + 1) p) (List.replicate (n + 1) k)
  | n => by rw [flatP_snoc _ _ p k (by simp), ← List.replicate_succ', ← List.replicate_succ']

theorem rep_getD {α : Type} (n i : Nat) (a d : α) (hi : i < n) : (List.replicate n a).getD i d = a := by
  rw [List.getD, List.getElem?_replicate, if_pos hi]; rfl
theorem ks_len (n : Nat) (kv : Nat → Value) : ((List.range n).map kv).length = n := by simp
theorem ks_at (n : Nat) (kv : Nat → Value) (i : Nat) (hi : i < n) : ((List.range n).map kv).getD i undef = kv i := by
  rw [List.getD, List.getElem?_map, List.getElem?_range hi]; rfl
theorem ks_flat (l : List Cd.Pr) (kv : Nat → Value) (i j : Nat) (hi : i < l.length) (hj : j < 2) : (flatP l ((List.range l.length).map kv))[i * 2 + j]? = some (fP l kv i j) := by
  rw [flatP_at l _ i j (by simp) hi hj]
  unfold fP
  dsimp only
  rw [ks_at l.length kv i hi]
theorem of_same (x : Int) (hx : 0 ≤ x ∧ x < 18446744073709551616) (h : Vars w) : Calls Tryd.prog 9 #[.int .u64 x] w fun e w' => e = .returned (.tuple #[.int .u8 (ofT' x), .int .i64 (ofN' x), .bool (Cd.isWord x)]) ∧ Same [] w w' :=
  (of_any' x hx h).mono fun _ _ h => ⟨h.1, h.2 ▸ Same.refl _ _⟩

set_option maxHeartbeats 8000000 in
set_option maxRecDepth 100000 in
theorem more_any (cv pv gv : Value) (c : Cd.Co) (hr : RCoAt w cv pv gv c) (hw : WCo c) (hl : Lens c) (hv : Vars w) (kp : Value) (p : Cd.Pr) (hkp : RIs w kp p.code) (hwp : WPr p) (hlp : p.code.length ≤ 140737488351232) (x : Int) (hx : 0 ≤ x ∧ x < 18446744073709551616) : Calls Tryd.prog 4 #[.agg #[cv, pv, gv], .agg #[.int .i64 p.params, kp], .int .u64 x] w fun e w' => e = .returned (.bool true) ∧ Same [] w w' := by
  obtain ⟨A1, c1, rfl, hc1, hc1'⟩ := hr.consts.form
  obtain ⟨kv, hps, hks⟩ := hr.procs
  obtain ⟨A2, c2, rfl, hc2, hc2'⟩ := hps.form
  obtain ⟨A3, c3, rfl, hc3, hc3'⟩ := hr.globals.form
  obtain ⟨A4, c4, rfl, hc4, hc4'⟩ := hkp.form
  have HR := Lib.hid hr
  have HW := Lib.hid hw
  have HV := Lib.hid hv
  have HL := Lib.hid hl
  have HPS := Lib.hid hps
  have HKS := Lib.hid hks
  have HKP := Lib.hid hkp
  have HWP := Lib.hid hwp
  have HX := Lib.hid hx
  obtain ⟨n4, hn4⟩ : ∃ n, n = p.code.length := ⟨_, rfl⟩
  rw [← hn4] at hc4 hlp ⊢
  have HN4 := Lib.hid hn4
  unfold maxLen at hc1' hc2' hc3' hc4'
  clear hr hw hv hl hps hks hkp hwp hx hn4
  go_enter Tryd.func4, Tryd.ntmps4
  go_wp2_with fail
  refine (works_any (HV.out.frame (((Same.refl [] _).alloc _).alloc _) (by simp))).mono ?_
  rintro e w1 ⟨rfl, hs1⟩
  have hb3 : Blk w1 w.heap.size 29 [.slice A1 c.consts.length c1, .slice A2 c.procs.length c2, .slice A3 c.globals.length c3] := Blk.frame ((Blk.new w _ _).alloc _) hs1 (by simp)
  have hb4 : Blk w1 (w.heap.size + 1) 32 [.int .i64 p.params, .slice A4 n4 c4] := Blk.frame (blk_at (by simp)) hs1 (by simp)
  have HS1 := Lib.hid ((((Same.refl [] w).alloc _).alloc _).trans hs1)
  have p0 := hb3.cell 0
  have p1 := hb3.cell 1
  have p2 := hb3.cell 2
  have q0 := hb4.cell 0
  have q1 := hb4.cell 1
  have bz := hb4.lt
  have HB3 := Lib.hid hb3
  have HB4 := Lib.hid hb4
  clear hb3 hb4 hs1
  have hofz := ofCn_le c HL.out
  have hw1 : IntKind.i64.wrap ((ofCn c : Int) + (n4 : Int)) = (ofCn c : Int) + (n4 : Int) := IntWalk.i64_in _ (by omega)
  go_upto_region 2 with fail
  go_cut [33] (fun s33 wc => s33 = .bool (decide ((8388608 : Int) < (ofCn c : Int) + (n4 : Int))) ∧ Same [] w1 wc)
  case first =>
    go_region_with ((go_simp; go_at_call 7; refine (ofCode_any _ c ⟨_, _, _, rfl, HR.out.frame (Same.trans HS1.out (by repeat (first | exact Same.refl _ _ | refine Same.drew ?_ | refine Same.drewN ?_ _))) ⟩ HL.out).mono ?_; rintro e w2 ⟨rfl, hs2⟩; have HS2 : Hid (Same [] w1 w2) := Lib.hid (Same.trans (by repeat (first | exact Same.refl _ _ | refine Same.drew ?_ | refine Same.drewN ?_ _)) hs2); have q12 := (HS2.out.cell bz (by simp)).trans q1; clear hs2))
    all_goals
      go_wp2_with fail
      go_meet
      exact ⟨rfl, (by repeat (first | exact HS2.out | refine Same.drew ?_ | refine Same.drewN ?_ _))⟩
  case rest =>
    obtain ⟨rfl, hs2⟩ := hcut
    have HS2 := Lib.hid (HS1.out.trans hs2)
    have hb3 := HB3.out.frame hs2 (by simp)
    have hb4 := HB4.out.frame hs2 (by simp)
    have p0 := hb3.cell 0
    have p1 := hb3.cell 1
    have p2 := hb3.cell 2
    have HB3 := Lib.hid hb3
    have HB4 := Lib.hid hb4
    clear hb3 hb4 hs2 q0 q1 bz hw1
    by_cases hmuch : (8388608 : Int) < (ofCn c : Int) + (n4 : Int)
    · go_wp2_with fail
      go_ret
      exact ⟨rfl, HS2.out⟩
    go_wp2_with fail
    refine (check_any _ c ⟨_, _, _, rfl, HR.out.frame HS2.out⟩ HW.out (HV.out.frame HS2.out (by simp))).mono ?_
    rintro e w3 ⟨rfl, hs3⟩
    have HS3 := Lib.hid (HS2.out.trans hs3)
    have hb3 := HB3.out.frame hs3 (by simp)
    have hb4 := HB4.out.frame hs3 (by simp)
    have p0 := hb3.cell 0
    have p1 := hb3.cell 1
    have p2 := hb3.cell 2
    have q0 := hb4.cell 0
    have q1 := hb4.cell 1
    have z3 := hb3.lt
    have z4 := hb4.lt
    have HB3 := Lib.hid hb3
    have HB4 := Lib.hid hb4
    clear hb3 hb4 hs3
    by_cases hok : (Cd.check Cd.sym c).1 = 0
    rotate_left
    · have hok' : ((Cd.check Cd.sym c).1 == 0) = false := by rw [beq_eq_false_iff_ne]; exact hok
      clear hok
      go_wp2_with fail
      go_ret
      exact ⟨rfl, HS3.out⟩
    have HG := Lib.hid (Cd.goodC_of hok)
    rw [hok]
    obtain ⟨hl1, hl2, hl3⟩ := HG.out.lens
    clear hok
    have hR1 : RO w3 (w3.alloc (.cells #[.slice none 0 0, .slice none 0 0, .slice none 0 0] 29)) w3.heap.size w3.heap.size w3.heap.size (.slice none 0 0) (.slice none 0 0) (.slice none 0 0) [] Cd.none_ :=
      ⟨World.ownsRow_nil _ _ _ _, World.ownsRow_nil _ _ _ _, World.ownsRow_nil _ _ _ _, rfl, fun i hi => absurd hi (by simp [Cd.none_]), Blk.new w3 _ _, (Same.refl _ _).alloc _, Nat.le_refl _, Nat.le_refl _, Nat.le_refl _⟩
    have HR1 := Lib.hid hR1
    have hn1 : ¬ w.heap.size = w3.heap.size := by omega
    have hn2 : ¬ w3.heap.size = w.heap.size := by omega
    have hn3 : ¬ w.heap.size + 1 = w3.heap.size := by omega
    have hn4 : ¬ w3.heap.size = w.heap.size + 1 := by omega
    clear hR1
    have hW3 : ∀ W, Same [] w3 W → RCoAt W (.slice A1 c.consts.length c1) (.slice A2 c.procs.length c2) (.slice A3 c.globals.length c3) c := fun W hs => HR.out.frame (HS3.out.trans hs)
    have HW3 := Lib.hid hW3
    clear hW3
    go_wp2_with (first
      | (at_builtin; refine wpList_app_sq _ rfl (.tmp 45) (.tmp 47) 25 rfl 34 (.int .u64 0) 1 8 Tryd.underlying25 infoW rfl (by decide) w3.heap.size ?a1 (.slice none 0 0) 0 [] rfl (World.ownsRow_nil _ _ _ _) A1 c.consts.length c1 (c.consts.map (Value.int .u64)) rfl ?a2 ?a3 ?a4 ?a5 ?a6 ?a7 ?app1))
    case a1 => simp
    case a2 => simp
    case a3 => exact ((HW3.out w3 (Same.refl _ _)).consts.src (by simp) (fW_at c.consts)).1
    case a4 => exact ((HW3.out _ ((Same.refl _ _).alloc _)).consts.src (by simp) (fW_at c.consts)).2
    case a5 => exact oneW _
    case a6 => unfold maxLen; omega
    case a7 => omega
    case app1 =>
      intro A' C' w4 hown hsa
      obtain ⟨r0, r1, r2, rz, rf⟩ := HR1.out.boxAfter (.inl rfl) hsa
      have HR2 : Hid (RO w3 (w4.setCell ⟨w3.heap.size, 0, none⟩ (.slice A' c.consts.length C')) w3.heap.size w3.heap.size w3.heap.size (.slice A' c.consts.length C') (.slice none 0 0) (.slice none 0 0) [] ⟨c.consts, [], []⟩) := Lib.hid (HR1.out.setC hsa (by simpa using hown))
      have hq := HR1.out.sameAfter (.inl rfl) hsa
      have p2 := (HB3.out.frame hq (by simp)).cell 2
      have z3' := (HB3.out.frame hq (by simp)).lt
      clear hown hsa hq
      go_wp2_with (first
        | (at_builtin; refine wpList_app_sq _ rfl (.tmp 51) (.tmp 53) 27 rfl 9 (.string ⟨#[]⟩) 1 16 Tryd.underlying27 infoS rfl (by decide) w3.heap.size ?b1 (.slice none 0 0) 0 [] rfl (World.ownsRow_nil _ _ _ _) A3 c.globals.length c3 (c.globals.map Value.string) rfl ?b2 ?b3 ?b4 ?b5 ?b6 ?b7 ?app2))
      case b1 => exact HR2.out.same.size
      case b2 => simp
      case b3 => exact ((HW3.out w3 (Same.refl _ _)).globals.src (by simp) (fS_at c.globals)).1
      case b4 => exact ((HW3.out _ HR2.out.same).globals.src (by simp) (fS_at c.globals)).2
      case b5 => exact oneS _
      case b6 => unfold maxLen; omega
      case b7 => omega
      case app2 =>
        intro A'' C'' w5 hown hsa
        have HR2' := Lib.hid (HR2.out.boxAfter (.inr (.inl rfl)) hsa)
        have HR3 : Hid (RO w3 (w5.setCell ⟨w3.heap.size, 2, none⟩ (.slice A'' c.globals.length C'')) w3.heap.size w3.heap.size w3.heap.size (.slice A' c.consts.length C') (.slice none 0 0) (.slice A'' c.globals.length C'') [] ⟨c.consts, c.globals, []⟩) := Lib.hid (HR2.out.setG hsa (by simpa using hown))
        have hq := HR2.out.sameAfter (.inr (.inl rfl)) hsa
        have p1 := (HB3.out.frame hq (by simp)).cell 1
        clear hown hsa r0 r1 r2 rz rf hq p2
        obtain ⟨r0, r1, r2, rz, rf⟩ := HR2'.out
        go_wp2_with (first
          | (at_builtin; refine wpList_app_sq _ rfl (.tmp 57) (.tmp 59) 26 rfl 32 (.agg #[.int .i64 0, .slice none 0 0]) 2 32 Tryd.underlying26 infoP rfl (by decide) w3.heap.size ?c1 (.slice none 0 0) 0 [] rfl (World.ownsRow_nil _ _ _ _) A2 c.procs.length c2 (flatP c.procs ((List.range c.procs.length).map kv)) rfl ?c2 ?c3 ?c4 ?c5 ?c6 ?c7 ?app3))
        case c1 => exact HR3.out.same.size
        case c2 => rw [flatP_len _ _ (by simp)]
        case c3 => exact (HPS.out.src (by rw [flatP_len _ _ (by simp)]) (ks_flat c.procs kv)).1
        case c4 => exact ((HPS.out.frame (HS3.out.trans HR3.out.same)).src (by rw [flatP_len _ _ (by simp)]) (ks_flat c.procs kv)).2
        case c5 => exact oneP _ _ (fun k hk => by
          obtain ⟨i, hi, rfl⟩ := List.mem_map.1 hk
          obtain ⟨A, cap, e, _⟩ := (HKS.out i (List.mem_range.1 hi)).form
          exact ⟨A, _, cap, e⟩)
        case c6 => unfold maxLen; omega
        case c7 => omega
        case app3 =>
          intro Ap Cp w6 hown hsa
          have HR3' := Lib.hid (HR3.out.boxAfter (.inr (.inr rfl)) hsa)
          have HR4 : Hid (RO w3 (w6.setCell ⟨w3.heap.size, 1, none⟩ (.slice Ap c.procs.length Cp)) w3.heap.size w3.heap.size w3.heap.size (.slice A' c.consts.length C') (.slice Ap c.procs.length Cp) (.slice A'' c.globals.length C'') ((List.range c.procs.length).map kv) ⟨c.consts, c.globals, c.procs⟩) := Lib.hid (HR3.out.setP hsa (by simpa using hown) (by simp) (fun i hi => by rw [ks_at _ _ _ hi]; exact (HKS.out i hi).frame HS3.out))
          clear hown hsa r0 r1 r2 rz rf p1
          obtain ⟨r0, r1, r2, rz, rf⟩ := HR3'.out
          clear HR1 HR2 HR3 HR2' HR3'
          have hof := fun W (hs : Same [] w3 W) => of_same (w := W) x HX.out (HV.out.frame (HS3.out.trans hs) (by simp))
          obtain ⟨bw, hbw⟩ : ∃ b, b = Cd.isWord x := ⟨_, rfl⟩
          obtain ⟨tw, htw⟩ : ∃ b, b = ofT' x := ⟨_, rfl⟩
          rw [← hbw, ← htw] at hof
          have HOF := Lib.hid hof
          have HBW := Lib.hid hbw
          have HTW := Lib.hid htw
          clear hof hbw htw
          go_wp2_with fail
          refine (HOF.out _ HR4.out.same).mono ?_
          rintro e w7 ⟨rfl, hs7⟩
          have HR5 := Lib.hid (HR4.out.frame hs7)
          clear hs7 r0 r1 r2 rz rf HOF HR4
          have p0 := (HB3.out.frame HR5.out.same (by simp)).cell 0
          go_upto_region 12 with fail
          go_cut [78] (fun s78 wc => s78 = .bool (decide (Cd.isWord x = true ∧ Cd.wordT x ≠ 8 ∧ c.consts.length < 1024)) ∧ Same [] w7 wc)
          case first =>
            cases bw
            · go_wp2_with fail
              go_meet
              exact ⟨by rw [decide_eq_false (fun h => by rw [← HBW.out] at h; cases h.1)], Same.refl _ _⟩
            · have ht : tw = Cd.wordT x := by rw [HTW.out]; unfold ofT'; rw [← HBW.out]; rfl
              have HT := Lib.hid ht
              clear ht
              by_cases h8 : Cd.wordT x = 8
              · have H8 := Lib.hid h8
                obtain rfl : tw = 8 := by rw [HT.out, h8]
                clear h8
                go_wp2_with fail
                go_meet
                exact ⟨by rw [decide_eq_false (fun h => h.2.1 H8.out)], Same.refl _ _⟩
              · have e8 : (tw == 8) = false := by rw [HT.out, beq_eq_false_iff_ne]; exact h8
                have e8n : (tw != 8) = true := by rw [bne, e8]; rfl
                have e8m : ¬ tw = 8 := by rw [HT.out]; exact h8
                have H8 := Lib.hid h8
                clear h8
                go_wp2_with fail
                go_meet
                refine ⟨?_, Same.refl _ _⟩
                congr 1
                rw [decide_eq_decide]
                exact ⟨fun h => ⟨HBW.out.symm, H8.out, by omega⟩, fun h => by omega⟩
          case rest =>
            obtain ⟨rfl, hs8⟩ := hcut
            have HR6 := Lib.hid (HR5.out.frame hs8)
            clear hs8 HR5 p0
            obtain ⟨bb, hbb⟩ : ∃ b, b = decide (Cd.isWord x = true ∧ Cd.wordT x ≠ 8 ∧ c.consts.length < 1024) := ⟨_, rfl⟩
            rw [← hbb]
            have HBB := Lib.hid hbb
            clear hbb
            go_upto_if 78 with fail
            go_cut [] (fun wx => ∃ cvx, RO w3 wx w3.heap.size w3.heap.size w3.heap.size cvx (.slice Ap c.procs.length Cp) (.slice A'' c.globals.length C'') ((List.range c.procs.length).map kv) ⟨moreC c x, c.globals, c.procs⟩)
            case first =>
              obtain ⟨r0, r1, r2, rz, rf⟩ := HR6.out.cells
              cases bb
              · go_wp2_with fail
                go_meet
                exact ⟨_, by
                  have := HR6.out
                  unfold moreC
                  rw [if_neg (fun h => by have := HBB.out; rw [decide_eq_true h] at this; cases this)]
                  exact this⟩
              · have hsz6 := HR6.out.same.size
                go_wp2_with (first
                  | (at_builtin; refine wpList_app_sq _ rfl (.tmp 80) (.tmp 82) 25 rfl 34 (.int .u64 0) 1 8 Tryd.underlying25 infoW rfl (by decide) w3.heap.size ?d1 (.slice A' c.consts.length C') c.consts.length (c.consts.map (Value.int .u64)) rfl ?d0 (some _) 1 1 [.int .u64 x] rfl rfl ?d3 ?d4 ?d5 ?d6 ?d7 ?app4))
                case d0 => exact (HR6.out.frame ((Same.refl [] _).alloc _)).cr
                case d1 => simp; omega
                case d3 => exact fun h => by cases h
                case d4 =>
                  intro ad hA
                  injection hA with hA
                  subst hA
                  exact news1 (blk_at (by simp))
                case d5 => exact one1 rfl
                case d6 => unfold maxLen; omega
                case d7 => omega
                case app4 =>
                  intro A5 C5 w9 hown hsa
                  have hR7 := HR6.out.frame ((Same.refl [] _).alloc (.cells #[.int .u64 x] 34))
                  have HRA := Lib.hid (hR7.boxAfter (.inl rfl) hsa)
                  have HR8 := Lib.hid (hR7.setC (cs := c.consts ++ [x]) hsa (by simpa using hown))
                  clear hown hsa hR7 r0 r1 r2 rz rf
                  obtain ⟨r0, r1, r2, rz, rf⟩ := HRA.out
                  go_wp2_with fail
                  go_meet
                  exact ⟨_, by
                    have := HR8.out
                    unfold moreC
                    rw [if_pos (of_decide_eq_true HBB.out.symm)]
                    exact this⟩
            case rest =>
              obtain ⟨cvx, hR7⟩ := hcut
              have HKQ : Hid (RIs w3 (.slice A4 n4 c4) p.code) := Lib.hid (by rw [HN4.out]; exact HKP.out.frame HS3.out)
              have HWM : Hid (∀ ps : List Cd.Pr, (∀ q ∈ ps, q ∈ c.procs ∨ q = p) → WCo ⟨moreC c x, c.globals, ps⟩) := Lib.hid (fun ps hq => ⟨moreC_in HW.out HX.out, HW.out.globals, fun q hm => by
                rcases hq q hm with h | h
                · exact HW.out.procs q h
                · rw [h]; exact HWP.out⟩)
              have HWD := Lib.hid (moreC_wider HG.out x)
              obtain ⟨cs, hcs⟩ : ∃ l, l = moreC c x := ⟨_, rfl⟩
              rw [← hcs] at hR7 HWM HWD
              obtain ⟨Ac, Cc, hcv⟩ := (own_zero hR7.cr).lit
              dsimp only at hcv
              subst hcv
              obtain ⟨r0, r1, r2, rz, rf⟩ := hR7.cells
              have HCK := Lib.hid (fun (hv' : Vars _) => check_any (.agg #[.slice Ac cs.length Cc, .slice Ap c.procs.length Cp, .slice A'' c.globals.length C'']) ⟨cs, c.globals, c.procs⟩ ⟨_, _, _, rfl, hR7.read⟩ (HWM.out _ (fun q h => .inl h)) hv')
              have HR7 := Lib.hid hR7
              clear hR7 hcs HBB HR6
              go_wp2_with fail
              refine (HCK.out (HV.out.frame (HS3.out.trans HR7.out.same) (by simp))).mono ?_
              rintro e w8 ⟨rfl, hs8⟩
              rw [Cd.check_one HG.out HWD.out]
              have HR8 := Lib.hid (HR7.out.frame hs8)
              clear HCK HR7 hs8 r0 r1 r2 rz rf
              obtain ⟨r0, r1, r2, rz, rf⟩ := HR8.out.cells
              have p1 := (HB3.out.frame HR8.out.same (by simp)).cell 1
              by_cases hbig : 256 ≤ c.procs.length
              · go_wp2_with fail
                go_ret
                exact ⟨rfl, HS3.out.trans HR8.out.same⟩
              have HR9 : Hid (RO w3 (w8.alloc (.cells #[.slice Ac cs.length Cc, .slice none 0 0, .slice A'' c.globals.length C''] 29)) w3.heap.size w8.heap.size w8.heap.size (.slice Ac cs.length Cc) (.slice none 0 0) (.slice A'' c.globals.length C'') [] ⟨cs, c.globals, []⟩) := Lib.hid
                ⟨own_frame HR8.out.cr ((Same.refl [] _).alloc _) (by simp), own_frame HR8.out.gr ((Same.refl [] _).alloc _) (by simp), World.ownsRow_nil _ _ _ _, rfl, fun i hi => absurd hi (by simp), Blk.new w8 _ _, HR8.out.same.alloc _, Nat.le_refl _, HR8.out.same.size, HR8.out.same.size⟩
              have hz8 := HR8.out.same.size
              have hz8' := HR8.out.cells.2.2.2.1
              have HMORE := Lib.hid (Cd.check_more HG.out HWD.out p (by omega))
              go_wp2_with fail
              go_loopg [19] (c.procs.length + 1) (fun gk i wr => ∃ (k : Nat) (pvx : Value), k ≤ c.procs.length + 1 ∧ gk = c.procs.length + 1 - k ∧ i = .int .i64 k ∧ RO w3 wr w3.heap.size w8.heap.size w8.heap.size (.slice Ac cs.length Cc) pvx (.slice A'' c.globals.length C'') (List.replicate k (.slice A4 n4 c4)) ⟨cs, c.globals, List.replicate k p⟩ ∧ Same [] w8 wr)
              case atStart => exact ⟨0, _, by omega, rfl, rfl, HR9.out, (Same.refl _ _).alloc _⟩
              case round =>
                obtain ⟨k, pvx, hk, rfl, rfl, hRA, hs⟩ := hrel
                have HRA := Lib.hid hRA
                have HSA := Lib.hid hs
                have HR8b := Lib.hid (HR8.out.frame hs)
                have p1 := (HB3.out.frame HR8b.out.same (by simp)).cell 1
                have q0 := (HB4.out.frame HR8b.out.same (by simp)).cell 0
                have q1 := (HB4.out.frame HR8b.out.same (by simp)).cell 1
                have z4 := (HB4.out.frame HR8b.out.same (by simp)).lt
                have hz8r := hs.size
                obtain ⟨Aq, Cq, hpv⟩ : ∃ A C, pvx = .slice A k C := by
                  have := (own_zero hRA.pr).lit
                  simpa using this
                subst hpv
                obtain ⟨a0, a1, a2, az, af⟩ := HRA.out.cells
                clear hRA hs r0 r1 r2 rz rf
                by_cases hlt : k ≤ c.procs.length
                · go_wp2_with (first
                    | (at_builtin; refine wpList_app_sq _ rfl (.tmp 111) (.tmp 113) 26 rfl 32 (.agg #[.int .i64 0, .slice none 0 0]) 2 32 Tryd.underlying26 infoP rfl (by decide) w8.heap.size ?e1 (.slice Aq k Cq) k (flatP (List.replicate k p) (List.replicate k (.slice A4 n4 c4))) rfl ?e0 (some _) 1 1 [.int .i64 p.params, .slice A4 n4 c4] rfl rfl ?e3 ?e4 ?e5 ?e6 ?e7 ?app5))
                  case e0 =>
                    have := (HRA.out.frame ((Same.refl [] _).alloc (.cells #[.int .i64 p.params, .slice A4 n4 c4] 32))).pr
                    rw [List.length_replicate] at this
                    exact this
                  case e1 => simp; omega
                  case e3 => exact fun h => by cases h
                  case e4 =>
                    intro ad hA
                    injection hA with hA
                    subst hA
                    exact news2 (blk_at (by simp))
                  case e5 => exact one2 rfl rfl
                  case e6 => unfold maxLen; omega
                  case e7 => omega
                  case app5 =>
                    intro A5 C5 w9 hown hsa
                    have hR0 := HRA.out.frame ((Same.refl [] _).alloc (.cells #[.int .i64 p.params, .slice A4 n4 c4] 32))
                    have HRB := Lib.hid (hR0.boxAfter (.inr (.inr rfl)) hsa)
                    have HRC := Lib.hid (hR0.setP (ps := List.replicate (k + 1) p) (ks := List.replicate (k + 1) (.slice A4 n4 c4)) (v2 := .slice A5 (k + 1) C5) hsa (by rw [List.length_replicate, ← flatP_rep]; exact hown) (by simp) (fun i hi => by
                      have hi : i < k + 1 := by simpa using hi
                      rw [rep_getD _ _ _ _ hi, rep_getD _ _ _ _ hi]; exact HKQ.out))
                    have HSB : Hid (Same [] w8 (w9.setCell ⟨w8.heap.size, 1, none⟩ (.slice A5 (k + 1) C5))) := Lib.hid (((HSA.out.alloc _).trans' hsa (fun b hm => .inr (own_above hR0.pr (opt_mem hm)))).setCell (.inr (Nat.le_refl _)) _)
                    clear hown hsa hR0 a0 a1 a2 az af
                    obtain ⟨a0, a1, a2, az, af⟩ := HRB.out
                    go_wp2_with fail
                    go_roundg (c.procs.length + 1 - (k + 1))
                    case measure => omega
                    case rel => exact ⟨k + 1, _, by omega, rfl, by go_num, HRC.out, HSB.out⟩
                · obtain rfl : k = c.procs.length + 1 := by omega
                  obtain ⟨r0, r1, r2, rz, rf⟩ := HR8b.out.cells
                  have HPB : Hid (∀ b, (Value.slice Ap c.procs.length Cp).ownBlock = some b → b < w8.heap.size) := Lib.hid (fun b hb => (own_zero HR8.out.pr).lt hb)
                  go_wp2_with (first
                    | (at_builtin; refine wpList_app_sq _ rfl (.tmp 117) (.tmp 119) 26 rfl 32 (.agg #[.int .i64 0, .slice none 0 0]) 2 32 Tryd.underlying26 infoP rfl (by decide) w3.heap.size ?f1 (.slice Ap c.procs.length Cp) c.procs.length (flatP c.procs ((List.range c.procs.length).map kv)) rfl ?f0 (some _) 1 1 [.int .i64 p.params, .slice A4 n4 c4] rfl rfl ?f3 ?f4 ?f5 ?f6 ?f7 ?app6))
                  case f0 => exact (HR8b.out.frame ((Same.refl [] _).alloc _)).pr
                  case f1 => simp; omega
                  case f3 => exact fun h => by cases h
                  case f4 =>
                    intro ad hA
                    injection hA with hA
                    subst hA
                    exact news2 (blk_at (by simp))
                  case f5 => exact one2 rfl rfl
                  case f6 => unfold maxLen; omega
                  case f7 => omega
                  case app6 =>
                    intro A5 C5 w9 hown hsa
                    have hR0 := HR8b.out.frame ((Same.refl [] _).alloc (.cells #[.int .i64 p.params, .slice A4 n4 c4] 32))
                    have hA0 := HRA.out.frame ((Same.refl [] _).alloc (.cells #[.int .i64 p.params, .slice A4 n4 c4] 32))
                    have HRB := Lib.hid (hR0.boxAfter (.inr (.inr rfl)) hsa)
                    have HB1 := hR0.blkAfter (.inr (.inr rfl)) hsa
                    have HRO := Lib.hid (hR0.setP (ps := c.procs ++ [p]) (ks := (List.range c.procs.length).map kv ++ [.slice A4 n4 c4]) (v2 := .slice A5 (c.procs.length + 1) C5) hsa (by rw [List.length_append, List.length_singleton, ← flatP_snoc _ _ _ _ (by simp)]; exact hown) (by simp) (fun i hi => by
                      rw [List.length_append, List.length_singleton] at hi
                      rw [getD_snoc, getD_snoc, ks_len]
                      by_cases h1 : i < c.procs.length
                      · rw [if_pos h1, if_pos h1, ks_at _ _ _ h1]
                        exact (HKS.out i h1).frame HS3.out
                      · rw [if_neg h1, if_neg h1, if_pos (by omega), if_pos (by omega)]
                        exact HKQ.out))
                    have hA1 := hA0.below hsa hR0.pr (Nat.le_refl _) HPB.out
                    have HAC := Lib.hid hA1.cells
                    have HAO := Lib.hid (hA1.setOther (i := 1) HB1 (by omega) (Nat.le_refl _) (.slice A5 (c.procs.length + 1) C5))
                    clear hown hsa hR0 hA0 HB1 hA1 r0 r1 r2 rz rf a0 a1 a2 az af
                    obtain ⟨r0, r1, r2, rz, rf⟩ := HRB.out
                    obtain ⟨a0, a1, a2, az, af⟩ := HAC.out
                    have hn5 : ¬ w8.heap.size = w3.heap.size := by omega
                    have hn6 : ¬ w3.heap.size = w8.heap.size := by omega
                    obtain ⟨RA, hRA⟩ : ∃ r, r = Cd.check Cd.sym ⟨cs, c.globals, List.replicate (c.procs.length + 1) p⟩ := ⟨_, rfl⟩
                    obtain ⟨RB, hRB⟩ : ∃ r, r = Cd.check Cd.sym ⟨cs, c.globals, c.procs ++ [p]⟩ := ⟨_, rfl⟩
                    have hmore := HMORE.out
                    rw [← hRA, ← hRB] at hmore
                    have HC1 : Hid (∀ W, Same [] (w9.setCell ⟨w3.heap.size, 1, none⟩ (.slice A5 (c.procs.length + 1) C5)) W → Calls Tryd.prog 8 #[.agg #[.slice Ac cs.length Cc, .slice Aq (c.procs.length + 1) Cq, .slice A'' c.globals.length C'']] W (Chk RA W)) := Lib.hid (fun W hs => by
                      rw [hRA]
                      exact check_any _ _ ⟨_, _, _, rfl, (HAO.out.frame hs).read⟩ (HWM.out _ (fun q hq => .inr (List.eq_of_mem_replicate hq))) (HV.out.frame (HS3.out.trans (HAO.out.frame hs).same) (by simp)))
                    have HC2 : Hid (∀ W, Same [] (w9.setCell ⟨w3.heap.size, 1, none⟩ (.slice A5 (c.procs.length + 1) C5)) W → Calls Tryd.prog 8 #[.agg #[.slice Ac cs.length Cc, .slice A5 (c.procs.length + 1) C5, .slice A'' c.globals.length C'']] W (Chk RB W)) := Lib.hid (fun W hs => by
                      rw [hRB]
                      exact check_any _ _ ⟨_, _, _, rfl, (HRO.out.frame hs).read⟩ (HWM.out _ (fun q hq => by
                        rcases List.mem_append.1 hq with h | h
                        · exact .inl h
                        · exact .inr (List.mem_singleton.1 h))) (HV.out.frame (HS3.out.trans (HRO.out.frame hs).same) (by simp)))
                    have HM := Lib.hid hmore
                    have HX1 := Lib.hid hRA
                    have HX2 := Lib.hid hRB
                    clear hmore hRA hRB
                    go_wp2_with fail
                    refine (HC1.out _ (Same.refl _ _)).mono ?_
                    rintro e w10 ⟨rfl, hs10⟩
                    have HS10 := Lib.hid hs10
                    obtain ⟨r0, r1, r2, rz, rf⟩ := (HRO.out.frame hs10).cells
                    clear hs10 a0 a1 a2 az af
                    go_wp2_with fail
                    refine (HC2.out _ HS10.out).mono ?_
                    rintro e w11 ⟨rfl, hs11⟩
                    have HS11 := Lib.hid (HS10.out.trans hs11)
                    have p1 := (HB3.out.frame ((HRO.out.frame HS11.out).same) (by simp)).cell 1
                    have hfin : Same [] w w11 := HS3.out.trans (HRO.out.frame HS11.out).same
                    have HFIN := Lib.hid hfin
                    clear hs11 hfin r0 r1 r2 rz rf q0 q1
                    by_cases hz : RB.1 = 0
                    · have e1 : (RB.1 == 0) = true := by rw [hz]; rfl
                      have e2 : (RA.1 == 0) = true := by rw [HM.out.1.2 hz]; rfl
                      clear hz
                      go_wp2_with fail
                      go_ret
                      exact ⟨rfl, HFIN.out⟩
                    · have e1 : (RB.1 == 0) = false := by rw [beq_eq_false_iff_ne]; exact hz
                      have e2 : (RA.1 == 0) = false := by rw [beq_eq_false_iff_ne]; exact fun h => hz (HM.out.1.1 h)
                      have e3 : ((RB.2.1 : Int) == (c.procs.length : Int)) = true := by
                        rcases HM.out.2 with h | h
                        · exact absurd h hz
                        · rw [h]; simp
                      clear hz
                      go_wp2_with fail
                      go_ret
                      exact ⟨rfl, HFIN.out⟩
end Ck
end Go.Proofs.YticaipedpcmhfaaDoor
