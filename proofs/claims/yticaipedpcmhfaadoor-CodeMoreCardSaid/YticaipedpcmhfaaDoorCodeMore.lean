/- CodeMore answers true on every run: code that Check takes is taken with a constant more that may be one, and with a procedure more just if Check takes that procedure where as many of it stand by themselves, and if not, it is that procedure that is told; proved from the walks of package code. Condition: the package-level tables hold, when the call begins, what the program text lays there (the card ties that). -/
import Derived.Test.YticaipedpcmhfaaDoorCkRow
import Derived.Test.YticaipedpcmhfaaDoorCkZ2
import Derived.Test.YticaipedpcmhfaaDoorCards
import Derived.Test.YticaipedpcmhfaaDoorTie
namespace Go.Proofs.YticaipedpcmhfaaDoor
open Go Go.ChangeShapes Go.WideShapes Go.ChangeAt Go.RowKit Hp
namespace codeMore
variable {H : Type} {enc : TypeId × Value → H} {W : World} {base : Nat} {spare : Nat → Bool} {held : Bool}

set_option maxRecDepth 100000 in
theorem proc_open {r : Reach} {b0 : Nat} {v : Value} {d : DataW H} {q : List MemPlace} (hsp : ∀ b, spare b = true) (hval : Value.okWide Tryd.prog W r b0 32 v) (h : DataW.Trod enc Tryd.prog W base spare held 32 v d q) (hlt : ∀ y ∈ q, y.block < W.heap.size) (hwt : ∀ n ∈ d.weights Tryd.prog 32, n ≤ reachBytes) : ∃ (p : Cd.Pr) (k : Value), v = .agg #[.int .i64 p.params, k] ∧ Ck.RIs W k p.code ∧ Ck.WPr p ∧ p.code.length ≤ 140737488351232 := by
  obtain ⟨a0, a1, y0, y1, fuel, rfl, hd, hp, k0, k1⟩ := Go.Joins.open_agg2 Tryd.underlying32 (by kernel_rfl) (by kernel_rfl) hval h
  rw [hd] at hwt
  simp only [DataW.weights, Tryd.underlying32] at hwt
  obtain ⟨a, e0, w0⟩ := trod_int_cell Tryd.underlying3 k0
  obtain ⟨l, r1, w1, z1⟩ := Ck.instrs_open hsp k1 (fun y hy => hlt y (by rw [hp]; simp [hy])) (fun n hn => hwt n (weights_each (j := 1) rfl rfl n hn))
  exact ⟨⟨a, l⟩, a1, by rw [e0], r1, ⟨wf_i64 w0, w1⟩, z1⟩

set_option maxHeartbeats 8000000 in
set_option maxRecDepth 100000 in
theorem lifted (os : Os) (started : os.Started) (H : Type) (enc : TypeId × Value → H) :
    ReturnsInHanded {} Tryd.checked os 4 .any (fun w args => (Rows.codeMoreSpec.pre enc Tryd.prog Tryd.f4 [] false w args ∧ laidMetH Tryd.prog Ck.laidL w) ∧ sizedMet enc Tryd.prog Tryd.f4 (OpenSpec.ofChange Rows.codeMoreSpec) false w args)
      (Rows.codeMoreSpec.post enc Tryd.prog Tryd.f4 false true false false) := by
  refine change_both (C := Tryd.checked) (X := fun w _ => laidMetH Tryd.prog Ck.laidL w) (fun _ _ _ hh h => h.of_heap hh) Ck.own started (by kernel_rfl) Tryd.func4
    (ChangeSpec.witness_shaped (enc := enc) (C := Tryd.checked) (os := os) (X := fun w _ => laidMetH Tryd.prog Ck.laidL w) false (World.laidAll Tryd.prog os Ck.laidL) #[.agg #[.slice none 0 0, .slice none 0 0, .slice none 0 0], .agg #[.int .i64 0, .slice none 0 0], .int .u64 0] 8 (World.laidAll_os _ _ _)
      (Ck.all_shaped os) (by kernel_rfl) (by kernel_rfl) (by kernel_rfl) (Ck.all_met os)) ?_
  intro W base args ds gs before hval0 hW _ hwt hL hsh
  have hW' := hW
  obtain ⟨p, q, hA0, hV, rfl, hfz, hnd⟩ := hW
  have hA : DataW.TrodAll enc Tryd.prog W 0 (fun _ => true) true Tryd.f4.params.toList args.toList ds p := hA0
  rw [Tryd.params4] at hA
  obtain ⟨v0, v1, v2, d0, d1, d2, p0, p1, p2, rfl, rfl, rfl, h0, h1, h2⟩ := trodAll_three hA
  obtain ⟨rfl, rfl⟩ := trodVars_none hV
  have hval : ∀ (j : Nat) t v, Tryd.f4.params[j]? = some t → (#[v0, v1, v2] : Array Value)[j]? = some v → Value.okWide Tryd.prog W .any base t v := hval0
  rw [Tryd.params4] at hval
  have hwt' : ∀ {j : Nat} {t : TypeId} {d : DataW H}, [29, 32, 34][j]? = some t → [d0, d1, d2][j]? = some d → ∀ n ∈ d.weights Tryd.prog t, n ≤ reachBytes := fun {j t d} ht hd n hn => by
    have := List.all_eq_true.1 hwt n (by
      rw [Tryd.params4]
      simp only [List.append_nil]
      exact DataW.weights_mem_each (ts := [29, 32, 34] ++ _) (by rw [List.getElem?_append_left (List.getElem?_eq_some_iff.1 ht).1]; exact ht) hd n hn)
    simpa using this
  clear hA0 hval0
  simp only [List.append_nil] at hW'
  have hlt : ∀ x ∈ p0 ++ p1 ++ p2, x.block < W.heap.size := fun x hx => by simpa using hW'.lt x hx
  obtain ⟨c, hc, hwc, hlc⟩ := Ck.code_open (fun _ => rfl) (hval 0 29 v0 rfl rfl) h0 (fun y hy => hlt y (by simp [hy])) (hwt' (j := 0) rfl rfl)
  obtain ⟨pr, kp, rfl, hkp, hwp, hzp⟩ := proc_open (fun _ => rfl) (hval 1 32 v1 rfl rfl) h1 (fun y hy => hlt y (by simp [hy])) (hwt' (j := 1) rfl rfl)
  obtain ⟨x, rfl, -, -, hwx⟩ := open_int Tryd.underlying34 (hval 2 34 v2 rfl rfl) h2
  obtain ⟨cv, pv, gv, rfl, hcr⟩ := hc
  refine (Ck.more_any cv pv gv c hcr hwc hlc (Ck.of_laid hL (Tryd.laysM145.s1_3 W hsh)) kp pr hkp hwp hzp x (wf_u64 hwx)).mono fun e W' ⟨he, hs⟩ => ?_
  subst he
  have hg := hs.below
  have hT0 := Below.trod (by kernel_rfl) (by kernel_rfl) (of_decide_eq_true (by kernel_rfl)) h0 hg (fun x hx => hlt x (by simp [hx]))
  have hT1 := Below.trod (by kernel_rfl) (by kernel_rfl) (of_decide_eq_true (by kernel_rfl)) h1 hg (fun x hx => hlt x (by simp [hx]))
  have hT2 := Below.trod (by kernel_rfl) (by kernel_rfl) (of_decide_eq_true (by kernel_rfl)) h2 hg (fun x hx => hlt x (by simp [hx]))
  exact ⟨_, rfl, _, _, _, [], _, [], hW', trodAll_cons_mk (shut_bool Tryd.underlying4 _) trodAll_mk0, by rw [Tryd.params4]; exact trodAll_mk3 hT0 hT1 hT2, rfl, hg.frame _, fun h => by cases h⟩

set_option maxHeartbeats 8000000 in
set_option maxRecDepth 100000 in
theorem row_holds : Rows.CodeMoreSaid :=
  OpenClaim.holds_of_wide 4 Tryd.f4 rfl rfl rfl rfl rfl rfl rfl ⟨rfl, rfl, rfl, rfl, rfl⟩ rfl rfl rfl rfl rfl (by kernel_rfl) Tryd.func4 (by kernel_rfl)
    (of_decide_eq_true (by kernel_rfl)) (by unfold Func.isWrapper; first | (rw [if_pos (by decide +kernel)]; kernel_rfl) | (rw [if_neg (by decide +kernel)]; exact ⟨rfl, rfl⟩))
    (fun os started H enc _ => lifted os started H enc)
end codeMore

set_option maxHeartbeats 8000000 in
set_option maxRecDepth 100000 in
theorem codeMore_holds : Rows.CodeMoreCardSaid :=
  Claim7.holds_tied_plain_at .later [] [.data, .data, .data, .data, .sentinel, .sentinel, .data, .data, .data] true (true, "23e811a047c7ebcc7da174f36d30a950c1a0ebfc6851f4f95d6eeb62d3093139") true
    codeMore.row_holds (fun _ h => by cases h) (by kernel_rfl) (fun _ h => by cases h) codeMore_row_tie rfl ⟨rfl, rfl⟩ (by kernel_rfl) rfl
    (fun f fn hf hfn => by
      obtain rfl : f = 4 := Option.some.inj ((show Tryd.prog.funcNamed "dapple/dapplelaw08.CodeMore" = some 4 by kernel_rfl).symm.trans hf) |>.symm
      obtain rfl : fn = Tryd.f4 := (Option.some.inj (Tryd.func4.symm.trans hfn)).symm
      exact ⟨by kernel_rfl, fun j t ht => by
        rw [Tryd.params4] at ht
        have hm : t ∈ [29, 32, 34] := by simpa using Array.mem_of_getElem? ht
        have hall : ([29, 32, 34].all fun u => !Tryd.prog.wantsStandIn u) = true := by kernel_rfl
        exact (show Tryd.prog.wantsStandIn t = false by simpa using List.all_eq_true.1 hall t hm)⟩)
    (by kernel_rfl)
#print axioms codeMore_holds
end Go.Proofs.YticaipedpcmhfaaDoor
