/- CodeWays answers true on every run: through a procedure of code that Check takes, whichever arm each branch takes, a way never runs off the end, never takes what is not there, never has more than 255 words, and comes to each place with one depth; proved from the walks of package code's functions and of what Check's rounds over the places keep. Condition: the package-level tables hold, when the call begins, what the program's text lays there (the card ties that). -/
import Derived.Test.YticaipedpcmhfaaDoorCkRow
import Derived.Test.YticaipedpcmhfaaDoorCkY2
import Derived.Test.YticaipedpcmhfaaDoorCards
import Derived.Test.YticaipedpcmhfaaDoorTie
namespace Go.Proofs.YticaipedpcmhfaaDoor
open Go Go.ChangeShapes Go.WideShapes Go.ChangeAt Go.RowKit Hp
namespace codeWays
variable {H : Type} {enc : TypeId × Value → H} {W : World} {base : Nat} {spare : Nat → Bool} {held : Bool}

set_option maxRecDepth 100000 in
theorem bools_open {fuel : Nat} {v : Value} {x : DataW H × List MemPlace} (hsp : ∀ b, spare b = true) (h : DataW.trod enc Tryd.prog W base spare held fuel 43 [v] = some x) (hlt : ∀ y ∈ x.2, y.block < W.heap.size) (hwt : ∀ n ∈ x.1.weights Tryd.prog 43, n ≤ reachBytes) : ∃ (A : Option Addr) (n cap : Nat) (F : Nat → Value), v = .slice A n cap ∧ Ck.Sq W v n 1 (fun i _ => F i) ∧ ∀ i, i < n → ∃ b : Bool, F i = .bool b := by
  obtain ⟨A, n, cap, F, rfl, h1, h2, hcb, h3, h4⟩ := Hp.open_row 1 (by decide) Tryd.underlying43 (by kernel_rfl) hsp h hlt hwt
  refine ⟨A, n, cap, fun i => F i 0, rfl, Ck.sq_of h1 h2 h3 (fun i j _ hj => Nat.lt_one_iff.1 hj ▸ rfl), fun i hi => ?_⟩
  obtain ⟨m, y, hy, -⟩ := h4 i hi
  have hy' : DataW.trod enc Tryd.prog W base spare held m 4 [F i 0] = some y := hy
  exact trod_bool_cell Tryd.underlying4 hy'

set_option maxHeartbeats 8000000 in
set_option maxRecDepth 100000 in
theorem lifted (os : Os) (started : os.Started) (H : Type) (enc : TypeId × Value → H) :
    ReturnsInHanded {} Tryd.checked os 5 .any (fun w args => (Rows.codeWaysSpec.pre enc Tryd.prog Tryd.f5 [] false w args ∧ laidMetH Tryd.prog Ck.laidL w) ∧ sizedMet enc Tryd.prog Tryd.f5 (OpenSpec.ofChange Rows.codeWaysSpec) false w args)
      (Rows.codeWaysSpec.post enc Tryd.prog Tryd.f5 false true false false) := by
  refine change_both (C := Tryd.checked) (X := fun w _ => laidMetH Tryd.prog Ck.laidL w) (fun _ _ _ hh h => h.of_heap hh) Ck.own started (by kernel_rfl) Tryd.func5
    (ChangeSpec.witness_shaped (enc := enc) (C := Tryd.checked) (os := os) (X := fun w _ => laidMetH Tryd.prog Ck.laidL w) false (World.laidAll Tryd.prog os Ck.laidL) #[.agg #[.slice none 0 0, .slice none 0 0, .slice none 0 0], .int .i64 0, .slice none 0 0] 8 (World.laidAll_os _ _ _)
      (Ck.all_shaped os) (by kernel_rfl) (by kernel_rfl) (by kernel_rfl) (Ck.all_met os)) ?_
  intro W base args ds gs before hval0 hW _ hwt hL hsh
  have hW' := hW
  obtain ⟨p, q, hA0, hV, rfl, hfz, hnd⟩ := hW
  have hA : DataW.TrodAll enc Tryd.prog W 0 (fun _ => true) true Tryd.f5.params.toList args.toList ds p := hA0
  rw [Tryd.params5] at hA
  obtain ⟨v0, v1, v2, d0, d1, d2, p0, p1, p2, rfl, rfl, rfl, h0, h1, h2⟩ := trodAll_three hA
  obtain ⟨rfl, rfl⟩ := trodVars_none hV
  have hval : ∀ (j : Nat) t v, Tryd.f5.params[j]? = some t → (#[v0, v1, v2] : Array Value)[j]? = some v → Value.okWide Tryd.prog W .any base t v := hval0
  rw [Tryd.params5] at hval
  have hwt' : ∀ {j : Nat} {t : TypeId} {d : DataW H}, [29, 3, 43][j]? = some t → [d0, d1, d2][j]? = some d → ∀ n ∈ d.weights Tryd.prog t, n ≤ reachBytes := fun {j t d} ht hd n hn => by
    have := List.all_eq_true.1 hwt n (by
      rw [Tryd.params5]
      simp only [List.append_nil]
      exact DataW.weights_mem_each (ts := [29, 3, 43] ++ _) (by rw [List.getElem?_append_left (List.getElem?_eq_some_iff.1 ht).1]; exact ht) hd n hn)
    simpa using this
  clear hA0 hval0
  simp only [List.append_nil] at hW'
  have hlt : ∀ x ∈ p0 ++ p1 ++ p2, x.block < W.heap.size := fun x hx => by simpa using hW'.lt x hx
  obtain ⟨c, hc, hwc, hlc⟩ := Ck.code_open (fun _ => rfl) (hval 0 29 v0 rfl rfl) h0 (fun y hy => hlt y (by simp [hy])) (hwt' (j := 0) rfl rfl)
  obtain ⟨a, rfl, -, -, hwa⟩ := open_int Tryd.underlying3 (hval 1 3 v1 rfl rfl) h1
  obtain ⟨A0, n0, cap0, e0⟩ := okWide_slice Tryd.underlying43 (hval 2 43 v2 rfl rfl)
  have h2k := h2
  obtain ⟨n2, k2⟩ := h2k
  rw [e0] at k2
  obtain ⟨A, na, ca, F, e2, hsq, hbo⟩ := bools_open (fun _ => rfl) k2 (fun y hy => hlt y (by simp [hy])) (hwt' (j := 2) rfl rfl)
  rw [← e0] at e2 hsq
  subst e2
  obtain ⟨cv, pv, gv, rfl, hcr⟩ := hc
  refine (Ck.ways_any cv pv gv c hcr hwc hlc (Ck.of_laid hL (Tryd.laysM145.s1_3 W hsh)) a (wf_i64 hwa) A na ca F hsq hbo).mono fun e W' ⟨he, hs⟩ => ?_
  subst he
  have hg := hs.below
  have hT0 := Below.trod (by kernel_rfl) (by kernel_rfl) (of_decide_eq_true (by kernel_rfl)) h0 hg (fun x hx => hlt x (by simp [hx]))
  have hT1 := Below.trod (by kernel_rfl) (by kernel_rfl) (of_decide_eq_true (by kernel_rfl)) h1 hg (fun x hx => hlt x (by simp [hx]))
  have hT2 := Below.trod (by kernel_rfl) (by kernel_rfl) (of_decide_eq_true (by kernel_rfl)) h2 hg (fun x hx => hlt x (by simp [hx]))
  exact ⟨_, rfl, _, _, _, [], _, [], hW', trodAll_cons_mk (shut_bool Tryd.underlying4 _) trodAll_mk0, by rw [Tryd.params5]; exact trodAll_mk3 hT0 hT1 hT2, rfl, hg.frame _, fun h => by cases h⟩

set_option maxHeartbeats 8000000 in
set_option maxRecDepth 100000 in
theorem row_holds : Rows.CodeWaysSaid :=
  OpenClaim.holds_of_wide 5 Tryd.f5 rfl rfl rfl rfl rfl rfl rfl ⟨rfl, rfl, rfl, rfl, rfl⟩ rfl rfl rfl rfl rfl (by kernel_rfl) Tryd.func5 (by kernel_rfl)
    (of_decide_eq_true (by kernel_rfl)) (by unfold Func.isWrapper; first | (rw [if_pos (by decide +kernel)]; kernel_rfl) | (rw [if_neg (by decide +kernel)]; exact ⟨rfl, rfl⟩))
    (fun os started H enc _ => lifted os started H enc)
end codeWays

set_option maxHeartbeats 8000000 in
set_option maxRecDepth 100000 in
theorem codeWays_holds : Rows.CodeWaysCardSaid :=
  Claim7.holds_tied_plain_at .later [] [.data, .data, .data, .data, .sentinel, .sentinel, .data, .data, .data] true (true, "23e811a047c7ebcc7da174f36d30a950c1a0ebfc6851f4f95d6eeb62d3093139") true
    codeWays.row_holds (fun _ h => by cases h) (by kernel_rfl) (fun _ h => by cases h) codeWays_row_tie rfl ⟨rfl, rfl⟩ (by kernel_rfl) rfl
    (fun f fn hf hfn => by
      obtain rfl : f = 5 := Option.some.inj ((show Tryd.prog.funcNamed "dapple/dapplelaw08.CodeWays" = some 5 by kernel_rfl).symm.trans hf) |>.symm
      obtain rfl : fn = Tryd.f5 := (Option.some.inj (Tryd.func5.symm.trans hfn)).symm
      exact ⟨by kernel_rfl, fun j t ht => by
        rw [Tryd.params5] at ht
        have hm : t ∈ [29, 3, 43] := by simpa using Array.mem_of_getElem? ht
        have hall : ([29, 3, 43].all fun u => !Tryd.prog.wantsStandIn u) = true := by kernel_rfl
        exact (show Tryd.prog.wantsStandIn t = false by simpa using List.all_eq_true.1 hall t hm)⟩)
    (by kernel_rfl)
#print axioms codeWays_holds
end Go.Proofs.YticaipedpcmhfaaDoor
