/- CodeChecks answers true on every run: package code's Check and Text answer as the document's, twice, of what was lent; what was lent stays; with other things written into it they answer as the document's once more; proved from the walks of package code, of the document's package and of the lender's functions, and from plain laws on walks through a procedure. Condition: the package-level tables hold, when the call begins, what the program text lays there (the card ties that). -/
import Derived.Test.YticaipedpcmhfaaGreatDoorCkRow
import Derived.Test.YticaipedpcmhfaaGreatDoorCkAC
import Derived.Test.YticaipedpcmhfaaGreatDoorCards
import Derived.Test.YticaipedpcmhfaaGreatDoorTie
namespace Go.Proofs.YticaipedpcmhfaaGreatDoor
open Go Go.ChangeShapes Go.WideShapes Go.ChangeAt Go.RowKit Hp
namespace codeChecks
variable {H : Type} {enc : TypeId × Value → H} {W : World} {base : Nat} {spare : Nat → Bool} {held : Bool}

set_option maxHeartbeats 8000000 in
set_option maxRecDepth 100000 in
theorem lifted (os : Os) (started : os.Started) (H : Type) (enc : TypeId × Value → H) :
    ReturnsInHanded {} Tryz.checked os 3 .any (fun w args => (Rows.codeChecksSpec.pre enc Tryz.prog Tryz.f3 [] false w args ∧ laidMetH Tryz.prog Ck.laidL w) ∧ sizedMet enc Tryz.prog Tryz.f3 (OpenSpec.ofChange Rows.codeChecksSpec) false w args)
      (Rows.codeChecksSpec.post enc Tryz.prog Tryz.f3 false true false false) := by
  refine change_both (C := Tryz.checked) (X := fun w _ => laidMetH Tryz.prog Ck.laidL w) (fun _ _ _ hh h => h.of_heap hh) Ck.own started (by kernel_rfl) Tryz.func3
    (ChangeSpec.witness_shaped (enc := enc) (C := Tryz.checked) (os := os) (X := fun w _ => laidMetH Tryz.prog Ck.laidL w) false (World.laidAll Tryz.prog os Ck.laidL) #[.agg #[.slice none 0 0, .slice none 0 0, .slice none 0 0]] 8 (World.laidAll_os _ _ _)
      (Ck.all_shaped os) (by kernel_rfl) (by kernel_rfl) (by kernel_rfl) (Ck.all_met os)) ?_
  intro W base args ds gs before hval0 hW _ hwt hL hsh
  have hW' := hW
  obtain ⟨p, q, hA0, hV, rfl, hfz, hnd⟩ := hW
  have hA : DataW.TrodAll enc Tryz.prog W 0 (fun _ => true) true Tryz.f3.params.toList args.toList ds p := hA0
  rw [Tryz.params3] at hA
  obtain ⟨v0, d0, rfl, rfl, h0⟩ := trodAll_one hA
  obtain ⟨rfl, rfl⟩ := trodVars_none hV
  have hval : ∀ (j : Nat) t v, Tryz.f3.params[j]? = some t → (#[v0] : Array Value)[j]? = some v → Value.okWide Tryz.prog W .any base t v := hval0
  rw [Tryz.params3] at hval
  have hwt' : ∀ {j : Nat} {t : TypeId} {d : DataW H}, [26][j]? = some t → [d0][j]? = some d → ∀ n ∈ d.weights Tryz.prog t, n ≤ reachBytes := fun {j t d} ht hd n hn => by
    have := List.all_eq_true.1 hwt n (by
      rw [Tryz.params3]
      simp only [List.append_nil]
      exact DataW.weights_mem_each (ts := [26] ++ _) (by rw [List.getElem?_append_left (List.getElem?_eq_some_iff.1 ht).1]; exact ht) hd n hn)
    simpa using this
  clear hA0 hval0
  simp only [List.append_nil] at hW'
  have hlt : ∀ x ∈ p, x.block < W.heap.size := fun x hx => by simpa using hW'.lt x hx
  obtain ⟨c, hc, hwc, hlc⟩ := Ck.code_open (fun _ => rfl) (hval 0 26 v0 rfl rfl) h0 hlt (hwt' (j := 0) rfl rfl)
  refine (Ck.checks08_any v0 c hc hwc hlc (Ck.of_laid hL (Tryz.laysM145.s1_3 W hsh))).mono fun e W' ⟨he, hs⟩ => ?_
  subst he
  have hg := hs.below
  have hT0 := Below.trod (by kernel_rfl) (by kernel_rfl) (of_decide_eq_true (by kernel_rfl)) h0 hg hlt
  exact ⟨_, rfl, _, _, _, [], p, [], hW', trodAll_cons_mk (shut_bool Tryz.underlying4 _) trodAll_mk0, by rw [Tryz.params3]; exact trodAll_mk1 hT0, rfl, hg.frame _, fun h => by cases h⟩

set_option maxHeartbeats 8000000 in
set_option maxRecDepth 100000 in
theorem row_holds : Rows.CodeChecksSaid :=
  OpenClaim.holds_of_wide 3 Tryz.f3 rfl rfl rfl rfl rfl rfl rfl ⟨rfl, rfl, rfl, rfl, rfl⟩ rfl rfl rfl rfl rfl (by kernel_rfl) Tryz.func3 (by kernel_rfl)
    (of_decide_eq_true (by kernel_rfl)) (by unfold Func.isWrapper; first | (rw [if_pos (by decide +kernel)]; kernel_rfl) | (rw [if_neg (by decide +kernel)]; exact ⟨rfl, rfl⟩))
    (fun os started H enc _ => lifted os started H enc)
end codeChecks

set_option maxHeartbeats 8000000 in
set_option maxRecDepth 100000 in
theorem codeChecks_holds : Rows.CodeChecksCardSaid :=
  Claim7.holds_tied_plain_at .later [] [.data, .data, .data, .data, .sentinel, .sentinel, .data, .data, .data] true (true, "ce0f68cd943e01b685ab08a5c5a4520910d406a04bf257f5023d3cfc35a1c1fc") true
    codeChecks.row_holds (fun _ h => by cases h) (by kernel_rfl) (fun _ h => by cases h) codeChecks_row_tie rfl ⟨rfl, rfl⟩ (by kernel_rfl) rfl
    (fun f fn hf hfn => by
      obtain rfl : f = 3 := Option.some.inj ((show Tryz.prog.funcNamed "dapple/dapplelaw08.CodeChecks" = some 3 by kernel_rfl).symm.trans hf) |>.symm
      obtain rfl : fn = Tryz.f3 := (Option.some.inj (Tryz.func3.symm.trans hfn)).symm
      exact ⟨by kernel_rfl, fun j t ht => by
        rw [Tryz.params3] at ht
        have hm : t ∈ [26] := by simpa using Array.mem_of_getElem? ht
        have hall : ([26].all fun u => !Tryz.prog.wantsStandIn u) = true := by kernel_rfl
        exact (show Tryz.prog.wantsStandIn t = false by simpa using List.all_eq_true.1 hall t hm)⟩)
    (by kernel_rfl)
#print axioms codeChecks_holds
end Go.Proofs.YticaipedpcmhfaaGreatDoor
