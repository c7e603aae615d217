/- CodeReads answers true on every run: what Parse makes of a text, twice, is what the document's own Parse makes of it, code, error and line; and the lists that came out share no memory, nor room behind, with one another; proved from the walks of package code, of the document's package and of the book of lists. Condition: the package-level tables hold, when the call begins, what the program text lays there (the card ties that). -/
import Derived.Test.YticaipedpcmhfaaGreatDoorCkRow
import Derived.Test.YticaipedpcmhfaaGreatDoorCkG9
import Derived.Test.YticaipedpcmhfaaGreatDoorCards
import Derived.Test.YticaipedpcmhfaaGreatDoorTie
namespace Go.Proofs.YticaipedpcmhfaaGreatDoor
open Go Go.ChangeShapes Go.WideShapes Go.ChangeAt Go.RowKit Hp
namespace codeReads
variable {H : Type} {enc : TypeId × Value → H} {W : World} {base : Nat} {spare : Nat → Bool} {held : Bool}

set_option maxHeartbeats 8000000 in
set_option maxRecDepth 100000 in
theorem lifted (os : Os) (started : os.Started) (H : Type) (enc : TypeId × Value → H) :
    ReturnsInHanded {} Tryz.checked os 4 .any (fun w args => (Rows.codeReadsSpec.pre enc Tryz.prog Tryz.f4 [] false w args ∧ laidMetH Tryz.prog Ck.laidL w) ∧ sizedMet enc Tryz.prog Tryz.f4 (OpenSpec.ofChange Rows.codeReadsSpec) false w args)
      (Rows.codeReadsSpec.post enc Tryz.prog Tryz.f4 false true false false) := by
  refine change_both (C := Tryz.checked) (X := fun w _ => laidMetH Tryz.prog Ck.laidL w) (fun _ _ _ hh h => h.of_heap hh) Ck.own started (by kernel_rfl) Tryz.func4
    (ChangeSpec.witness_shaped (enc := enc) (C := Tryz.checked) (os := os) (X := fun w _ => laidMetH Tryz.prog Ck.laidL w) false (World.laidAll Tryz.prog os Ck.laidL) #[.string ⟨#[]⟩] 2 (World.laidAll_os _ _ _)
      (Ck.all_shaped os) (by kernel_rfl) (by kernel_rfl) (by kernel_rfl) (Ck.all_met os)) ?_
  intro W base args ds gs before hval0 hW _ hwt hL hsh
  have hW' := hW
  obtain ⟨p, q, hA0, hV, rfl, hfz, hnd⟩ := hW
  have hA : DataW.TrodAll enc Tryz.prog W 0 (fun _ => true) true Tryz.f4.params.toList args.toList ds p := hA0
  rw [Tryz.params4] at hA
  obtain ⟨v0, d0, rfl, rfl, h0⟩ := trodAll_one hA
  obtain ⟨rfl, rfl⟩ := trodVars_none hV
  have hval : ∀ (j : Nat) t v, Tryz.f4.params[j]? = some t → (#[v0] : Array Value)[j]? = some v → Value.okWide Tryz.prog W .any base t v := hval0
  rw [Tryz.params4] at hval
  have hwt' : ∀ {j : Nat} {t : TypeId} {d : DataW H}, [9][j]? = some t → [d0][j]? = some d → ∀ n ∈ d.weights Tryz.prog t, n ≤ reachBytes := fun {j t d} ht hd n hn => by
    have := List.all_eq_true.1 hwt n (by
      rw [Tryz.params4]
      simp only [List.append_nil]
      exact DataW.weights_mem_each (ts := [9] ++ _) (by rw [List.getElem?_append_left (List.getElem?_eq_some_iff.1 ht).1]; exact ht) hd n hn)
    simpa using this
  clear hA0 hval0
  simp only [List.append_nil] at hW'
  have hlt : ∀ x ∈ p, x.block < W.heap.size := fun x hx => by simpa using hW'.lt x (by simpa using hx)
  obtain ⟨s, e1⟩ := okWide_string Tryz.underlying9 (hval 0 9 v0 rfl rfl)
  subst e1
  have h1k := h0
  obtain ⟨n1, k1⟩ := h1k
  obtain ⟨s', e2, -, hd1⟩ := trod_string_cell Tryz.underlying9 (show DataW.trod enc Tryz.prog W 0 (fun _ => true) true n1 9 [.string s] = some (d0, p) from k1)
  injection e2 with e2
  subst e2
  have hsz : s.size ≤ 140737488351232 := by
    have := hwt' (j := 0) rfl rfl
    rw [show d0 = _ from hd1] at this
    have h2 := this s.data.toList.length (by simp [DataW.weights])
    exact Nat.le_trans (by simpa using h2) (show reachBytes ≤ 140737488351232 by decide)
  refine (Ck.reads_any s hsz (Ck.of_laid hL (Tryz.laysM145.s1_3 W hsh))).mono fun e W' ⟨he, hs⟩ => ?_
  subst he
  have hg := hs.below
  have hT0 := Below.trod (by kernel_rfl) (by kernel_rfl) (of_decide_eq_true (by kernel_rfl)) h0 hg (fun x hx => hlt x (by simp [hx]))
  exact ⟨_, rfl, _, _, _, [], _, [], hW', trodAll_cons_mk (shut_bool Tryz.underlying4 _) trodAll_mk0, by rw [Tryz.params4]; exact trodAll_mk1 hT0, rfl, hg.frame _, fun h => by cases h⟩

set_option maxHeartbeats 8000000 in
set_option maxRecDepth 100000 in
theorem row_holds : Rows.CodeReadsSaid :=
  OpenClaim.holds_of_wide 4 Tryz.f4 rfl rfl rfl rfl rfl rfl rfl ⟨rfl, rfl, rfl, rfl, rfl⟩ rfl rfl rfl rfl rfl (by kernel_rfl) Tryz.func4 (by kernel_rfl)
    (of_decide_eq_true (by kernel_rfl)) (by unfold Func.isWrapper; first | (rw [if_pos (by decide +kernel)]; kernel_rfl) | (rw [if_neg (by decide +kernel)]; exact ⟨rfl, rfl⟩))
    (fun os started H enc _ => lifted os started H enc)
end codeReads

set_option maxHeartbeats 8000000 in
set_option maxRecDepth 100000 in
theorem codeReads_holds : Rows.CodeReadsCardSaid :=
  Claim7.holds_tied_plain_at .later [] [.data, .data, .data, .data, .sentinel, .sentinel, .data, .data, .data] true (true, "ce0f68cd943e01b685ab08a5c5a4520910d406a04bf257f5023d3cfc35a1c1fc") true
    codeReads.row_holds (fun _ h => by cases h) (by kernel_rfl) (fun _ h => by cases h) codeReads_row_tie rfl ⟨rfl, rfl⟩ (by kernel_rfl) rfl
    (fun f fn hf hfn => by
      obtain rfl : f = 4 := Option.some.inj ((show Tryz.prog.funcNamed "dapple/dapplelaw08.CodeReads" = some 4 by kernel_rfl).symm.trans hf) |>.symm
      obtain rfl : fn = Tryz.f4 := (Option.some.inj (Tryz.func4.symm.trans hfn)).symm
      exact ⟨by kernel_rfl, fun j t ht => by
        rw [Tryz.params4] at ht
        have hm : t ∈ [9] := by simpa using Array.mem_of_getElem? ht
        have hall : ([9].all fun u => !Tryz.prog.wantsStandIn u) = true := by kernel_rfl
        exact (show Tryz.prog.wantsStandIn t = false by simpa using List.all_eq_true.1 hall t hm)⟩)
    (by kernel_rfl)
#print axioms codeReads_holds
end Go.Proofs.YticaipedpcmhfaaGreatDoor
