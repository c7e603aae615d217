/- LocksDoes answers true on every run: two books of package locks, side by side, answer every call in every order as the document's own (dappleref19) does, and no list that comes out shares memory, or room behind, with another one; proved from the walks of both packages' functions. Condition: the package-level table words.bounds holds, when the call begins, what the program's text lays there (the card ties that). -/
import Derived.Test.YtkfdoocmapjkbaaDoorLdW
import Derived.Test.YtkfdoocmapjkbaaDoorLkLaid
import Derived.Test.YtkfdoocmapjkbaaDoorCards
import Derived.Test.YtkfdoocmapjkbaaDoorTie
import Derived.SevenTiedAt
import Derived.Carry
import Derived.Deep.Slices
import Derived.Lib.SmallJoins
namespace Go.Proofs.YtkfdoocmapjkbaaDoor
open Go Go.ChangeShapes Go.WideShapes Go.ChangeAt Go.RowKit Hp
namespace locksDoes
variable {H : Type} {enc : TypeId × Value → H} {W : World} {base : Nat} {spare : Nat → Bool} {held : Bool}

theorem int_cell {t : TypeId} {k : IntKind} {fuel : Nat} {cs : List Value} {y : DataW H × List MemPlace} (ht : Tryd.prog.underlying t = some (.int k)) (h : DataW.trod enc Tryd.prog W base spare held fuel t cs = some y) : ∃ n : Int, cs = [.int k n] ∧ (Lit.int k n).wf = true := by
  obtain ⟨n, hv, -, hw⟩ := DataW.trod_int ht h
  exact ⟨n, hv, hw⟩
theorem wf64 {n : Int} (h : (Lit.int .i64 n).wf = true) : Lk.in64 n := by
  simp only [Lit.wf, Bool.and_eq_true, decide_eq_true_eq] at h
  exact ⟨by have := h.1; rwa [show IntKind.i64.min = -9223372036854775808 from rfl] at this, by have := h.2; rwa [show IntKind.i64.max = 9223372036854775807 from rfl] at this⟩

set_option maxRecDepth 100000 in
theorem ops_of {fuel : Nat} {v : Value} {x : DataW H × List MemPlace} (h : DataW.trod enc Tryd.prog W 0 spare held fuel 23 [v] = some x) (hlt : ∀ y ∈ x.2, y.block < W.heap.size) (hsp : ∀ b, spare b = true) : ∃ n, Lk.Sc W v n := by
  rcases Go.Deep.open_slice Tryd.underlying23 h with ⟨hcs, -⟩ | ⟨a, len, cap, m, k, D, Pl, hcs, -, hl, hm, hmm, hx, hi⟩
  · injection hcs with hcs _
    subst hcs
    exact ⟨0, none, 0, rfl, Nat.le_refl _, Nat.zero_le _, fun i hi => by omega⟩
  · injection hcs with hcs _
    subst hcs
    refine ⟨len, some a, cap, rfl, hl, hm, fun i hil => ⟨a, rfl, ?_⟩⟩
    rw [hsp] at hmm
    simp only [if_true] at hmm
    obtain ⟨cs', hc, ht⟩ := hi i (by omega)
    have h5 : Tryd.prog.cellsOf 35 = 5 := by kernel_rfl
    rw [h5] at hc
    obtain ⟨ys, n', -, -, hlen, hyl, hf⟩ := DataW.trod_struct Tryd.underlying35 ht
    obtain ⟨-, hcl, hat⟩ := World.cells?_some hc
    have e1 : Tryd.prog.cellsOf 3 = 1 := by kernel_rfl
    have e2 : Tryd.prog.cellsOf 33 = 1 := by kernel_rfl
    have e3 : Tryd.prog.cellsOf 25 = 1 := by kernel_rfl
    match cs', hcl with
    | [v0, v1, v2, v3, v4], _ =>
      have hy : ∀ i : Nat, i < 5 → ∃ y, ys[i]? = some y := fun i hi => ⟨ys[i]'(by rw [hyl]; exact hi), List.getElem?_eq_getElem _⟩
      obtain ⟨y0, hy0⟩ := hy 0 (by omega)
      obtain ⟨y1, hy1⟩ := hy 1 (by omega)
      obtain ⟨y2, hy2⟩ := hy 2 (by omega)
      obtain ⟨y3, hy3⟩ := hy 3 (by omega)
      obtain ⟨y4, hy4⟩ := hy 4 (by omega)
      have g0 : DataW.trod enc Tryd.prog W 0 spare held n' 3 [v0] = some y0 := by have := hf 0 _ rfl; rw [hy0] at this; simpa [e1] using this
      have g1 : DataW.trod enc Tryd.prog W 0 spare held n' 3 [v1] = some y1 := by have := hf 1 _ rfl; rw [hy1] at this; simpa [e1] using this
      have g2 : DataW.trod enc Tryd.prog W 0 spare held n' 3 [v2] = some y2 := by have := hf 2 _ rfl; rw [hy2] at this; simpa [e1] using this
      have g3 : DataW.trod enc Tryd.prog W 0 spare held n' 33 [v3] = some y3 := by have := hf 3 _ rfl; rw [hy3] at this; simpa [e2] using this
      have g4 : DataW.trod enc Tryd.prog W 0 spare held n' 25 [v4] = some y4 := by have := hf 4 _ rfl; rw [hy4] at this; simpa [e3] using this
      obtain ⟨kd, k0, w0⟩ := int_cell Tryd.underlying3 g0
      obtain ⟨t, k1, w1⟩ := int_cell Tryd.underlying3 g1
      obtain ⟨l, k2, w2⟩ := int_cell Tryd.underlying3 g2
      obtain ⟨x1, k3, -⟩ := int_cell Tryd.underlying33 g3
      obtain ⟨e, k4, -⟩ := int_cell Tryd.underlying25 g4
      injection k0 with k0 _
      injection k1 with k1 _
      injection k2 with k2 _
      injection k3 with k3 _
      injection k4 with k4 _
      subst k0 k1 k2 k3 k4
      have hblk : (a.add (i * 5)).block = a.block := by unfold Addr.add; split <;> rfl
      have hadd : ∀ b : Addr, ∀ j : Nat, b.add (j + 1) = ⟨b.block, b.off + (j + 1), none⟩ := fun b j => by unfold Addr.add; rw [if_neg (by omega)]
      refine ⟨?_, kd, t, l, x1, e, wf64 w0, wf64 w1, wf64 w2, ?_, ?_, ?_, ?_, ?_⟩
      · rw [hblk]
        have := hlt (.cell a.block a.off) (by rw [hx]; exact List.mem_append_left _ (MemPlace.mem_row.2 ⟨0, by rw [h5]; omega, by simp⟩))
        exact this
      · have := hat 0 (by omega); simpa [Addr.add] using this
      · have := hat 1 (by omega); rw [hadd] at this; exact this
      · have := hat 2 (by omega); rw [hadd] at this; exact this
      · have := hat 3 (by omega); rw [hadd] at this; exact this
      · have := hat 4 (by omega); rw [hadd] at this; exact this

set_option maxRecDepth 100000 in
theorem lifted (os : Os) (started : os.Started) (H : Type) (enc : TypeId × Value → H) :
    ReturnsInHanded {} Tryd.checked os 6 .any (fun w args => (Rows.locksDoesSpec.pre enc Tryd.prog Tryd.f6 [] false w args ∧ laidMetH Tryd.prog laidL w) ∧ sizedMet enc Tryd.prog Tryd.f6 (OpenSpec.ofChange Rows.locksDoesSpec) false w args)
      (Rows.locksDoesSpec.post enc Tryd.prog Tryd.f6 false true false false) := by
  refine returnsInHanded_of_change_and (C := Tryd.checked) (X := fun w _ => laidMetH Tryd.prog laidL w) (fun _ _ _ hh h => h.of_heap hh) own started (by kernel_rfl) Tryd.func6
    (ChangeSpec.witness_shaped (enc := enc) (C := Tryd.checked) (os := os) (X := fun w _ => laidMetH Tryd.prog laidL w) false (World.doorLaid Tryd.prog 18 os) #[.agg #[.int .i64 0, .int .i64 0, .int .i64 0, .slice none 0 0]] 8 rfl (World.shaped_of_RefB (by kernel_rfl) (by kernel_rfl)) (by kernel_rfl) (by kernel_rfl) (by kernel_rfl) (door_met os _)) ?_
  intro W base args ds gs before hval0 hW _ _ hL _
  have hW' := hW
  obtain ⟨p, q, hA0, hV, rfl, hfz, hnd⟩ := hW
  have hA : DataW.TrodAll enc Tryd.prog W 0 (fun _ => true) true Tryd.f6.params.toList args.toList ds p := hA0
  rw [Tryd.params6] at hA
  obtain ⟨v0, d0, rfl, rfl, h0⟩ := trodAll_one hA
  obtain ⟨rfl, rfl⟩ := trodVars_none hV
  have hval : ∀ (j : Nat) t v, Tryd.f6.params[j]? = some t → (#[v0] : Array Value)[j]? = some v → Value.okWide Tryd.prog W .any base t v := hval0
  rw [Tryd.params6] at hval
  have h0k := h0
  obtain ⟨a0, a1, a2, a3, y0, y1, y2, y3, fuel, rfl, -, hp, k0, k1, k2, k3⟩ := Go.Joins.open_agg4 Tryd.underlying78 (by kernel_rfl) (by kernel_rfl) (hval 0 78 v0 rfl rfl) h0
  clear hA0 hval0
  simp only [List.append_nil] at hW'
  have hlt : ∀ x ∈ p, x.block < W.heap.size := fun x hx => by simpa using hW'.lt x hx
  obtain ⟨L, e0, -⟩ := int_cell Tryd.underlying3 k0
  obtain ⟨G, e1, -⟩ := int_cell Tryd.underlying3 k1
  obtain ⟨O, e2, -⟩ := int_cell Tryd.underlying3 k2
  injection e0 with e0 _
  injection e1 with e1 _
  injection e2 with e2 _
  subst e0 e1 e2
  obtain ⟨n, hops⟩ := ops_of k3 (fun y hy => hlt y (by rw [hp]; simp [hy])) (fun _ => rfl)
  refine (Lk.does_any L G O _ n hops (of_laid hL)).mono fun e W' ⟨he, hs⟩ => ?_
  subst he
  have hg := hs.below
  have hargs : DataW.Trod enc Tryd.prog W' 0 (fun b => decide (b < W.heap.size)) true 78 (.agg #[.int .i64 L, .int .i64 G, .int .i64 O, a3]) d0 p := Below.trod (by kernel_rfl) (by kernel_rfl) (of_decide_eq_true (by kernel_rfl)) h0k hg hlt
  exact ⟨_, rfl, _, _, _, [], p, [], hW', trodAll_cons_mk (shut_bool Tryd.underlying4 _) trodAll_mk0, by rw [Tryd.params6]; exact trodAll_mk1 hargs, rfl, hg.frame _, fun h => by cases h⟩

theorem row_holds : Rows.LocksDoesSaid :=
  OpenClaim.holds_of_wide 6 Tryd.f6 rfl rfl rfl rfl rfl rfl rfl ⟨rfl, rfl, rfl, rfl, rfl⟩ rfl rfl rfl rfl rfl (by kernel_rfl) Tryd.func6 (by kernel_rfl)
    (of_decide_eq_true (by kernel_rfl)) (by unfold Func.isWrapper; first | (rw [if_pos (by decide +kernel)]; kernel_rfl) | (rw [if_neg (by decide +kernel)]; exact ⟨rfl, rfl⟩))
    (fun os started H enc _ => lifted os started H enc)
end locksDoes

theorem locksDoes_holds : Rows.LocksDoesCardSaid :=
  Claim7.holds_tied_plain_at .later [] [.data] true (true, "92ee5a695cf5366afb865b60727210fe700774a16c4edf660a23ee59dc7fb308") false
    locksDoes.row_holds (fun _ h => by cases h) (by kernel_rfl) (fun _ h => by cases h) locksDoes_row_tie rfl ⟨rfl, rfl⟩ (by kernel_rfl) rfl
    (fun f fn hf hfn => by
      obtain rfl : f = 6 := Option.some.inj ((show Tryd.prog.funcNamed "dapple/dapplelaw19.LocksDoes" = some 6 by kernel_rfl).symm.trans hf) |>.symm
      obtain rfl : fn = Tryd.f6 := (Option.some.inj (Tryd.func6.symm.trans hfn)).symm
      exact ⟨by kernel_rfl, fun j t ht => by
        rw [Tryd.params6] at ht
        have hm : t ∈ [78] := by simpa using Array.mem_of_getElem? ht
        have hall : ([78].all fun u => !Tryd.prog.wantsStandIn u) = true := by kernel_rfl
        exact (show Tryd.prog.wantsStandIn t = false by simpa using List.all_eq_true.1 hall t hm)⟩)
    (by kernel_rfl)
#print axioms locksDoes_holds
end Go.Proofs.YtkfdoocmapjkbaaDoor
