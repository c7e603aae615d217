/- Step: its deferred closure. -/
import Derived.Test.YtkepcdbogeineaaGreatDoorVmU
import Derived.Test.YtkepcdbogeineaaGreatDoorVmA
import Derived.Recover
namespace Go.Proofs.YtkepcdbogeineaaGreatDoor
open Go.RowKit Hp Ck
namespace Vm
variable {w w' w1 W W' : World} {k : Kx} {th th' : Th} {FT G : List Nat} {t t' : Toy}

set_option maxHeartbeats 2000000 in
set_option maxRecDepth 100000 in
theorem idle_any (R0 R1 : Nat) (w : World) :
    CallsD Tryz.prog 31 #[.pointer (some ⟨R0, 0, none⟩), .pointer (some ⟨R1, 0, none⟩)] .returning w fun e u' w' => e = .returned (.tuple #[]) ∧ u' = .returning ∧ Same [] w w' := by
  have hta : ∀ w, (Instr.typeAssert .nilIface 20 88 true).run Tryz.prog w = .ok (.tuple #[.agg #[.int .i64 0], .bool false]) w := fun _ => by kernel_rfl
  refine callsD_of_wpS Tryz.func31 rfl fun c₀ cs hu => ?_
  have harr : #[Value.pointer (some ⟨R0, 0, none⟩), Value.pointer (some ⟨R1, 0, none⟩)] ++ Array.replicate (Tryz.f31.ntmps - (#[Value.pointer (some ⟨R0, 0, none⟩), Value.pointer (some ⟨R1, 0, none⟩)] : Array Value).size) undef = #[Value.pointer (some ⟨R0, 0, none⟩), Value.pointer (some ⟨R1, 0, none⟩), undef, undef, undef, undef, undef, undef, undef, undef, undef, undef, undef, undef, undef, undef, undef] := by rw [Tryz.ntmps31]; rfl
  rw [harr]
  apply wpS_seq
  apply wpS_region
  simp [wpOpsS, go_sem, recoverD, hu, Exit.thenS, hta]
  refine wpS_of_wp ?_
  go_wp2_with fail
  cases c₀
  simp_all [bodyPostS, results, Tryz.results31]
  exact (Same.refl _ _).alloc _

/-- A box that is written whole. -/
theorem blk10 {R ty : Nat} {a0 a1 a2 a3 a4 a5 a6 a7 a8 a9 : Value} (h : Blk W R ty [a0, a1, a2, a3, a4, a5, a6, a7, a8, a9]) (v0 v1 v2 v3 v4 v5 v6 v7 v8 v9 : Value) : Blk ((((((((((W.setCell ⟨R, 0, none⟩ v0).setCell ⟨R, 1, none⟩ v1).setCell ⟨R, 2, none⟩ v2).setCell ⟨R, 3, none⟩ v3).setCell ⟨R, 4, none⟩ v4).setCell ⟨R, 5, none⟩ v5).setCell ⟨R, 6, none⟩ v6).setCell ⟨R, 7, none⟩ v7).setCell ⟨R, 8, none⟩ v8).setCell ⟨R, 9, none⟩ v9) R ty [v0, v1, v2, v3, v4, v5, v6, v7, v8, v9] :=
  (((((((((h.set 0 v0).set 1 v1).set 2 v2).set 3 v3).set 4 v4).set 5 v5).set 6 v6).set 7 v7).set 8 v8).set 9 v9

variable {w0 : World} {FT0 G0 : List Nat} {bs : List (Nat × Nat × List Value)} {l : List Int} {v : Value}
set_option maxHeartbeats 2000000 in
set_option maxRecDepth 100000 in
theorem caught_any {R0 R1 : Nat} {a0 a1 a2 a3 a4 a5 a6 a7 a8 a9 : Value} (h : VB k w0 W th t FT0 G0 FT G l v bs) (h0 : (R0, 35, [.pointer (some ⟨k.T, 0, none⟩)]) ∈ bs) (h1 : (R1, 44, [a0, a1, a2, a3, a4, a5, a6, a7, a8, a9]) ∈ bs) (er : Int) :
    CallsD Tryz.prog 31 #[.pointer (some ⟨R0, 0, none⟩), .pointer (some ⟨R1, 0, none⟩)] (.panicking [{ v := .iface 88 (.agg #[.int .i64 er]), recovered := false }]) W fun e u' w' => e = .returned (.tuple #[]) ∧ u' = .panicking [{ v := .iface 88 (.agg #[.int .i64 er]), recovered := true }] ∧ Lf k w0 FT0 G0 { th with ended := true, word := 0, err := er } t l v w' ∧ Blk w' R1 44 (evC { what := 17, err := er } (.slice none 0 0)) := by
  have hta : ∀ w, (Instr.typeAssert (.iface 88 (.agg #[.int .i64 er])) 20 88 true).run Tryz.prog w = .ok (.tuple #[.agg #[.int .i64 er], .bool true]) w := fun _ => by kernel_rfl
  have p0 : W.cell? ⟨R0, 0, none⟩ = some (.pointer (some ⟨k.T, 0, none⟩)) := (h.bx _ h0).1.cell 0
  have p0z := (h.bx _ h0).1.lt
  have HB := Lib.hid h
  have H1 := Lib.hid h1
  clear h h0 h1
  refine callsD_of_wpS Tryz.func31 rfl fun c₀ cs hu => ?_
  have harr : #[Value.pointer (some ⟨R0, 0, none⟩), Value.pointer (some ⟨R1, 0, none⟩)] ++ Array.replicate (Tryz.f31.ntmps - (#[Value.pointer (some ⟨R0, 0, none⟩), Value.pointer (some ⟨R1, 0, none⟩)] : Array Value).size) undef = #[Value.pointer (some ⟨R0, 0, none⟩), Value.pointer (some ⟨R1, 0, none⟩), undef, undef, undef, undef, undef, undef, undef, undef, undef, undef, undef, undef, undef, undef, undef] := by rw [Tryz.ntmps31]; rfl
  rw [harr]
  apply wpS_seq
  apply wpS_region
  simp [wpOpsS, go_sem, recoverD, hu, Exit.thenS, hta]
  refine wpS_of_wp ?_
  clear harr hta
  go_wp2_with fail
  obtain ⟨wa, hwa⟩ : ∃ wa, wa = W.alloc (.cells #[.int .i64 er] 88) := ⟨_, rfl⟩
  rw [← hwa]
  have HA := Lib.hid (HB.out.boxT 88 [.int .i64 er] (by decide) hwa)
  clear hwa p0
  obtain ⟨fv, sv, rv, q⟩ := HA.out.sit.vt.th
  refine (over_any q er).mono ?_
  rintro e w2 ⟨rfl, hg⟩
  obtain ⟨FT2, G2, h2⟩ := HA.out.callT hg
  have g0 : w2.cell? ⟨W.heap.size, 0, none⟩ = some (.int .i64 er) := (h2.bx _ (List.Mem.head _)).1.cell 0
  have gz := (h2.bx _ (List.Mem.head _)).1.lt
  obtain ⟨r0, r1, r2, r3, r4, r5, r6, r7, r8, r9, rz, rf⟩ := h2.get (List.mem_cons_of_mem _ H1.out)
  have HB2 := Lib.hid h2
  clear hg h2 q
  go_wp2_with fail
  refine ⟨rfl, _, rfl, .tuple #[], by simp [results, Tryz.results31, go_sem], rfl, rfl, HB2.out.fin (List.mem_cons_of_mem _ H1.out) (same10 (Same.refl _ _) (.inl (by simp)) _ _ _ _ _ _ _ _ _ _), ?_⟩
  exact blk10 (HB2.out.bx _ (List.mem_cons_of_mem _ H1.out)).1 _ _ _ _ _ _ _ _ _ _
end Vm
end Go.Proofs.YtkepcdbogeineaaGreatDoor
