/- What a thread asks of the toy: load, cell. -/
import Derived.Test.YtkepcdbogeineaaGreatDoorVmS
import Derived.Test.YtkepcdbogeineaaGreatDoorVmG
namespace Go.Proofs.YtkepcdbogeineaaGreatDoor
open Go.RowKit Hp Ck
namespace Vm
variable {w w' w1 W W' : World} {H : Nat} {cv gv sv hv : Value} {G G1 : List Nat} {t t' : Toy}

/-- The toy as it is handed to a thread. -/
def toyV (H : Nat) : Value := .iface 39 (.pointer (some ⟨H, 0, none⟩))

/-- An event. -/
structure Ev where
  what : Int := 0
  cell : Int := 0
  field : Int := 0
  old : Int := 0
  new : Int := 0
  other : Int := 0
  yes : Bool := false
  err : Int := 0
def evC (e : Ev) (s : Value) : List Value := [.int .i64 0, .int .u8 e.what, .int .i64 e.cell, .int .i64 e.field, .int .u64 e.old, .int .u64 e.new, s, .int .i64 e.other, .bool e.yes, .int .i64 e.err]

/-- An event that is laid into its box. -/
theorem same10 {F : List Nat} {W0 W1 : World} {R : Nat} (h : Same F W0 W1) (hR : R ∈ F ∨ W0.heap.size ≤ R) (v0 v1 v2 v3 v4 v5 v6 v7 v8 v9 : Value) : Same F W0 ((((((((((W1.setCell ⟨R, 0, none⟩ v0).setCell ⟨R, 1, none⟩ v1).setCell ⟨R, 2, none⟩ v2).setCell ⟨R, 3, none⟩ v3).setCell ⟨R, 4, none⟩ v4).setCell ⟨R, 5, none⟩ v5).setCell ⟨R, 6, none⟩ v6).setCell ⟨R, 7, none⟩ v7).setCell ⟨R, 8, none⟩ v8).setCell ⟨R, 9, none⟩ v9) :=
  ((((((((((h.setCell hR v0).setCell hR v1).setCell hR v2).setCell hR v3).setCell hR v4).setCell hR v5).setCell hR v6).setCell hR v7).setCell hR v8).setCell hR v9)

set_option maxHeartbeats 2000000 in
set_option maxRecDepth 100000 in
theorem vload_any (h : ToyAt w H cv gv sv hv t G) (hf : t.Fine) (n : Int) (hh : t.has n = true) (f : Int) (hfi : f = 0 ∨ f = 1) :
    Calls Tryz.prog 71 #[toyV H, .int .i64 n, .int .i64 f] w fun e w' => ∃ x, x = (if f = 1 then (t.cel n).b else (t.cel n).a) ∧ e = .returned (.tuple #[.int .u64 x, .agg (evC { what := 1, cell := n, field := f, old := x, new := x } (.slice none 0 0)).toArray]) ∧ ToyAt w' H cv gv sv (.slice none 0 0) (t.ask []) G ∧ Same G w w' := by
  have HL := Lib.hid (fun W (hs : Same [] w W) => load_any (w := W) (h.frame0 hs) hf n hh f hfi)
  obtain ⟨x, hx⟩ : ∃ x, x = (if f = 1 then (t.cel n).b else (t.cel n).a) := ⟨_, rfl⟩
  rw [← hx] at HL ⊢
  have HGL := Lib.hid h.gl
  clear h hf hx hh hfi
  have hm : ∀ W, (method 313 39 (.pointer (some ⟨H, 0, none⟩)) "Load").run Tryz.prog W = .ok (139, .pointer (some ⟨H, 0, none⟩)) W := fun _ => by kernel_rfl
  unfold toyV
  go_enter Tryz.func71, Tryz.ntmps71
  go_wp2_with fail
  refine (HL.out _ ((Same.refl [] w).alloc _)).mono ?_
  rintro e w1 ⟨rfl, h1, hs1⟩
  have hb : Blk w1 w.heap.size 44 [.int .i64 0, .int .u8 0, .int .i64 0, .int .i64 0, .int .u64 0, .int .u64 0, .slice none 0 0, .int .i64 0, .bool false, .int .i64 0] := (Blk.new w 44 [.int .i64 0, .int .u8 0, .int .i64 0, .int .i64 0, .int .u64 0, .int .u64 0, .slice none 0 0, .int .i64 0, .bool false, .int .i64 0]).frame hs1 (fun hm => by have := HGL.out _ hm; omega)
  have r0 := hb.cell 0
  have r1 := hb.cell 1
  have r2 := hb.cell 2
  have r3 := hb.cell 3
  have r4 := hb.cell 4
  have r5 := hb.cell 5
  have r6 := hb.cell 6
  have r7 := hb.cell 7
  have r8 := hb.cell 8
  have r9 := hb.cell 9
  have rz := hb.lt
  have rf := hb.frozen
  have H1 := Lib.hid h1
  have HS1 := Lib.hid (((Same.refl G w).alloc _).trans hs1)
  have HB := Lib.hid hb
  clear h1 hs1 hb HL
  go_wp2_with fail
  refine bodyPost_ret (v := .tuple #[.int .u64 x, .agg (evC { what := 1, cell := n, field := f, old := x, new := x } (.slice none 0 0)).toArray]) (by simp [results, Tryz.results71, go_sem, evC, r0, r1, r2, r3, r4, r5, r6, r7, r8, r9]) rfl ?_
  have hz : ∀ b ∈ G, b ∉ [w.heap.size] := fun b hb hm => by have := HGL.out b hb; have := List.mem_singleton.1 hm; omega
  exact ⟨x, rfl, rfl, H1.out.frame (F := [w.heap.size]) (same10 (Same.refl _ _) (.inl (by simp)) _ _ _ _ _ _ _ _ _ _) hz, same10 HS1.out (.inr (Nat.le_refl _)) _ _ _ _ _ _ _ _ _ _⟩
/-- The cell of a kind. -/
def Toy.kinded (t : Toy) (x k : Int) : Bool := cellI x && (t.kindOf (cellN x) == k)
def Toy.asked1 (t : Toy) (x : Int) : Toy := if cellI x then { t with kinds := t.kinds + 1 } else t

theorem cellN_in (x : Int) (_hx : 0 ≤ x ∧ x < 18446744073709551616) : -9000000000 ≤ cellN x ∧ cellN x ≤ 9000000000 := by
  unfold cellN
  split
  · rename_i h
    unfold ofT' at h
    unfold ofN'
    cases hw : Cd.isWord x with
    | false => rw [hw] at h; cases h
    | true =>
      rw [hw] at h
      simp only [if_true] at h ⊢
      have hm : Cd.may 8 (Cd.wordN x) = true := by
        unfold Cd.isWord at hw
        simp only [Bool.and_eq_true] at hw
        have h8 : Cd.wordT x = 8 := by exact_mod_cast h
        have := hw.2
        rw [h8] at this
        exact this
      unfold Cd.may Cd.least Cd.most at hm
      rw [decide_eq_true_eq] at hm
      simp at hm
      omega
  · omega

set_option maxHeartbeats 2000000 in
set_option maxRecDepth 100000 in
theorem vcell_any (h : ToyAt w H cv gv sv hv t G) (hf : t.Fine) (hv' : Vars w) (x k er : Int) (hx : 0 ≤ x ∧ x < 18446744073709551616) :
    Calls Tryz.prog 82 #[toyV H, .int .u64 x, .int .u8 k, .int .i64 er] w fun e w' => (if t.kinded x k then e = .returned (.int .i64 (cellN x)) else e = .panicked [{ v := .iface 88 (.agg #[.int .i64 er]), recovered := false }]) ∧ ToyAt w' H cv gv sv hv (t.asked1 x) G ∧ Same G w w' := by
  have HC := Lib.hid (cellOf_any x hx hv')
  have HK := Lib.hid (kind_any h hf (cellN x) (cellN_in x hx))
  have HT := Lib.hid h
  unfold Toy.kinded Toy.asked1
  obtain ⟨n, hn⟩ : ∃ n, n = cellN x := ⟨_, rfl⟩
  obtain ⟨is, hi⟩ : ∃ n, n = cellI x := ⟨_, rfl⟩
  obtain ⟨kd, hkd⟩ : ∃ q, q = t.kindOf (cellN x) := ⟨_, rfl⟩
  rw [← hkd] at HK ⊢
  rw [← hn] at HC HK ⊢
  rw [← hi] at HC ⊢
  have hm : ∀ W, (method 313 39 (.pointer (some ⟨H, 0, none⟩)) "Kind").run Tryz.prog W = .ok (138, .pointer (some ⟨H, 0, none⟩)) W := fun _ => by kernel_rfl
  clear h hf hv' hx hn hi hkd
  unfold toyV
  cases is
  · go_enter Tryz.func82, Tryz.ntmps82
    go_wp2_with fail
    refine HC.out.mono ?_
    rintro e w1 ⟨rfl, rfl⟩
    go_wp2_with fail
    refine (need_no er).mono ?_
    rintro e w1 ⟨rfl, rfl⟩
    exact ⟨rfl, by simp, HT.out, Same.refl _ _⟩
  · cases hq : (kd == k)
    · go_enter Tryz.func82, Tryz.ntmps82
      go_wp2_with fail
      refine HC.out.mono ?_
      rintro e w1 ⟨rfl, rfl⟩
      go_wp2_with fail
      refine HK.out.mono ?_
      rintro e w1 ⟨rfl, h1, hs1⟩
      go_wp2_with fail
      refine (need_no er).mono ?_
      rintro e w2 ⟨rfl, rfl⟩
      exact ⟨rfl, by simp, h1, hs1⟩
    · go_enter Tryz.func82, Tryz.ntmps82
      go_wp2_with fail
      refine HC.out.mono ?_
      rintro e w1 ⟨rfl, rfl⟩
      go_wp2_with fail
      refine HK.out.mono ?_
      rintro e w1 ⟨rfl, h1, hs1⟩
      go_wp2_with fail
      refine (need_yes er).mono ?_
      rintro e w2 ⟨rfl, rfl⟩
      go_wp2_with fail
      go_ret
      exact ⟨by simp, h1, hs1⟩
end Vm
end Go.Proofs.YtkepcdbogeineaaGreatDoor
