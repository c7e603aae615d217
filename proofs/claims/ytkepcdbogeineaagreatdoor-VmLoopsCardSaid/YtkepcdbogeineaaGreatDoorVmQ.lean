/- Primitives: those that hand on what a callee answers. (Printed by mkVmQ.py.) -/
import Derived.Test.YtkepcdbogeineaaGreatDoorVmK
import Derived.Deep.RegionWith
namespace Go.Proofs.YtkepcdbogeineaaGreatDoor
open Go.RowKit Hp Ck
namespace Vm
variable {w w' w1 W W' : World} {k : Kx} {th th' : Th} {FT G : List Nat} {t t' : Toy}

set_option maxHeartbeats 4000000 in
set_option maxRecDepth 100000 in
theorem prim_2 (h : Sit k w th t FT G) (o : Out) (hq : ∀ th t, o ≠ .quiet th t) (hC : ∀ W FT' G', Sit k W th t FT' G' → Calls Tryz.prog 86 #[.pointer (some ⟨k.T, 0, none⟩), toyV k.H, .int .u8 1, .int .i64 0] W (InsP k W FT' G' o)) :
    Calls Tryz.prog 55 #[.pointer (some ⟨k.T, 0, none⟩), toyV k.H, .int .i64 2] w (InsP k w FT G o) := by
  have HB := Lib.hid (VB.open_ h)
  clear h
  unfold toyV at *
  cases o with
  | quiet a b => exact absurd rfl (hq a b)
  | did ev l th2 t2 =>
    unfold InsP DidP at hC ⊢
    simp only [evC] at hC
    have HC := Lib.hid hC
    clear hC hq
    go_enter Tryz.func55, Tryz.ntmps55
    go_wp2_with fail
    obtain ⟨w0, hw0⟩ : ∃ w0, w0 = w.alloc (.cells #[.int .i64 0, .int .u8 0, .int .i64 0, .int .i64 0, .int .u64 0, .int .u64 0, .slice none 0 0, .int .i64 0, .bool false, .int .i64 0] 44) := ⟨_, rfl⟩
    rw [← hw0]
    have HB0 := Lib.hid (HB.out.box zeros hw0)
    clear hw0
    refine (HC.out _ _ _ HB0.out.sit).mono ?_
    rintro e w1 ⟨v, rfl, hlf⟩
    obtain ⟨A9, C9, rfl⟩ := hlf.form
    obtain ⟨FT1, G1, hb1⟩ := HB0.out.call hlf
    have HB1 := Lib.hid hb1
    obtain ⟨r0, r1, r2, r3, r4, r5, r6, r7, r8, r9, rz, rf⟩ := hb1.get (List.Mem.head _)
    clear hlf hb1 HB0 HC
    go_wp2_with fail
    refine bodyPost_ret (v := .tuple #[.agg (evC ev (.slice A9 l.length C9)).toArray, .bool true]) (by simp [results, Tryz.results55, go_sem, evC, r0, r1, r2, r3, r4, r5, r6, r7, r8, r9]) rfl ?_
    exact ⟨_, rfl, HB1.out.fin (List.Mem.head _) (same10 (Same.refl _ _) (.inl (by simp)) _ _ _ _ _ _ _ _ _ _)⟩
  | fail er th2 t2 =>
    unfold InsP FailP at hC ⊢
    have HC := Lib.hid hC
    clear hC hq
    go_enter Tryz.func55, Tryz.ntmps55
    go_wp2_with fail
    obtain ⟨w0, hw0⟩ : ∃ w0, w0 = w.alloc (.cells #[.int .i64 0, .int .u8 0, .int .i64 0, .int .i64 0, .int .u64 0, .int .u64 0, .slice none 0 0, .int .i64 0, .bool false, .int .i64 0] 44) := ⟨_, rfl⟩
    rw [← hw0]
    have HB0 := Lib.hid (HB.out.box zeros hw0)
    clear hw0
    refine (HC.out _ _ _ HB0.out.sit).mono ?_
    rintro e w1 ⟨rfl, hlf⟩
    obtain ⟨FT1, G1, hb1⟩ := HB0.out.call hlf
    exact ⟨rfl, rfl, hb1.lf⟩

set_option maxHeartbeats 4000000 in
set_option maxRecDepth 100000 in
theorem prim_3 (h : Sit k w th t FT G) (o : Out) (hq : ∀ th t, o ≠ .quiet th t) (hC : ∀ W FT' G', Sit k W th t FT' G' → Calls Tryz.prog 86 #[.pointer (some ⟨k.T, 0, none⟩), toyV k.H, .int .u8 1, .int .i64 1] W (InsP k W FT' G' o)) :
    Calls Tryz.prog 55 #[.pointer (some ⟨k.T, 0, none⟩), toyV k.H, .int .i64 3] w (InsP k w FT G o) := by
  have HB := Lib.hid (VB.open_ h)
  clear h
  unfold toyV at *
  cases o with
  | quiet a b => exact absurd rfl (hq a b)
  | did ev l th2 t2 =>
    unfold InsP DidP at hC ⊢
    simp only [evC] at hC
    have HC := Lib.hid hC
    clear hC hq
    go_enter Tryz.func55, Tryz.ntmps55
    go_wp2_with fail
    obtain ⟨w0, hw0⟩ : ∃ w0, w0 = w.alloc (.cells #[.int .i64 0, .int .u8 0, .int .i64 0, .int .i64 0, .int .u64 0, .int .u64 0, .slice none 0 0, .int .i64 0, .bool false, .int .i64 0] 44) := ⟨_, rfl⟩
    rw [← hw0]
    have HB0 := Lib.hid (HB.out.box zeros hw0)
    clear hw0
    refine (HC.out _ _ _ HB0.out.sit).mono ?_
    rintro e w1 ⟨v, rfl, hlf⟩
    obtain ⟨A9, C9, rfl⟩ := hlf.form
    obtain ⟨FT1, G1, hb1⟩ := HB0.out.call hlf
    have HB1 := Lib.hid hb1
    obtain ⟨r0, r1, r2, r3, r4, r5, r6, r7, r8, r9, rz, rf⟩ := hb1.get (List.Mem.head _)
    clear hlf hb1 HB0 HC
    go_wp2_with fail
    refine bodyPost_ret (v := .tuple #[.agg (evC ev (.slice A9 l.length C9)).toArray, .bool true]) (by simp [results, Tryz.results55, go_sem, evC, r0, r1, r2, r3, r4, r5, r6, r7, r8, r9]) rfl ?_
    exact ⟨_, rfl, HB1.out.fin (List.Mem.head _) (same10 (Same.refl _ _) (.inl (by simp)) _ _ _ _ _ _ _ _ _ _)⟩
  | fail er th2 t2 =>
    unfold InsP FailP at hC ⊢
    have HC := Lib.hid hC
    clear hC hq
    go_enter Tryz.func55, Tryz.ntmps55
    go_wp2_with fail
    obtain ⟨w0, hw0⟩ : ∃ w0, w0 = w.alloc (.cells #[.int .i64 0, .int .u8 0, .int .i64 0, .int .i64 0, .int .u64 0, .int .u64 0, .slice none 0 0, .int .i64 0, .bool false, .int .i64 0] 44) := ⟨_, rfl⟩
    rw [← hw0]
    have HB0 := Lib.hid (HB.out.box zeros hw0)
    clear hw0
    refine (HC.out _ _ _ HB0.out.sit).mono ?_
    rintro e w1 ⟨rfl, hlf⟩
    obtain ⟨FT1, G1, hb1⟩ := HB0.out.call hlf
    exact ⟨rfl, rfl, hb1.lf⟩

set_option maxHeartbeats 4000000 in
set_option maxRecDepth 100000 in
theorem prim_7 (h : Sit k w th t FT G) (o : Out) (hq : ∀ th t, o ≠ .quiet th t) (hC : ∀ W FT' G', Sit k W th t FT' G' → Calls Tryz.prog 86 #[.pointer (some ⟨k.T, 0, none⟩), toyV k.H, .int .u8 2, .int .i64 0] W (InsP k W FT' G' o)) :
    Calls Tryz.prog 55 #[.pointer (some ⟨k.T, 0, none⟩), toyV k.H, .int .i64 7] w (InsP k w FT G o) := by
  have HB := Lib.hid (VB.open_ h)
  clear h
  unfold toyV at *
  cases o with
  | quiet a b => exact absurd rfl (hq a b)
  | did ev l th2 t2 =>
    unfold InsP DidP at hC ⊢
    simp only [evC] at hC
    have HC := Lib.hid hC
    clear hC hq
    go_enter Tryz.func55, Tryz.ntmps55
    go_wp2_with fail
    obtain ⟨w0, hw0⟩ : ∃ w0, w0 = w.alloc (.cells #[.int .i64 0, .int .u8 0, .int .i64 0, .int .i64 0, .int .u64 0, .int .u64 0, .slice none 0 0, .int .i64 0, .bool false, .int .i64 0] 44) := ⟨_, rfl⟩
    rw [← hw0]
    have HB0 := Lib.hid (HB.out.box zeros hw0)
    clear hw0
    refine (HC.out _ _ _ HB0.out.sit).mono ?_
    rintro e w1 ⟨v, rfl, hlf⟩
    obtain ⟨A9, C9, rfl⟩ := hlf.form
    obtain ⟨FT1, G1, hb1⟩ := HB0.out.call hlf
    have HB1 := Lib.hid hb1
    obtain ⟨r0, r1, r2, r3, r4, r5, r6, r7, r8, r9, rz, rf⟩ := hb1.get (List.Mem.head _)
    clear hlf hb1 HB0 HC
    go_wp2_with fail
    refine bodyPost_ret (v := .tuple #[.agg (evC ev (.slice A9 l.length C9)).toArray, .bool true]) (by simp [results, Tryz.results55, go_sem, evC, r0, r1, r2, r3, r4, r5, r6, r7, r8, r9]) rfl ?_
    exact ⟨_, rfl, HB1.out.fin (List.Mem.head _) (same10 (Same.refl _ _) (.inl (by simp)) _ _ _ _ _ _ _ _ _ _)⟩
  | fail er th2 t2 =>
    unfold InsP FailP at hC ⊢
    have HC := Lib.hid hC
    clear hC hq
    go_enter Tryz.func55, Tryz.ntmps55
    go_wp2_with fail
    obtain ⟨w0, hw0⟩ : ∃ w0, w0 = w.alloc (.cells #[.int .i64 0, .int .u8 0, .int .i64 0, .int .i64 0, .int .u64 0, .int .u64 0, .slice none 0 0, .int .i64 0, .bool false, .int .i64 0] 44) := ⟨_, rfl⟩
    rw [← hw0]
    have HB0 := Lib.hid (HB.out.box zeros hw0)
    clear hw0
    refine (HC.out _ _ _ HB0.out.sit).mono ?_
    rintro e w1 ⟨rfl, hlf⟩
    obtain ⟨FT1, G1, hb1⟩ := HB0.out.call hlf
    exact ⟨rfl, rfl, hb1.lf⟩

set_option maxHeartbeats 4000000 in
set_option maxRecDepth 100000 in
theorem prim_4 (h : Sit k w th t FT G) (o : Out) (hq : ∀ th t, o ≠ .quiet th t) (hC : ∀ W FT' G', Sit k W th t FT' G' → Calls Tryz.prog 87 #[.pointer (some ⟨k.T, 0, none⟩), toyV k.H, .int .u8 1, .int .i64 0] W (InsP k W FT' G' o)) :
    Calls Tryz.prog 55 #[.pointer (some ⟨k.T, 0, none⟩), toyV k.H, .int .i64 4] w (InsP k w FT G o) := by
  have HB := Lib.hid (VB.open_ h)
  clear h
  unfold toyV at *
  cases o with
  | quiet a b => exact absurd rfl (hq a b)
  | did ev l th2 t2 =>
    unfold InsP DidP at hC ⊢
    simp only [evC] at hC
    have HC := Lib.hid hC
    clear hC hq
    go_enter Tryz.func55, Tryz.ntmps55
    go_wp2_with fail
    obtain ⟨w0, hw0⟩ : ∃ w0, w0 = w.alloc (.cells #[.int .i64 0, .int .u8 0, .int .i64 0, .int .i64 0, .int .u64 0, .int .u64 0, .slice none 0 0, .int .i64 0, .bool false, .int .i64 0] 44) := ⟨_, rfl⟩
    rw [← hw0]
    have HB0 := Lib.hid (HB.out.box zeros hw0)
    clear hw0
    refine (HC.out _ _ _ HB0.out.sit).mono ?_
    rintro e w1 ⟨v, rfl, hlf⟩
    obtain ⟨A9, C9, rfl⟩ := hlf.form
    obtain ⟨FT1, G1, hb1⟩ := HB0.out.call hlf
    have HB1 := Lib.hid hb1
    obtain ⟨r0, r1, r2, r3, r4, r5, r6, r7, r8, r9, rz, rf⟩ := hb1.get (List.Mem.head _)
    clear hlf hb1 HB0 HC
    go_wp2_with fail
    refine bodyPost_ret (v := .tuple #[.agg (evC ev (.slice A9 l.length C9)).toArray, .bool true]) (by simp [results, Tryz.results55, go_sem, evC, r0, r1, r2, r3, r4, r5, r6, r7, r8, r9]) rfl ?_
    exact ⟨_, rfl, HB1.out.fin (List.Mem.head _) (same10 (Same.refl _ _) (.inl (by simp)) _ _ _ _ _ _ _ _ _ _)⟩
  | fail er th2 t2 =>
    unfold InsP FailP at hC ⊢
    have HC := Lib.hid hC
    clear hC hq
    go_enter Tryz.func55, Tryz.ntmps55
    go_wp2_with fail
    obtain ⟨w0, hw0⟩ : ∃ w0, w0 = w.alloc (.cells #[.int .i64 0, .int .u8 0, .int .i64 0, .int .i64 0, .int .u64 0, .int .u64 0, .slice none 0 0, .int .i64 0, .bool false, .int .i64 0] 44) := ⟨_, rfl⟩
    rw [← hw0]
    have HB0 := Lib.hid (HB.out.box zeros hw0)
    clear hw0
    refine (HC.out _ _ _ HB0.out.sit).mono ?_
    rintro e w1 ⟨rfl, hlf⟩
    obtain ⟨FT1, G1, hb1⟩ := HB0.out.call hlf
    exact ⟨rfl, rfl, hb1.lf⟩

set_option maxHeartbeats 4000000 in
set_option maxRecDepth 100000 in
theorem prim_5 (h : Sit k w th t FT G) (o : Out) (hq : ∀ th t, o ≠ .quiet th t) (hC : ∀ W FT' G', Sit k W th t FT' G' → Calls Tryz.prog 87 #[.pointer (some ⟨k.T, 0, none⟩), toyV k.H, .int .u8 1, .int .i64 1] W (InsP k W FT' G' o)) :
    Calls Tryz.prog 55 #[.pointer (some ⟨k.T, 0, none⟩), toyV k.H, .int .i64 5] w (InsP k w FT G o) := by
  have HB := Lib.hid (VB.open_ h)
  clear h
  unfold toyV at *
  cases o with
  | quiet a b => exact absurd rfl (hq a b)
  | did ev l th2 t2 =>
    unfold InsP DidP at hC ⊢
    simp only [evC] at hC
    have HC := Lib.hid hC
    clear hC hq
    go_enter Tryz.func55, Tryz.ntmps55
    go_wp2_with fail
    obtain ⟨w0, hw0⟩ : ∃ w0, w0 = w.alloc (.cells #[.int .i64 0, .int .u8 0, .int .i64 0, .int .i64 0, .int .u64 0, .int .u64 0, .slice none 0 0, .int .i64 0, .bool false, .int .i64 0] 44) := ⟨_, rfl⟩
    rw [← hw0]
    have HB0 := Lib.hid (HB.out.box zeros hw0)
    clear hw0
    refine (HC.out _ _ _ HB0.out.sit).mono ?_
    rintro e w1 ⟨v, rfl, hlf⟩
    obtain ⟨A9, C9, rfl⟩ := hlf.form
    obtain ⟨FT1, G1, hb1⟩ := HB0.out.call hlf
    have HB1 := Lib.hid hb1
    obtain ⟨r0, r1, r2, r3, r4, r5, r6, r7, r8, r9, rz, rf⟩ := hb1.get (List.Mem.head _)
    clear hlf hb1 HB0 HC
    go_wp2_with fail
    refine bodyPost_ret (v := .tuple #[.agg (evC ev (.slice A9 l.length C9)).toArray, .bool true]) (by simp [results, Tryz.results55, go_sem, evC, r0, r1, r2, r3, r4, r5, r6, r7, r8, r9]) rfl ?_
    exact ⟨_, rfl, HB1.out.fin (List.Mem.head _) (same10 (Same.refl _ _) (.inl (by simp)) _ _ _ _ _ _ _ _ _ _)⟩
  | fail er th2 t2 =>
    unfold InsP FailP at hC ⊢
    have HC := Lib.hid hC
    clear hC hq
    go_enter Tryz.func55, Tryz.ntmps55
    go_wp2_with fail
    obtain ⟨w0, hw0⟩ : ∃ w0, w0 = w.alloc (.cells #[.int .i64 0, .int .u8 0, .int .i64 0, .int .i64 0, .int .u64 0, .int .u64 0, .slice none 0 0, .int .i64 0, .bool false, .int .i64 0] 44) := ⟨_, rfl⟩
    rw [← hw0]
    have HB0 := Lib.hid (HB.out.box zeros hw0)
    clear hw0
    refine (HC.out _ _ _ HB0.out.sit).mono ?_
    rintro e w1 ⟨rfl, hlf⟩
    obtain ⟨FT1, G1, hb1⟩ := HB0.out.call hlf
    exact ⟨rfl, rfl, hb1.lf⟩

set_option maxHeartbeats 4000000 in
set_option maxRecDepth 100000 in
theorem prim_8 (h : Sit k w th t FT G) (o : Out) (hq : ∀ th t, o ≠ .quiet th t) (hC : ∀ W FT' G', Sit k W th t FT' G' → Calls Tryz.prog 87 #[.pointer (some ⟨k.T, 0, none⟩), toyV k.H, .int .u8 2, .int .i64 0] W (InsP k W FT' G' o)) :
    Calls Tryz.prog 55 #[.pointer (some ⟨k.T, 0, none⟩), toyV k.H, .int .i64 8] w (InsP k w FT G o) := by
  have HB := Lib.hid (VB.open_ h)
  clear h
  unfold toyV at *
  cases o with
  | quiet a b => exact absurd rfl (hq a b)
  | did ev l th2 t2 =>
    unfold InsP DidP at hC ⊢
    simp only [evC] at hC
    have HC := Lib.hid hC
    clear hC hq
    go_enter Tryz.func55, Tryz.ntmps55
    go_wp2_with fail
    obtain ⟨w0, hw0⟩ : ∃ w0, w0 = w.alloc (.cells #[.int .i64 0, .int .u8 0, .int .i64 0, .int .i64 0, .int .u64 0, .int .u64 0, .slice none 0 0, .int .i64 0, .bool false, .int .i64 0] 44) := ⟨_, rfl⟩
    rw [← hw0]
    have HB0 := Lib.hid (HB.out.box zeros hw0)
    clear hw0
    refine (HC.out _ _ _ HB0.out.sit).mono ?_
    rintro e w1 ⟨v, rfl, hlf⟩
    obtain ⟨A9, C9, rfl⟩ := hlf.form
    obtain ⟨FT1, G1, hb1⟩ := HB0.out.call hlf
    have HB1 := Lib.hid hb1
    obtain ⟨r0, r1, r2, r3, r4, r5, r6, r7, r8, r9, rz, rf⟩ := hb1.get (List.Mem.head _)
    clear hlf hb1 HB0 HC
    go_wp2_with fail
    refine bodyPost_ret (v := .tuple #[.agg (evC ev (.slice A9 l.length C9)).toArray, .bool true]) (by simp [results, Tryz.results55, go_sem, evC, r0, r1, r2, r3, r4, r5, r6, r7, r8, r9]) rfl ?_
    exact ⟨_, rfl, HB1.out.fin (List.Mem.head _) (same10 (Same.refl _ _) (.inl (by simp)) _ _ _ _ _ _ _ _ _ _)⟩
  | fail er th2 t2 =>
    unfold InsP FailP at hC ⊢
    have HC := Lib.hid hC
    clear hC hq
    go_enter Tryz.func55, Tryz.ntmps55
    go_wp2_with fail
    obtain ⟨w0, hw0⟩ : ∃ w0, w0 = w.alloc (.cells #[.int .i64 0, .int .u8 0, .int .i64 0, .int .i64 0, .int .u64 0, .int .u64 0, .slice none 0 0, .int .i64 0, .bool false, .int .i64 0] 44) := ⟨_, rfl⟩
    rw [← hw0]
    have HB0 := Lib.hid (HB.out.box zeros hw0)
    clear hw0
    refine (HC.out _ _ _ HB0.out.sit).mono ?_
    rintro e w1 ⟨rfl, hlf⟩
    obtain ⟨FT1, G1, hb1⟩ := HB0.out.call hlf
    exact ⟨rfl, rfl, hb1.lf⟩

set_option maxHeartbeats 4000000 in
set_option maxRecDepth 100000 in
theorem prim_9 (h : Sit k w th t FT G) (o : Out) (hq : ∀ th t, o ≠ .quiet th t) (hC : ∀ W FT' G', Sit k W th t FT' G' → Calls Tryz.prog 88 #[.pointer (some ⟨k.T, 0, none⟩), toyV k.H] W (InsP k W FT' G' o)) :
    Calls Tryz.prog 55 #[.pointer (some ⟨k.T, 0, none⟩), toyV k.H, .int .i64 9] w (InsP k w FT G o) := by
  have HB := Lib.hid (VB.open_ h)
  clear h
  unfold toyV at *
  cases o with
  | quiet a b => exact absurd rfl (hq a b)
  | did ev l th2 t2 =>
    unfold InsP DidP at hC ⊢
    simp only [evC] at hC
    have HC := Lib.hid hC
    clear hC hq
    go_enter Tryz.func55, Tryz.ntmps55
    go_wp2_with fail
    obtain ⟨w0, hw0⟩ : ∃ w0, w0 = w.alloc (.cells #[.int .i64 0, .int .u8 0, .int .i64 0, .int .i64 0, .int .u64 0, .int .u64 0, .slice none 0 0, .int .i64 0, .bool false, .int .i64 0] 44) := ⟨_, rfl⟩
    rw [← hw0]
    have HB0 := Lib.hid (HB.out.box zeros hw0)
    clear hw0
    refine (HC.out _ _ _ HB0.out.sit).mono ?_
    rintro e w1 ⟨v, rfl, hlf⟩
    obtain ⟨A9, C9, rfl⟩ := hlf.form
    obtain ⟨FT1, G1, hb1⟩ := HB0.out.call hlf
    have HB1 := Lib.hid hb1
    obtain ⟨r0, r1, r2, r3, r4, r5, r6, r7, r8, r9, rz, rf⟩ := hb1.get (List.Mem.head _)
    clear hlf hb1 HB0 HC
    go_wp2_with fail
    refine bodyPost_ret (v := .tuple #[.agg (evC ev (.slice A9 l.length C9)).toArray, .bool true]) (by simp [results, Tryz.results55, go_sem, evC, r0, r1, r2, r3, r4, r5, r6, r7, r8, r9]) rfl ?_
    exact ⟨_, rfl, HB1.out.fin (List.Mem.head _) (same10 (Same.refl _ _) (.inl (by simp)) _ _ _ _ _ _ _ _ _ _)⟩
  | fail er th2 t2 =>
    unfold InsP FailP at hC ⊢
    have HC := Lib.hid hC
    clear hC hq
    go_enter Tryz.func55, Tryz.ntmps55
    go_wp2_with fail
    obtain ⟨w0, hw0⟩ : ∃ w0, w0 = w.alloc (.cells #[.int .i64 0, .int .u8 0, .int .i64 0, .int .i64 0, .int .u64 0, .int .u64 0, .slice none 0 0, .int .i64 0, .bool false, .int .i64 0] 44) := ⟨_, rfl⟩
    rw [← hw0]
    have HB0 := Lib.hid (HB.out.box zeros hw0)
    clear hw0
    refine (HC.out _ _ _ HB0.out.sit).mono ?_
    rintro e w1 ⟨rfl, hlf⟩
    obtain ⟨FT1, G1, hb1⟩ := HB0.out.call hlf
    exact ⟨rfl, rfl, hb1.lf⟩

set_option maxHeartbeats 4000000 in
set_option maxRecDepth 100000 in
theorem prim_10 (h : Sit k w th t FT G) (o : Out) (hq : ∀ th t, o ≠ .quiet th t) (hC : ∀ W FT' G', Sit k W th t FT' G' → Calls Tryz.prog 89 #[.pointer (some ⟨k.T, 0, none⟩), toyV k.H] W (InsP k W FT' G' o)) :
    Calls Tryz.prog 55 #[.pointer (some ⟨k.T, 0, none⟩), toyV k.H, .int .i64 10] w (InsP k w FT G o) := by
  have HB := Lib.hid (VB.open_ h)
  clear h
  unfold toyV at *
  cases o with
  | quiet a b => exact absurd rfl (hq a b)
  | did ev l th2 t2 =>
    unfold InsP DidP at hC ⊢
    simp only [evC] at hC
    have HC := Lib.hid hC
    clear hC hq
    go_enter Tryz.func55, Tryz.ntmps55
    go_wp2_with fail
    obtain ⟨w0, hw0⟩ : ∃ w0, w0 = w.alloc (.cells #[.int .i64 0, .int .u8 0, .int .i64 0, .int .i64 0, .int .u64 0, .int .u64 0, .slice none 0 0, .int .i64 0, .bool false, .int .i64 0] 44) := ⟨_, rfl⟩
    rw [← hw0]
    have HB0 := Lib.hid (HB.out.box zeros hw0)
    clear hw0
    refine (HC.out _ _ _ HB0.out.sit).mono ?_
    rintro e w1 ⟨v, rfl, hlf⟩
    obtain ⟨A9, C9, rfl⟩ := hlf.form
    obtain ⟨FT1, G1, hb1⟩ := HB0.out.call hlf
    have HB1 := Lib.hid hb1
    obtain ⟨r0, r1, r2, r3, r4, r5, r6, r7, r8, r9, rz, rf⟩ := hb1.get (List.Mem.head _)
    clear hlf hb1 HB0 HC
    go_wp2_with fail
    refine bodyPost_ret (v := .tuple #[.agg (evC ev (.slice A9 l.length C9)).toArray, .bool true]) (by simp [results, Tryz.results55, go_sem, evC, r0, r1, r2, r3, r4, r5, r6, r7, r8, r9]) rfl ?_
    exact ⟨_, rfl, HB1.out.fin (List.Mem.head _) (same10 (Same.refl _ _) (.inl (by simp)) _ _ _ _ _ _ _ _ _ _)⟩
  | fail er th2 t2 =>
    unfold InsP FailP at hC ⊢
    have HC := Lib.hid hC
    clear hC hq
    go_enter Tryz.func55, Tryz.ntmps55
    go_wp2_with fail
    obtain ⟨w0, hw0⟩ : ∃ w0, w0 = w.alloc (.cells #[.int .i64 0, .int .u8 0, .int .i64 0, .int .i64 0, .int .u64 0, .int .u64 0, .slice none 0 0, .int .i64 0, .bool false, .int .i64 0] 44) := ⟨_, rfl⟩
    rw [← hw0]
    have HB0 := Lib.hid (HB.out.box zeros hw0)
    clear hw0
    refine (HC.out _ _ _ HB0.out.sit).mono ?_
    rintro e w1 ⟨rfl, hlf⟩
    obtain ⟨FT1, G1, hb1⟩ := HB0.out.call hlf
    exact ⟨rfl, rfl, hb1.lf⟩

set_option maxHeartbeats 8000000 in
set_option maxRecDepth 100000 in
theorem prim_1 (h : Sit k w th t FT G) (hst : 2 ≤ th.st.length) (ev : Ev) (l : List Int) (th2 : Th) (t2 : Toy) (hC : ∀ W FT' G', Sit k W th t FT' G' → Calls Tryz.prog 85 #[.pointer (some ⟨k.T, 0, none⟩), toyV k.H, .int .u8 1, .int .i64 2, .int .u64 (th.at 1), .int .u64 (th.at 0)] W (InsP k W FT' G' (.did ev l th2 t2))) :
    Calls Tryz.prog 55 #[.pointer (some ⟨k.T, 0, none⟩), toyV k.H, .int .i64 1] w (InsP k w FT G (.did ev l th2 t2)) := by
  have HB := Lib.hid (VB.open_ h)
  obtain ⟨x1, hx1⟩ : ∃ x, x = th.at 1 := ⟨_, rfl⟩
  obtain ⟨x0, hx0⟩ : ∃ x, x = th.at 0 := ⟨_, rfl⟩
  rw [← hx1, ← hx0] at hC
  have HX := Lib.hid (And.intro hx1 hx0)
  clear h hx1 hx0
  unfold toyV at *
  unfold InsP DidP at hC ⊢
  simp only [evC] at hC
  have HC := Lib.hid hC
  clear hC
  go_enter Tryz.func55, Tryz.ntmps55
  go_wp2_with fail
  obtain ⟨w0, hw0⟩ : ∃ w0, w0 = w.alloc (.cells #[.int .i64 0, .int .u8 0, .int .i64 0, .int .i64 0, .int .u64 0, .int .u64 0, .slice none 0 0, .int .i64 0, .bool false, .int .i64 0] 44) := ⟨_, rfl⟩
  rw [← hw0]
  have HB0 := Lib.hid (HB.out.box zeros hw0)
  clear hw0
  obtain ⟨fv, sv, rv, q⟩ := HB0.out.sit.vt.th
  obtain ⟨g, C, e1, k1, gz⟩ := st_cell q 1 (by omega)
  obtain ⟨g9, C9, e0, k0, -⟩ := st_cell q 0 (by omega)
  rw [e1] at e0
  injection e0 with e0 _ _
  injection e0 with e0
  injection e0 with e0 _ _
  subst e0
  rw [← HX.out.1] at k1
  rw [← HX.out.2] at k0
  have HE := Lib.hid e1
  have HQ := Lib.hid q
  obtain ⟨L, hL⟩ : ∃ L, L = th.st.length := ⟨_, rfl⟩
  have HTI : Hid (∀ W, Same [] w0 W → ∀ i : Int, (i = 0 ∨ i = 1) → Calls Tryz.prog 75 #[.pointer (some ⟨k.T, 0, none⟩), .int .i64 i] W fun e w' => e = .returned (.pointer (some ⟨g, if i = 0 then L - 1 else L - 1 - 1, none⟩)) ∧ Same [] W w') := Lib.hid (fun W hs i hi => by
    rcases hi with rfl | rfl
    · refine (top_any (HQ.out.frame0 hs) 0 (by omega)).mono ?_
      rintro e w2 ⟨gA, CA, eA, rfl, -, -, -, -, hs2⟩
      rw [e1] at eA
      injection eA with eA _ _; injection eA with eA; injection eA with eA _ _; subst eA
      exact ⟨by simp [hL], hs2⟩
    · refine (top_any (HQ.out.frame0 hs) 1 (by omega)).mono ?_
      rintro e w2 ⟨gA, CA, eA, rfl, -, -, -, -, hs2⟩
      rw [e1] at eA
      injection eA with eA _ _; injection eA with eA; injection eA with eA _ _; subst eA
      exact ⟨by simp [hL], hs2⟩)
  rw [← hL] at k1 k0 hst
  rw [Nat.sub_zero] at k0
  have HK1 : Hid (∀ W, Same [] w0 W → W.cell? ⟨g, L - 1 - 1, none⟩ = some (.int .u64 x1)) := Lib.hid (fun W hs => (hs.cell gz (by simp)).trans k1)
  have HK0 : Hid (∀ W, Same [] w0 W → W.cell? ⟨g, L - 1, none⟩ = some (.int .u64 x0)) := Lib.hid (fun W hs => (hs.cell gz (by simp)).trans k0)
  clear q hL k1 k0 e1
  go_region_with (first
    | (go_simp; go_at_call 75; refine (HTI.out _ (by repeat (first | exact HSa.out | exact Same.refl _ _ | refine Same.drew ?_ | refine Same.drewN ?_ _)) _ (by decide)).mono ?_; rintro e wA ⟨rfl, hs⟩; have HSa : Hid (Same [] w0 wA) := Lib.hid (Same.trans (by repeat (first | exact HSa.out | exact Same.refl _ _ | refine Same.drew ?_ | refine Same.drewN ?_ _)) hs); have ka1 := HK1.out _ HSa.out; have ka0 := HK0.out _ HSa.out; clear hs)
    | (go_simp; go_at_call 85; refine (HC.out _ _ _ (HB0.out.same (by repeat (first | exact HSa.out | exact Same.refl _ _ | refine Same.drew ?_ | refine Same.drewN ?_ _))).sit).mono ?_; rintro e w1 ⟨v, rfl, hlf⟩; obtain ⟨A9, C9, rfl⟩ := hlf.form; obtain ⟨FT1, G1, hb1⟩ := (HB0.out.same (by repeat (first | exact HSa.out | exact Same.refl _ _ | refine Same.drew ?_ | refine Same.drewN ?_ _))).call hlf; have HB1 := Lib.hid hb1; obtain ⟨r0, r1, r2, r3, r4, r5, r6, r7, r8, r9, rz, rf⟩ := hb1.get (List.Mem.head _); clear hlf hb1))
  all_goals
    go_wp2_with fail
    refine bodyPost_ret (v := .tuple #[.agg (evC ev (.slice A9 l.length C9)).toArray, .bool true]) (by simp [results, Tryz.results55, go_sem, evC, r0, r1, r2, r3, r4, r5, r6, r7, r8, r9]) rfl ?_
    exact ⟨_, rfl, HB1.out.fin (List.Mem.head _) (by repeat (first | exact same10 (Same.refl _ _) (.inl (by simp)) _ _ _ _ _ _ _ _ _ _ | refine Same.drew ?_))⟩
end Vm
end Go.Proofs.YtkepcdbogeineaaGreatDoor
