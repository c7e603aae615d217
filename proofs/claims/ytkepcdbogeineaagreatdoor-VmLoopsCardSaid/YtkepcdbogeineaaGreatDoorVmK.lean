/- Instructions: cons, field; what is asked of the toy. -/
import Derived.Test.YtkepcdbogeineaaGreatDoorVmU
namespace Go.Proofs.YtkepcdbogeineaaGreatDoor
open Go.RowKit Hp Ck
namespace Vm
variable {w w' w1 W W' : World} {k : Kx} {th th' : Th} {FT G : List Nat} {t t' : Toy}

theorem Sit.toyOnly {cc gc sc hc : Value} {G1 : List Nat} (h : Sit k w th t FT G) (h1 : ToyAt w' k.H cc gc sc hc t' G1) (hs : Same G w w') (hG : ∀ b ∈ G1, b ∈ G ∨ w.heap.size ≤ b) : Lf k w FT G th t' [] (.slice none 0 0) w' := h.vg (VG.ofH h.vt h1 hs hG)

theorem cell2_any (h : Sit k w th t FT G) (hf : t.Fine) (x kd er : Int) (hx : 0 ≤ x ∧ x < 18446744073709551616) :
    Calls Tryz.prog 82 #[toyV k.H, .int .u64 x, .int .u8 kd, .int .i64 er] w fun e w' => (if t.kinded x kd then e = .returned (.int .i64 (cellN x)) else e = .panicked [{ v := .iface 88 (.agg #[.int .i64 er]), recovered := false }]) ∧ Lf k w FT G th (t.asked1 x) [] (.slice none 0 0) w' := by
  obtain ⟨cc, gc, sc, hc, h2⟩ := h.vt.toy
  refine (vcell_any h2 hf h.vars x kd er hx).mono ?_
  rintro e w1 ⟨h3, h4, h5⟩
  exact ⟨h3, h.toyOnly h4 h5 (fun b hb => .inl hb)⟩
theorem load2_any (h : Sit k w th t FT G) (hf : t.Fine) (n : Int) (hh : t.has n = true) (f : Int) (hfi : f = 0 ∨ f = 1) :
    Calls Tryz.prog 71 #[toyV k.H, .int .i64 n, .int .i64 f] w fun e w' => ∃ x, x = (if f = 1 then (t.cel n).b else (t.cel n).a) ∧ e = .returned (.tuple #[.int .u64 x, .agg (evC { what := 1, cell := n, field := f, old := x, new := x } (.slice none 0 0)).toArray]) ∧ Lf k w FT G th (t.ask []) [] (.slice none 0 0) w' := by
  obtain ⟨cc, gc, sc, hc, h2⟩ := h.vt.toy
  refine (vload_any h2 hf n hh f hfi).mono ?_
  rintro e w1 ⟨x, h3, h4, h5, h6⟩
  exact ⟨x, h3, h4, h.toyOnly h5 h6 (fun b hb => .inl hb)⟩

theorem asked1_cel (t : Toy) (x n : Int) : (t.asked1 x).cel n = t.cel n ∧ (t.asked1 x).has n = t.has n := by
  unfold Toy.asked1; split <;> exact ⟨rfl, rfl⟩
theorem asked1_fine (t : Toy) (x : Int) (h : t.Fine) (hk : t.kinds < 1000000) : (t.asked1 x).Fine := by
  unfold Toy.asked1
  split
  · exact ⟨h.off, h.calls, by have := h.kinds; constructor <;> simp only <;> omega, h.len⟩
  · exact h
/-- A cell of a kind other than 0 is there. -/
theorem kinded_has {x kd : Int} (h : t.kinded x kd = true) (hk : kd ≠ 0) : t.has (cellN x) = true := by
  unfold Toy.kinded Toy.kindOf at h
  simp only [Bool.and_eq_true, beq_iff_eq] at h
  obtain ⟨-, h⟩ := h
  split at h
  · assumption
  · exact absurd h.symm hk

/-- A word of the stack. -/
theorem st_cell {T M : Nat} {cv pv gv fv sv rv : Value} {kvs : List Value} {FC : List Nat} (h : ThAt w T M cv pv gv fv sv rv kvs th FC FT) (n : Nat) (hn : n < th.st.length) : ∃ g C, sv = .slice (some ⟨g, 0, none⟩) th.st.length C ∧ w.cell? ⟨g, th.st.length - 1 - n, none⟩ = some (.int .u64 (th.at n)) ∧ g < w.heap.size := by
  obtain ⟨g, C, rfl⟩ : ∃ g C, sv = .slice (some ⟨g, 0, none⟩) th.st.length C := by
    rcases h.st.2 with ⟨_, h0⟩ | ⟨g, cap, cur, e, _⟩
    · omega
    · exact ⟨g, cap, e⟩
  obtain ⟨k1, -⟩ := own_cell h.st (th.st.length - 1 - n) (by omega)
  have k3 : (th.st.map (Value.int .u64))[th.st.length - 1 - n]? = some (.int .u64 (th.at n)) := by
    rw [List.getElem?_map, List.getElem?_eq_getElem (by omega)]
    unfold Th.at
    rw [List.getD_eq_getElem?_getD, List.getElem?_eq_getElem (by omega)]
    rfl
  exact ⟨g, C, rfl, k1.trans k3, h.st.lt rfl⟩

def consM (kd : Int) (n : Nat) (a b : Int) (th : Th) (t : Toy) : Out :=
  if (t.cells.length : Int) < t.most then .did { what := 5, cell := t.off + t.cells.length, old := a, new := b } (shadL a b) (({ th with req := none } : Th).value n (mkW 8 (t.off + t.cells.length))) ((t.ask [a, b]).more ⟨kd, 0, a, b⟩)
  else .did { what := 6 } [] { th with req := some (a, b) } (t.ask [a, b])

set_option maxHeartbeats 4000000 in
set_option maxRecDepth 100000 in
theorem cons_any (h : Sit k w th t FT G) (hf : t.Fine) (kd : Int) (n : Nat) (a b : Int) (ha : 0 ≤ a ∧ a < 18446744073709551616) (hb : 0 ≤ b ∧ b < 18446744073709551616) (hn : n ≤ th.st.length) (hl : th.st.length ≤ 1000000) (hfr : th.fr ≠ []) (hat : th.top.at_ ≤ 1000000) :
    Calls Tryz.prog 85 #[.pointer (some ⟨k.T, 0, none⟩), toyV k.H, .int .u8 kd, .int .i64 n, .int .u64 a, .int .u64 b] w (InsP k w FT G (consM kd n a b th t)) := by
  have HA := Lib.hid (fun W (h : Sit k W th t FT G) => alloc2_any h hf kd a b ha hb)
  have HB := Lib.hid (VB.open_ h)
  clear h hf ha hb
  unfold consM
  unfold toyV at *
  by_cases hroom : (t.cells.length : Int) < t.most
  · simp only [if_pos hroom] at HA ⊢
    simp only [evC] at HA
    unfold InsP DidP
    obtain ⟨cn, hcn⟩ : ∃ c, c = t.off + (t.cells.length : Int) := ⟨_, rfl⟩
    rw [← hcn] at HA ⊢
    obtain ⟨x, hx⟩ : ∃ x, x = mkW 8 cn := ⟨_, rfl⟩
    rw [← hx] at HA ⊢
    clear hroom hcn hx
    go_enter Tryz.func85, Tryz.ntmps85
    go_wp2_with fail
    obtain ⟨w0, hw0⟩ : ∃ w0, w0 = w.alloc (.cells #[.int .i64 0, .int .u8 0, .int .i64 0, .int .i64 0, .int .u64 0, .int .u64 0, .slice none 0 0, .int .i64 0, .bool false, .int .i64 0] 44) := ⟨_, rfl⟩
    rw [← hw0]
    have HB0 := Lib.hid (HB.out.box zeros hw0)
    clear hw0
    refine (HA.out _ HB0.out.sit).mono ?_
    rintro e w1 ⟨A9, C9, rfl, hlf⟩
    obtain ⟨FT1, G1, hb1⟩ := HB0.out.call hlf
    have HB1 := Lib.hid hb1
    clear hlf hb1 HA HB0
    go_wp2_with fail
    obtain ⟨w2, hw2⟩ : ∃ w2, w2 = w1.alloc (.cells #[.int .i64 0, .int .u8 5, .int .i64 cn, .int .i64 0, .int .u64 a, .int .u64 b, .slice A9 (shadL a b).length C9, .int .i64 0, .bool false, .int .i64 0] 44) := ⟨_, rfl⟩
    rw [← hw2]
    have HB2 := Lib.hid (HB1.out.box (evC { what := 5, cell := cn, old := a, new := b } (.slice A9 (shadL a b).length C9)) hw2)
    clear hw2 HB1
    obtain ⟨fv, sv, rv, q⟩ := HB2.out.sit.vt.th
    refine (value_any q n hn hl x hfr hat).mono ?_
    rintro e w3 ⟨rfl, hg⟩
    obtain ⟨FT2, G2, hb3⟩ := HB2.out.callT hg
    have HB3 := Lib.hid hb3
    obtain ⟨e0, e1, e2, e3, e4, e5, e6, e7, e8, e9, ez, ef⟩ := hb3.get (List.Mem.head _)
    obtain ⟨r0, r1, r2, r3, r4, r5, r6, r7, r8, r9, rz, rf⟩ := hb3.get (List.mem_cons_of_mem _ (List.Mem.head _))
    clear hg hb3 q HB2
    go_wp2_with fail
    refine bodyPost_ret (v := .tuple #[.agg (evC { what := 5, cell := cn, old := a, new := b } (.slice A9 (shadL a b).length C9)).toArray, .bool true]) (by simp [results, Tryz.results85, go_sem, evC, r0, r1, r2, r3, r4, r5, r6, r7, r8, r9]) rfl ?_
    exact ⟨_, rfl, HB3.out.fin (List.mem_cons_of_mem _ (List.Mem.head _)) (same10 (Same.refl _ _) (.inl (by simp)) _ _ _ _ _ _ _ _ _ _)⟩
  · simp only [if_neg hroom] at HA ⊢
    simp only [evC] at HA
    unfold InsP DidP
    clear hroom
    go_enter Tryz.func85, Tryz.ntmps85
    go_wp2_with fail
    obtain ⟨w0, hw0⟩ : ∃ w0, w0 = w.alloc (.cells #[.int .i64 0, .int .u8 0, .int .i64 0, .int .i64 0, .int .u64 0, .int .u64 0, .slice none 0 0, .int .i64 0, .bool false, .int .i64 0] 44) := ⟨_, rfl⟩
    rw [← hw0]
    have HB0 := Lib.hid (HB.out.box zeros hw0)
    clear hw0
    refine (HA.out _ HB0.out.sit).mono ?_
    rintro e w1 ⟨rfl, hlf⟩
    obtain ⟨FT1, G1, hb1⟩ := HB0.out.call hlf
    have HB1 := Lib.hid hb1
    obtain ⟨r0, r1, r2, r3, r4, r5, r6, r7, r8, r9, rz, rf⟩ := hb1.get (List.Mem.head _)
    clear hlf hb1 HA HB0
    go_wp2_with fail
    refine bodyPost_ret (v := .tuple #[.agg (evC { what := 6 } (.slice none 0 0)).toArray, .bool true]) (by simp [results, Tryz.results85, go_sem, evC, r0, r1, r2, r3, r4, r5, r6, r7, r8, r9, World.cell?_alloc_lt, rz]) rfl ?_
    exact ⟨_, rfl, HB1.out.fin (List.Mem.head _) ((same10 (Same.refl _ _) (.inl (by simp)) _ _ _ _ _ _ _ _ _ _).alloc _)⟩

def fieldM (kd f : Int) (th : Th) (t : Toy) : Out :=
  if t.kinded (th.at 0) kd then .did { what := 1, cell := cellN (th.at 0), field := f, old := (if f = 1 then (t.cel (cellN (th.at 0))).b else (t.cel (cellN (th.at 0))).a), new := (if f = 1 then (t.cel (cellN (th.at 0))).b else (t.cel (cellN (th.at 0))).a) } [] (th.value 1 (if f = 1 then (t.cel (cellN (th.at 0))).b else (t.cel (cellN (th.at 0))).a)) ((t.asked1 (th.at 0)).ask [])
  else .fail 10 th (t.asked1 (th.at 0))

set_option maxHeartbeats 4000000 in
set_option maxRecDepth 100000 in
theorem field_any (h : Sit k w th t FT G) (hf : t.Fine) (kd : Int) (hkd : kd ≠ 0) (f : Int) (hfi : f = 0 ∨ f = 1) (hst : 0 < th.st.length) (hx : 0 ≤ th.at 0 ∧ th.at 0 < 18446744073709551616) (hl : th.st.length ≤ 1000000) (hfr : th.fr ≠ []) (hat : th.top.at_ ≤ 1000000) (hkk : t.kinds < 1000000) :
    Calls Tryz.prog 86 #[.pointer (some ⟨k.T, 0, none⟩), toyV k.H, .int .u8 kd, .int .i64 f] w (InsP k w FT G (fieldM kd f th t)) := by
  unfold fieldM
  have HT := Lib.hid (fun W fv sv rv FT' (h1 : ThAt W k.T k.M k.cv k.pv k.gv fv sv rv k.kvs th k.FC FT') => top_any h1 0 hst)
  have HC := Lib.hid (fun W FT' G' (h : Sit k W th t FT' G') => cell2_any h hf (th.at 0) kd 10 hx)
  have HFI := Lib.hid (asked1_fine t (th.at 0) hf hkk)
  obtain ⟨ec1, ec2⟩ := asked1_cel t (th.at 0) (cellN (th.at 0))
  have HH : Hid (t.kinded (th.at 0) kd = true → t.has (cellN (th.at 0)) = true) := Lib.hid (fun h => kinded_has h hkd)
  have HL := Lib.hid (fun (hk : t.kinded (th.at 0) kd = true) W FT' G' (h : Sit k W th (t.asked1 (th.at 0)) FT' G') => load2_any h HFI.out (cellN (th.at 0)) (by rw [ec2]; exact HH.out hk) f hfi)
  simp only [ec1] at HL
  have HB := Lib.hid (VB.open_ h)
  obtain ⟨y, hy⟩ : ∃ y, y = th.at 0 := ⟨_, rfl⟩
  obtain ⟨n, hn⟩ : ∃ y, y = cellN (th.at 0) := ⟨_, rfl⟩
  obtain ⟨x, hx2⟩ : ∃ x, x = (if f = 1 then (t.cel n).b else (t.cel n).a) := ⟨_, rfl⟩
  rw [← hn] at HC HL ⊢
  rw [← hx2] at HL ⊢
  rw [← hy] at HT HC HL ⊢
  obtain ⟨tt, htt⟩ : ∃ s, s = t.asked1 y := ⟨_, rfl⟩
  rw [← htt] at HC HL ⊢
  obtain ⟨kb, hkb⟩ : ∃ b, b = t.kinded y kd := ⟨_, rfl⟩
  rw [← hkb] at HC HL ⊢
  clear h hx hy hn hx2 htt ec1 ec2 hfi HFI HH hkb hkd hf
  unfold toyV at *
  cases kb with
  | true =>
    simp only [if_true] at HC ⊢
    have HL2 := Lib.hid (HL.out rfl)
    simp only [evC] at HL2
    unfold InsP DidP
    clear HL
    go_enter Tryz.func86, Tryz.ntmps86
    go_wp2_with fail
    obtain ⟨w0, hw0⟩ : ∃ w0, w0 = w.alloc (.cells #[.int .i64 0, .int .u8 0, .int .i64 0, .int .i64 0, .int .u64 0, .int .u64 0, .slice none 0 0, .int .i64 0, .bool false, .int .i64 0] 44) := ⟨_, rfl⟩
    rw [← hw0]
    have HB0 := Lib.hid (HB.out.box zeros hw0)
    clear hw0
    obtain ⟨fv, sv, rv, q⟩ := HB0.out.sit.vt.th
    refine (HT.out _ _ _ _ _ q).mono ?_
    rintro e w1 ⟨g, C, -, rfl, kc, -, gz, -, hs1⟩
    have kc1 : w1.cell? ⟨g, th.st.length - 1, none⟩ = some (.int .u64 y) := (hs1.cell gz (by simp)).trans (by simpa using kc)
    have HB1 := Lib.hid (HB0.out.same hs1)
    clear hs1 kc HT q HB0
    go_wp2_with fail
    refine (HC.out _ _ _ HB1.out.sit).mono ?_
    rintro e w2 ⟨rfl, hlf⟩
    obtain ⟨FT1, G1, hb2⟩ := HB1.out.call hlf
    have HB2 := Lib.hid hb2
    clear hlf hb2 HC kc1 HB1
    go_wp2_with fail
    refine (HL2.out _ _ _ HB2.out.sit).mono ?_
    rintro e w3 ⟨x2, hx2, rfl, hlf⟩
    subst hx2
    obtain ⟨FT2, G2, hb3⟩ := HB2.out.call hlf
    have HB3 := Lib.hid hb3
    clear hlf hb3 HL2 HB2
    go_wp2_with fail
    obtain ⟨w4, hw4⟩ : ∃ w4, w4 = w3.alloc (.cells #[.int .i64 0, .int .u8 1, .int .i64 n, .int .i64 f, .int .u64 x2, .int .u64 x2, .slice none 0 0, .int .i64 0, .bool false, .int .i64 0] 44) := ⟨_, rfl⟩
    rw [← hw4]
    have HB4 := Lib.hid (HB3.out.box (evC { what := 1, cell := n, field := f, old := x2, new := x2 } (.slice none 0 0)) hw4)
    clear hw4 HB3
    obtain ⟨fv, sv, rv, q⟩ := HB4.out.sit.vt.th
    refine (value_any q 1 hst hl x2 hfr hat).mono ?_
    rintro e w6 ⟨rfl, hg⟩
    obtain ⟨FT3, G3, hb6⟩ := HB4.out.callT hg
    have HB6 := Lib.hid hb6
    obtain ⟨e0, e1, e2, e3, e4, e5, e6, e7, e8, e9, ez, ef⟩ := hb6.get (List.Mem.head _)
    obtain ⟨r0, r1, r2, r3, r4, r5, r6, r7, r8, r9, rz, rf⟩ := hb6.get (List.mem_cons_of_mem _ (List.Mem.head _))
    clear hg hb6 q HB4
    go_wp2_with fail
    refine bodyPost_ret (v := .tuple #[.agg (evC { what := 1, cell := n, field := f, old := x2, new := x2 } (.slice none 0 0)).toArray, .bool true]) (by simp [results, Tryz.results86, go_sem, evC, r0, r1, r2, r3, r4, r5, r6, r7, r8, r9]) rfl ?_
    exact ⟨_, rfl, HB6.out.fin (List.mem_cons_of_mem _ (List.Mem.head _)) (same10 (Same.refl _ _) (.inl (by simp)) _ _ _ _ _ _ _ _ _ _)⟩
  | false =>
    simp only [Bool.false_eq_true, if_false] at HC ⊢
    unfold InsP FailP
    clear HL
    go_enter Tryz.func86, Tryz.ntmps86
    go_wp2_with fail
    obtain ⟨w0, hw0⟩ : ∃ w0, w0 = w.alloc (.cells #[.int .i64 0, .int .u8 0, .int .i64 0, .int .i64 0, .int .u64 0, .int .u64 0, .slice none 0 0, .int .i64 0, .bool false, .int .i64 0] 44) := ⟨_, rfl⟩
    rw [← hw0]
    have HB0 := Lib.hid (HB.out.box zeros hw0)
    clear hw0
    obtain ⟨fv, sv, rv, q⟩ := HB0.out.sit.vt.th
    refine (HT.out _ _ _ _ _ q).mono ?_
    rintro e w1 ⟨g, C, -, rfl, kc, -, gz, -, hs1⟩
    have kc1 : w1.cell? ⟨g, th.st.length - 1, none⟩ = some (.int .u64 y) := (hs1.cell gz (by simp)).trans (by simpa using kc)
    have HB1 := Lib.hid (HB0.out.same hs1)
    clear hs1 kc HT q HB0
    go_wp2_with fail
    refine (HC.out _ _ _ HB1.out.sit).mono ?_
    rintro e w2 ⟨rfl, hlf⟩
    obtain ⟨FT1, G1, hb2⟩ := HB1.out.call hlf
    exact ⟨rfl, rfl, hb2.lf⟩
end Vm
end Go.Proofs.YtkepcdbogeineaaGreatDoor
