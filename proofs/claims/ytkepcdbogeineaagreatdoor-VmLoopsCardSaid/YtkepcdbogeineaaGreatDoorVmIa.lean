/- Instructions: pop, jump, global, setGlobal, closure. (Printed by mkVmIa.py.) -/
import Derived.Test.YtkepcdbogeineaaGreatDoorVmTg
import Derived.Deep.RegionWith
import Derived.BigRegion
namespace Go.Proofs.YtkepcdbogeineaaGreatDoor
open Go.RowKit Hp Ck
namespace Vm
variable {w w' w1 W W' : World} {k : Kx} {th th' : Th} {FT G G1 : List Nat} {t t' : Toy}

def popM (th : Th) (t : Toy) : Out := .quiet ({ th with st := th.st.take (th.st.length - 1) } : Th).next t
set_option maxHeartbeats 4000000 in
set_option maxRecDepth 100000 in
theorem pop_any (h : Sit k w th t FT G) (hst : 1 ≤ th.st.length) (hf : th.fr ≠ []) (hat : th.top.at_ ≤ 1000000) (hv : Value) (a : Int) :
    Calls Tryz.prog 49 #[.pointer (some ⟨k.T, 0, none⟩), hv, .int .i64 a] w (InsP k w FT G (popM th t)) := by
  unfold popM InsP QuietP
  have HB := Lib.hid (VB.open_ h)
  clear h
  go_enter Tryz.func49, Tryz.ntmps49
  go_wp2_with fail
  obtain ⟨w0, hw0⟩ : ∃ w0, w0 = w.alloc (.cells #[.int .i64 0, .int .u8 0, .int .i64 0, .int .i64 0, .int .u64 0, .int .u64 0, .slice none 0 0, .int .i64 0, .bool false, .int .i64 0] 44) := ⟨_, rfl⟩
  rw [← hw0]
  have HB0 := Lib.hid (HB.out.box zeros hw0)
  clear hw0
  obtain ⟨fv, sv, rv, q⟩ := HB0.out.sit.vt.th
  refine (drop_any q 1 hst).mono ?_
  rintro e w1 ⟨sv', rfl, hth1, hs1⟩
  obtain ⟨FT_1, G_1, hb_⟩ := HB0.out.callT (Gs.of hth1 hs1)
  have HB1 := Lib.hid hb_
  clear hth1 hs1 hb_ q
  go_wp2_with fail
  obtain ⟨fv, sv, rv, q⟩ := HB1.out.sit.vt.th
  refine (next_any q hf hat).mono ?_
  rintro e w2 ⟨rfl, hg⟩
  obtain ⟨FT_w2, G_w2, hb_⟩ := HB1.out.callT hg
  have HB2 := Lib.hid hb_
  clear hg hb_ q
  obtain ⟨r0, r1, r2, r3, r4, r5, r6, r7, r8, r9, rz, rf⟩ := HB2.out.get (List.Mem.head _)
  go_wp2_with fail
  refine bodyPost_ret (v := .tuple #[.agg (evC {} (.slice none 0 0)).toArray, .bool false]) (by simp [results, Tryz.results49, go_sem, evC, r0, r1, r2, r3, r4, r5, r6, r7, r8, r9]) rfl ?_
  exact ⟨rfl, HB2.out.fin (List.Mem.head _) (same10 (Same.refl _ _) (.inl (by simp)) _ _ _ _ _ _ _ _ _ _)⟩

/-- A frame's place has turned. -/
theorem ThAt.gotoAt {T M g D : Nat} {cv pv gv sv rv : Value} {kvs : List Value} {FC : List Nat} (h : ThAt W T M cv pv gv (.slice (some ⟨g, 0, none⟩) th.fr.length D) sv rv kvs th FC FT) (hn : th.fr ≠ []) (a : Nat) :
    ThAt (W.setCell ⟨g, (th.fr.length - 1) * 4 + 1, none⟩ (.int .i64 a)) T M cv pv gv (.slice (some ⟨g, 0, none⟩) th.fr.length D) sv rv kvs (th.goto a) FC FT := by
  have hgT : T ≠ g := fun e => h.fne g rfl (by rw [e]; simp)
  have hs : Same [g] W (W.setCell ⟨g, (th.fr.length - 1) * 4 + 1, none⟩ (.int .i64 a)) := (Same.refl _ _).setCell (by simp) _
  have hs2 : Same FT W (W.setCell ⟨g, (th.fr.length - 1) * 4 + 1, none⟩ (.int .i64 a)) := (Same.refl _ _).setCell (.inl (h.inF g rfl)) _
  have hl : 0 < th.fr.length := List.length_pos_iff.2 hn
  have e : (th.goto a).fr.length = th.fr.length := by simp [Th.goto]
  refine h.upd hs2 (h.b.setOther (p := ⟨g, (th.fr.length - 1) * 4 + 1, none⟩) hgT _) rfl ?_ (h.st.frame hs (fun b hb hm => h.st.ne h.fr (by decide) hb (by rw [List.mem_singleton.1 hm]; rfl))) (h.rq.frame hs (fun b hb hm => ?_)) h.inT (fun b hb => h.inF b (by rw [← hb])) h.inS h.inR h.srd (fun b hb => .inl hb) (fun b hb => Nat.lt_of_lt_of_le (h.tl b hb) hs.size)
  · rw [e, ← goto_flat th hn a]
    exact own_set h.fr ((th.fr.length - 1) * 4 + 1) (by omega) (.int .i64 a)
  · obtain ⟨n, xs, ho⟩ := h.rq.type
    exact ho.ne h.fr (by decide) hb (by rw [List.mem_singleton.1 hm]; rfl)

def jumpM (a : Nat) (th : Th) (t : Toy) : Out := .quiet (th.goto a) t
set_option maxHeartbeats 4000000 in
set_option maxRecDepth 100000 in
theorem jump_any (h : Sit k w th t FT G) (hf : th.fr ≠ []) (hv : Value) (a : Nat) :
    Calls Tryz.prog 50 #[.pointer (some ⟨k.T, 0, none⟩), hv, .int .i64 a] w (InsP k w FT G (jumpM a th t)) := by
  unfold jumpM InsP QuietP
  have HB := Lib.hid (VB.open_ h)
  clear h
  go_enter Tryz.func50, Tryz.ntmps50
  go_wp2_with fail
  obtain ⟨w0, hw0⟩ : ∃ w0, w0 = w.alloc (.cells #[.int .i64 0, .int .u8 0, .int .i64 0, .int .i64 0, .int .u64 0, .int .u64 0, .slice none 0 0, .int .i64 0, .bool false, .int .i64 0] 44) := ⟨_, rfl⟩
  rw [← hw0]
  have HB0 := Lib.hid (HB.out.box zeros hw0)
  clear hw0
  obtain ⟨fv, sv, rv, q⟩ := HB0.out.sit.vt.th
  obtain ⟨kf, kz⟩ : (∀ g D, fv = .slice (some ⟨g, 0, none⟩) th.fr.length D → w0.cell? ⟨g, (th.fr.length - 1) * 4 + 1, none⟩ = some (.int .i64 th.top.at_) ∧ w0.frozen? ⟨g, (th.fr.length - 1) * 4 + 1, none⟩ = false ∧ g < w0.heap.size) ∧ True := ⟨fun g D e => by
    have hfr := q.fr
    rw [e] at hfr
    obtain ⟨k1, k2⟩ := frame_cell (th := th) hfr hf 1 (by decide)
    exact ⟨k1, k2, hfr.lt rfl⟩, trivial⟩
  have HQ := Lib.hid q
  refine (frame_any q hf).mono ?_
  rintro e w1 ⟨g, D, rfl, rfl, hs1⟩
  obtain ⟨k1, k2, k3⟩ := kf g D rfl
  have k1' := (hs1.cell k3 (by simp)).trans k1
  have k2' := (hs1.frozen k3 (by simp) (o := (th.fr.length - 1) * 4 + 1)).trans k2
  have HB1 := Lib.hid (HB0.out.same hs1)
  have HQ1 := Lib.hid (HQ.out.frame0 hs1)
  have hgR : w.heap.size ≠ g := fun e => (HB1.out.bx _ (List.Mem.head _)).2.2.1 (by rw [e]; exact HQ.out.inF g rfl)
  obtain ⟨r0, r1, r2, r3, r4, r5, r6, r7, r8, r9, rz, rf⟩ := HB1.out.get (List.Mem.head _)
  clear kf kz k1 k2 k3 hs1 q HQ
  go_wp2_with fail
  refine bodyPost_ret (v := .tuple #[.agg (evC {} (.slice none 0 0)).toArray, .bool false]) (by simp [results, Tryz.results50, go_sem, evC, r0, r1, r2, r3, r4, r5, r6, r7, r8, r9]) rfl ?_
  have hgo := HQ1.out.gotoAt hf a
  obtain ⟨FT2, G2, h3⟩ := HB1.out.callT (Gs.of hgo ((Same.refl FT w1).setCell (.inl (HQ1.out.inF g rfl)) _))
  exact ⟨rfl, h3.fin (List.Mem.head _) (same10 (Same.refl _ _) (.inl (by simp)) _ _ _ _ _ _ _ _ _ _)⟩

def globalM (a : Nat) (th : Th) (t : Toy) : Out :=
  if th.st.length < 256 then
    if t.globals.getD a 0 = mkW 4 0 then .did { what := 7, other := a, err := 185 } [] { th with ended := true, word := 0, err := 185 } (t.ask [])
    else .did { what := 7, other := a, old := t.globals.getD a 0, new := t.globals.getD a 0 } [] (th.value 0 (t.globals.getD a 0)) (t.ask [])
  else .fail 180 th t
set_option maxHeartbeats 4000000 in
set_option maxRecDepth 100000 in
theorem global_any (h : Sit k w th t FT G) (hfi : t.Fine) (a : Nat) (ha : a < t.globals.length) (hl : th.st.length ≤ 1000000) (hf : th.fr ≠ []) (hat : th.top.at_ ≤ 1000000) :
    Calls Tryz.prog 46 #[.pointer (some ⟨k.T, 0, none⟩), toyV k.H, .int .i64 a] w (InsP k w FT G (globalM a th t)) := by
  unfold globalM
  have hm : ∀ W, (method 313 39 (.pointer (some ⟨k.H, 0, none⟩)) "Global").run Tryz.prog W = .ok (136, .pointer (some ⟨k.H, 0, none⟩)) W := fun _ => by kernel_rfl
  have HG := Lib.hid (fun W FT' G' (h : Sit k W th t FT' G') (cc gc sc hc : Value) (h2 : ToyAt W k.H cc gc sc hc t G') => tglobal_any h2 hfi a ha)
  have HB := Lib.hid (VB.open_ h)
  clear h hfi ha
  obtain ⟨x, hx⟩ : ∃ x, x = t.globals.getD a 0 := ⟨_, rfl⟩
  rw [← hx] at HG ⊢
  clear hx
  unfold toyV
  by_cases hl2 : th.st.length < 256
  · rw [if_pos hl2]
    by_cases hn : x = mkW 4 0
    · rw [if_pos hn]
      subst hn
      unfold InsP DidP
      go_enter Tryz.func46, Tryz.ntmps46
      go_wp2_with fail
      obtain ⟨w0, hw0⟩ : ∃ w0, w0 = w.alloc (.cells #[.int .i64 0, .int .u8 0, .int .i64 0, .int .i64 0, .int .u64 0, .int .u64 0, .slice none 0 0, .int .i64 0, .bool false, .int .i64 0] 44) := ⟨_, rfl⟩
      rw [← hw0]
      have HB0 := Lib.hid (HB.out.box zeros hw0)
      clear hw0
      obtain ⟨fv, sv, rv, q⟩ := HB0.out.sit.vt.th
      refine (room_yes q hl2).mono ?_
      rintro e w1 ⟨rfl, rfl⟩
      clear q
      go_wp2_with fail
      obtain ⟨cc, gc, sc, hc, h2⟩ := HB0.out.sit.vt.toy
      refine (HG.out _ _ _ HB0.out.sit _ _ _ _ h2).mono ?_
      rintro e w2 ⟨rfl, h3, hs3⟩
      obtain ⟨FT1, G1, hb1⟩ := HB0.out.call (HB0.out.sit.toyOnly h3 hs3 (fun b hb => .inl hb))
      have HB1 := Lib.hid hb1
      clear h2 h3 hs3 hb1 HG
      go_wp2_with fail
      refine (plain_any 4 (by decide) HB1.out.sit.vars).mono ?_
      rintro e w3 ⟨rfl, rfl⟩
      go_wp2_with fail
      obtain ⟨fv, sv, rv, q⟩ := HB1.out.sit.vt.th
      refine (over_any q 185).mono ?_
      rintro e w4 ⟨rfl, hg⟩
      obtain ⟨FT_w4, G_w4, hb_⟩ := HB1.out.callT hg
      have HB2 := Lib.hid hb_
      clear hg hb_ q
      obtain ⟨r0, r1, r2, r3, r4, r5, r6, r7, r8, r9, rz, rf⟩ := HB2.out.get (List.Mem.head _)
      go_wp2_with fail
      refine bodyPost_ret (v := .tuple #[.agg (evC { what := 7, other := a, err := 185 } (.slice none 0 0)).toArray, .bool true]) (by simp [results, Tryz.results46, go_sem, evC, r0, r1, r2, r3, r4, r5, r6, r7, r8, r9]) rfl ?_
      exact ⟨_, rfl, HB2.out.fin (List.Mem.head _) (same10 (Same.refl _ _) (.inl (by simp)) _ _ _ _ _ _ _ _ _ _)⟩
    · rw [if_neg hn]
      unfold InsP DidP
      have hn2 : (x == mkW 4 0) = false := by simpa using hn
      go_enter Tryz.func46, Tryz.ntmps46
      go_wp2_with fail
      obtain ⟨w0, hw0⟩ : ∃ w0, w0 = w.alloc (.cells #[.int .i64 0, .int .u8 0, .int .i64 0, .int .i64 0, .int .u64 0, .int .u64 0, .slice none 0 0, .int .i64 0, .bool false, .int .i64 0] 44) := ⟨_, rfl⟩
      rw [← hw0]
      have HB0 := Lib.hid (HB.out.box zeros hw0)
      clear hw0
      obtain ⟨fv, sv, rv, q⟩ := HB0.out.sit.vt.th
      refine (room_yes q hl2).mono ?_
      rintro e w1 ⟨rfl, rfl⟩
      clear q
      go_wp2_with fail
      obtain ⟨cc, gc, sc, hc, h2⟩ := HB0.out.sit.vt.toy
      refine (HG.out _ _ _ HB0.out.sit _ _ _ _ h2).mono ?_
      rintro e w2 ⟨rfl, h3, hs3⟩
      obtain ⟨FT1, G1, hb1⟩ := HB0.out.call (HB0.out.sit.toyOnly h3 hs3 (fun b hb => .inl hb))
      have HB1 := Lib.hid hb1
      clear h2 h3 hs3 hb1 HG
      go_wp2_with fail
      refine (plain_any 4 (by decide) HB1.out.sit.vars).mono ?_
      rintro e w3 ⟨rfl, rfl⟩
      go_wp2_with fail
      obtain ⟨fv, sv, rv, q⟩ := HB1.out.sit.vt.th
      refine (value_any q 0 (Nat.zero_le _) hl x hf hat).mono ?_
      rintro e w4 ⟨rfl, hg⟩
      obtain ⟨FT_w4, G_w4, hb_⟩ := HB1.out.callT hg
      have HB2 := Lib.hid hb_
      clear hg hb_ q
      obtain ⟨r0, r1, r2, r3, r4, r5, r6, r7, r8, r9, rz, rf⟩ := HB2.out.get (List.Mem.head _)
      go_wp2_with fail
      refine bodyPost_ret (v := .tuple #[.agg (evC { what := 7, other := a, old := x, new := x } (.slice none 0 0)).toArray, .bool true]) (by simp [results, Tryz.results46, go_sem, evC, r0, r1, r2, r3, r4, r5, r6, r7, r8, r9]) rfl ?_
      exact ⟨_, rfl, HB2.out.fin (List.Mem.head _) (same10 (Same.refl _ _) (.inl (by simp)) _ _ _ _ _ _ _ _ _ _)⟩
  · rw [if_neg hl2]
    unfold InsP FailP
    go_enter Tryz.func46, Tryz.ntmps46
    go_wp2_with fail
    obtain ⟨w0, hw0⟩ : ∃ w0, w0 = w.alloc (.cells #[.int .i64 0, .int .u8 0, .int .i64 0, .int .i64 0, .int .u64 0, .int .u64 0, .slice none 0 0, .int .i64 0, .bool false, .int .i64 0] 44) := ⟨_, rfl⟩
    rw [← hw0]
    have HB0 := Lib.hid (HB.out.box zeros hw0)
    clear hw0
    obtain ⟨fv, sv, rv, q⟩ := HB0.out.sit.vt.th
    refine (room_no q (by omega)).mono ?_
    rintro e w1 ⟨rfl, rfl⟩
    exact ⟨rfl, rfl, HB0.out.lf⟩

def setGlobalM (a : Nat) (th : Th) (t : Toy) : Out :=
  .did { what := 8, other := a, old := t.globals.getD a 0, new := th.at 0 } (shadL (t.globals.getD a 0) (th.at 0)) (th.value 1 (mkW 4 0)) ((t.ask [th.at 0]).setG a (th.at 0))
set_option maxHeartbeats 4000000 in
set_option maxRecDepth 100000 in
theorem setGlobal_any (h : Sit k w th t FT G) (hfi : t.Fine) (a : Nat) (ha : a < t.globals.length) (hst : 1 ≤ th.st.length) (hx : 0 ≤ th.at 0 ∧ th.at 0 < 18446744073709551616) (ho : 0 ≤ t.globals.getD a 0 ∧ t.globals.getD a 0 < 18446744073709551616) (hl : th.st.length ≤ 1000000) (hf : th.fr ≠ []) (hat : th.top.at_ ≤ 1000000) :
    Calls Tryz.prog 47 #[.pointer (some ⟨k.T, 0, none⟩), toyV k.H, .int .i64 a] w (InsP k w FT G (setGlobalM a th t)) := by
  unfold setGlobalM
  have hm : ∀ W, (method 313 39 (.pointer (some ⟨k.H, 0, none⟩)) "SetGlobal").run Tryz.prog W = .ok (141, .pointer (some ⟨k.H, 0, none⟩)) W := fun _ => by kernel_rfl
  have HG := Lib.hid (fun W G' (cc gc sc hc : Value) (h2 : ToyAt W k.H cc gc sc hc t G') => tsetGlobal_any h2 hfi a ha (th.at 0) hx ho)
  have HT := Lib.hid (fun W fv sv rv FT' (h1 : ThAt W k.T k.M k.cv k.pv k.gv fv sv rv k.kvs th k.FC FT') => top_any h1 0 (by omega))
  have HB := Lib.hid (VB.open_ h)
  clear h hfi ha hx ho
  obtain ⟨y, hy⟩ : ∃ x, x = t.globals.getD a 0 := ⟨_, rfl⟩
  rw [← hy] at HG ⊢
  obtain ⟨x, hx⟩ : ∃ x, x = th.at 0 := ⟨_, rfl⟩
  rw [← hx] at HG HT ⊢
  clear hx hy
  unfold toyV
  unfold InsP DidP
  go_enter Tryz.func47, Tryz.ntmps47
  go_wp2_with fail
  obtain ⟨w0, hw0⟩ : ∃ w0, w0 = w.alloc (.cells #[.int .i64 0, .int .u8 0, .int .i64 0, .int .i64 0, .int .u64 0, .int .u64 0, .slice none 0 0, .int .i64 0, .bool false, .int .i64 0] 44) := ⟨_, rfl⟩
  rw [← hw0]
  have HB0 := Lib.hid (HB.out.box zeros hw0)
  clear hw0
  obtain ⟨fv, sv, rv, q⟩ := HB0.out.sit.vt.th
  refine (HT.out _ _ _ _ _ q).mono ?_
  rintro e w1 ⟨g, C, -, rfl, kc, -, gz, -, hs1⟩
  have kc1 : w1.cell? ⟨g, th.st.length - 1, none⟩ = some (.int .u64 x) := (hs1.cell gz (by simp)).trans (by simpa using kc)
  have HB1 := Lib.hid (HB0.out.same hs1)
  clear hs1 kc HT q HB0
  go_wp2_with fail
  obtain ⟨cc, gc, sc, hc, h2⟩ := HB1.out.sit.vt.toy
  refine (HG.out _ _ _ _ _ _ h2).mono ?_
  rintro e w2 ⟨v, hc', G9, rfl, ⟨A9, C9, rfl⟩, ho9, hn9, h3, hs3, hG9⟩
  have hlf : Lf k w1 FT G th ((t.ask [x]).setG a x) (shadL y x) (.slice A9 (shadL y x).length C9) w2 := HB1.out.sit.toyL h3 hs3 hG9 ⟨A9, C9, rfl⟩ ho9 hn9
  obtain ⟨FT1, G1, hb1⟩ := HB1.out.call hlf
  have HB2 := Lib.hid hb1
  clear h2 h3 hs3 hb1 HG hlf ho9 hn9 hG9 kc1
  go_wp2_with fail
  refine (plain_any 4 (by decide) HB2.out.sit.vars).mono ?_
  rintro e w3 ⟨rfl, rfl⟩
  go_wp2_with fail
  obtain ⟨fv, sv, rv, q⟩ := HB2.out.sit.vt.th
  refine (value_any q 1 hst hl (mkW 4 0) hf hat).mono ?_
  rintro e w4 ⟨rfl, hg⟩
  obtain ⟨FT_w4, G_w4, hb_⟩ := HB2.out.callT hg
  have HB3 := Lib.hid hb_
  clear hg hb_ q
  obtain ⟨r0, r1, r2, r3, r4, r5, r6, r7, r8, r9, rz, rf⟩ := HB3.out.get (List.Mem.head _)
  go_wp2_with fail
  refine bodyPost_ret (v := .tuple #[.agg (evC { what := 8, other := a, old := y, new := x } (.slice A9 (shadL y x).length C9)).toArray, .bool true]) (by simp [results, Tryz.results47, go_sem, evC, r0, r1, r2, r3, r4, r5, r6, r7, r8, r9]) rfl ?_
  exact ⟨_, rfl, HB3.out.fin (List.Mem.head _) (same10 (Same.refl _ _) (.inl (by simp)) _ _ _ _ _ _ _ _ _ _)⟩
end Vm
end Go.Proofs.YtkepcdbogeineaaGreatDoor
