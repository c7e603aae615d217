/- Layer 8, package code: fitted. -/
import Derived.Test.YticaipedpcmhfaaGreatDoorCkQ6
import Derived.Laws.AppendOwnNone
import Derived.Deep.LoopGhost
import Derived.Deep.DeepCutAuto
namespace Go.Proofs.YticaipedpcmhfaaGreatDoor
open Go.RowKit Hp
namespace Ck
variable {w w' : World}

/-- A source: nil, or an own row. -/
theorem step_app {P : Program} {ops : Array Oper} {o : Oper} {a : Act} {w : World} {K : Act → World → Prop} {Q : Exit → Act → World → Prop} {E : Prop} (hgd : o.guard = none) (s x : Operand) (t : TypeId)
    (ho : o.op = .call { callee := .builtin .append, args := #[s, x], argTypes := #[t, t] })
    (e : TypeId) (i : TypeInfo) (z : Value) (size bytes : Nat) (ht : P.underlying t = some (.slice e)) (hi : P.info? e = some i) (hz : i.zero = some z) (hsize : i.size = size) (hby : i.bytes = bytes) (hzs : z.cells.size = size) (hsz : 0 < size)
    (v : Value) (n : Nat) (xs : List Value) (hs : a.eval s = v) (hown : Ow w e size v n xs)
    (A : Option Addr) (m c : Nat) (news : List Value) (hx : a.eval x = .slice A m c) (hsrc : Ow w e size (.slice A m c) m news) (h1 : ∀ u ∈ news, u.oneCell' = true)
    (h63 : n + m ≤ maxLen) (hbytes : (n + m) * bytes ≤ 140737488355328)
    (h : ∀ A' C' w', Ow w' e size (.slice A' (n + m) C') (n + m) (xs ++ news) → Same v.ownBlock.toList w w' → (∀ b, (Value.slice A' (n + m) C').ownBlock = some b → v.ownBlock = some b ∨ b = w.heap.size) → K (a.put o.dst (.slice A' (n + m) C')) w') :
    if Region.wanted o (yielded ops a.tmps) = true then Oper.wp P o a w K Q else E := by
  have hw : Region.wanted o (yielded ops a.tmps) = true := by simp [Region.wanted, hgd]
  rw [if_pos hw]
  unfold Oper.wp execOp
  cases A with
  | none =>
    obtain ⟨rfl, rfl⟩ : m = 0 ∧ c = 0 := by
      rcases hsrc.2 with ⟨h0, h2⟩ | ⟨g, cap, cur, h0, _⟩
      · injection h0 with _ h3 h4; exact ⟨h3, h4⟩
      · injection h0 with h0; cases h0
    have hnews : news = [] := List.eq_nil_of_length_eq_zero (by simpa using hsrc.1)
    subst hnews
    have hrun := run_append_owned_none (P := P) (w := w) 0 t o.type e i size ht hi v n xs hown
    simp [ho, resolve, invoke, builtin, hs, hx, hrun, Result.andThen]
    obtain ⟨A', C', hv⟩ := hown.lit
    subst hv
    exact h A' C' w (by simpa using hown) (Same.refl _ _) (fun b hb => .inl hb)
  | some ad =>
    have hnews : ∀ j u, news[j]? = some u → w.cell? (ad.add j) = some u := by
      rcases hsrc.2 with ⟨h0, _⟩ | ⟨g, cap, cur, h0, _⟩
      · injection h0 with h0; cases h0
      · injection h0 with h0
        injection h0 with h0
        subst h0
        exact hsrc.cells rfl
    obtain ⟨v', w', hrun, h2, h3, _, h5⟩ := run_append_own_at (P := P) w 0 t o.type e i z size bytes ht hi hz hsize hby hzs hsz v n xs hown ad m c news hsrc.1 hnews h1 h63 hbytes (Nat.zero_le _)
    obtain ⟨A', C', hv⟩ := Ow.lit h2
    subst hv
    simp only [ho, resolve, invoke, builtin, Sem.run_bind, Sem.run_pure, Result.andThen_ok, List.map_toArray, List.map_cons, List.map_nil, hs, hx, hrun]
    refine h A' C' w' h2 (Same.of_grown h3) (fun b hb => ?_)
    rcases h5 with h5 | h5
    · exact .inl (h5 ▸ hb)
    · right
      rw [h5] at hb
      injection hb with hb
      exact hb.symm

theorem same_cells {W W' : World} (hs : Same (Value.slice none 0 0).ownBlock.toList W W') : (∀ b o, b < W.heap.size → W'.cell? ⟨b, o, none⟩ = W.cell? ⟨b, o, none⟩) ∧ (∀ b o, b < W.heap.size → W'.frozen? ⟨b, o, none⟩ = W.frozen? ⟨b, o, none⟩) :=
  ⟨fun b o h => hs.cell h (by simp [Value.ownBlock]), fun b o h => hs.frozen h (by simp [Value.ownBlock])⟩

theorem size_gt {F : List Nat} {W W' : World} (hs : Same F W W') : ∀ n, n + 1 = W.heap.size → n < W'.heap.size := fun n h => by have := hs.size; omega

/-- What fitted's first statement leaves. -/
def Fit1 (B : Nat) (W0 : World) (c : Cd.Co) (s3 : Value) (wx : World) : Prop := ∃ (b3 : Nat) (cv gv : Value), s3 = .pointer (some ⟨b3, 0, none⟩) ∧ Blk wx b3 26 [cv, .slice none 0 0, gv] ∧ Ow wx 74 1 cv c.consts.length (c.consts.map (Value.int .u64)) ∧ Ow wx 9 1 gv c.globals.length (c.globals.map Value.string) ∧ (∀ b, cv.ownBlock = some b ∨ gv.ownBlock = some b → B ≤ b) ∧ W0.heap.size ≤ b3 ∧ Same [] W0 wx

section
variable {B : Nat} {W0 X : World} {c : Cd.Co} {cv gv n0 n1 n2 : Value} {b3 : Nat}
theorem fit_last1 (hA : Ow X 74 1 cv c.consts.length (c.consts.map (Value.int .u64))) (hB : Ow X 9 1 gv c.globals.length (c.globals.map Value.string)) (hS : Same [] W0 X) (hb : ∀ b, cv.ownBlock = some b ∨ gv.ownBlock = some b → B ≤ b) :
    Fit1 B W0 c (.pointer (some ⟨X.heap.size, 0, none⟩)) (X.alloc (.cells #[cv, .slice none 0 0, gv] 26)) :=
  ⟨X.heap.size, cv, gv, rfl, Blk.new X _ [cv, .slice none 0 0, gv], World.ownsRow.alloc hA _, World.ownsRow.alloc hB _, hb, hS.size, hS.alloc _⟩
theorem fit_last2 (hbl : Blk X b3 26 [n0, n1, n2]) (hA : Ow X 74 1 cv c.consts.length (c.consts.map (Value.int .u64))) (hB : Ow X 9 1 gv c.globals.length (c.globals.map Value.string)) (hS : Same [] W0 X) (hb : ∀ b, cv.ownBlock = some b ∨ gv.ownBlock = some b → B ≤ b) (hb3 : W0.heap.size ≤ b3) :
    Fit1 B W0 c (.pointer (some ⟨b3, 0, none⟩)) (((X.setCell ⟨b3, 0, none⟩ cv).setCell ⟨b3, 1, none⟩ (.slice none 0 0)).setCell ⟨b3, 2, none⟩ gv) := by
  have hs : Same [b3] X (((X.setCell ⟨b3, 0, none⟩ cv).setCell ⟨b3, 1, none⟩ (.slice none 0 0)).setCell ⟨b3, 2, none⟩ gv) := (((Same.refl _ _).setCell (by simp) _).setCell (by simp) _).setCell (by simp) _
  refine ⟨b3, cv, gv, rfl, ((hbl.set 0 cv).set 1 _).set 2 _, hA.frame hs (fun b h1 h2 => ?_), hB.frame hs (fun b h1 h2 => ?_), hb, hb3, ((hS.setCell (.inr hb3) _).setCell (.inr hb3) _).setCell (.inr hb3) _⟩
  · simp at h2; subst h2; exact hA.ne_blk hbl (by decide) h1
  · simp at h2; subst h2; exact hB.ne_blk hbl (by decide) h1
end

section
variable {wr wk w5 : World} {c : Cd.Co} {cv pv gv v2 kv : Value} {ks : List Value} {G : List Nat} {k b3 N : Nat} {p : Cd.Pr}
/-- A round of fitted: one procedure more. -/
theorem fit_round (hk : k < c.procs.length) (hp : c.procs.getD k ⟨0, []⟩ = p)
    (ho : OCo wr cv pv gv ks { c with procs := c.procs.take k } G) (hbl : Blk wr b3 26 [cv, pv, gv]) (hG : ∀ b ∈ G, N ≤ b ∧ b < wr.heap.size) (hN : N ≤ wr.heap.size)
    (hs1 : Same [] wr wk) (hkv : Ow wk 82 2 kv p.code.length (flatI p.code)) (hkb : ∀ b, kv.ownBlock = some b → wr.heap.size ≤ b)
    (hs2 : Same pv.ownBlock.toList wk w5) (hr : Ow w5 68 2 v2 (k + 1) (flatP (c.procs.take k) ks ++ [.int .i64 p.params, kv])) (hvb : ∀ b, v2.ownBlock = some b → pv.ownBlock = some b ∨ wk.heap.size ≤ b) :
    ∃ ks' G', Blk (w5.setCell ⟨b3, 1, none⟩ v2) b3 26 [cv, v2, gv] ∧ OCo (w5.setCell ⟨b3, 1, none⟩ v2) cv v2 gv ks' { c with procs := c.procs.take (k + 1) } G' ∧ (∀ b ∈ G', N ≤ b ∧ b < (w5.setCell ⟨b3, 1, none⟩ v2).heap.size) := by
  have htl : (c.procs.take k).length = k := by rw [List.length_take]; omega
  have ho2 := ho.frame hs1 (by simp)
  have hk5 : Ow w5 82 2 kv p.code.length (flatI p.code) := hkv.frame hs2 (fun b hb hm => hkv.ne ho2.pr (by decide) hb (by simpa using hm))
  have h := ho2.addProc p kv (v2 := v2) (w' := w5) ⟨hs2, hvb⟩ (by dsimp only; rw [htl]; exact hr) hk5 (fun b hb hm => by have h1 := (hG b hm).2; have h2 := hkb b hb; omega)
  have hbl5 := (hbl.frame hs1 (by simp)).frame hs2 (fun hm => (ho.box_ne hbl).2.2.1 (by simpa using hm))
  have e : c.procs.take k ++ [p] = c.procs.take (k + 1) := by
    rw [← hp, List.take_succ_eq_append_getElem hk, List.getD, List.getElem?_eq_getElem hk]; rfl
  dsimp only at h
  rw [e] at h
  have hz1 := hs1.size
  have hz2 := hs2.size
  refine ⟨_, _, hbl5.set 1 v2, h.setBox (i := 1) hbl5 v2, fun b hb => ?_⟩
  have hsz : (w5.setCell ⟨b3, 1, none⟩ v2).heap.size = w5.heap.size := by simp
  rw [hsz]
  rcases List.mem_append.1 hb with hb | hb
  · have hb' : kv.ownBlock = some b := by simpa using hb
    exact ⟨Nat.le_trans hN (hkb b hb'), hk5.lt hb'⟩
  · rcases List.mem_append.1 hb with hb | hb
    · have hb' : v2.ownBlock = some b := by simpa using hb
      refine ⟨?_, hr.lt hb'⟩
      rcases hvb b hb' with h1 | h1
      · exact (hG b (ho.pf b h1)).1
      · omega
    · have := hG b hb; omega
end

/-- What fitted answers: the same code, in lists of its own, all new. -/
def FitP (c : Cd.Co) (w : World) (e : Ending) (w' : World) : Prop := ∃ cv pv gv kvs F, e = .returned (.agg #[cv, pv, gv]) ∧ OCo w' cv pv gv kvs c F ∧ (∀ b ∈ F, w.heap.size ≤ b) ∧ Same [] w w'

set_option maxHeartbeats 8000000 in
set_option maxRecDepth 100000 in
theorem fitted_any (cv pv gv : Value) (kvs : List Value) (c : Cd.Co) (F : List Nat) (ho : OCo w cv pv gv kvs c F) (hsm : Small c 100000000) : Calls Tryz.prog 55 #[.agg #[cv, pv, gv]] w (FitP c w) := by
  obtain ⟨A1, C1, hcv⟩ := ho.cr.lit
  obtain ⟨A2, C2, hpv⟩ := ho.pr.lit
  obtain ⟨A3, C3, hgv⟩ := ho.gr.lit
  subst hcv hpv hgv
  have HO := Lib.hid ho
  have HSM := Lib.hid hsm
  have hcl : c.consts.length ≤ 100000000 := hsm.sa
  have hgl : c.globals.length ≤ 100000000 := hsm.sb
  have hpl : c.procs.length ≤ 100000000 := hsm.sc
  obtain ⟨iw, hw1, hw2, hw3, hw4⟩ := info_parts infoW
  have HIW := Lib.hid (And.intro hw1 (And.intro hw2 (And.intro hw3 hw4)))
  obtain ⟨is, hs1, hs2, hs3, hs4⟩ := info_parts infoS
  have HIS := Lib.hid (And.intro hs1 (And.intro hs2 (And.intro hs3 hs4)))
  obtain ⟨ip, hp1, hp2, hp3, hp4⟩ := info_parts infoP
  have HIP := Lib.hid (And.intro hp1 (And.intro hp2 (And.intro hp3 hp4)))
  obtain ⟨ii, hi1, hi2, hi3, hi4⟩ := info_parts infoI
  have HII := Lib.hid (And.intro hi1 (And.intro hi2 (And.intro hi3 hi4)))
  clear ho hsm hw1 hw2 hw3 hw4 hs1 hs2 hs3 hs4 hp1 hp2 hp3 hp4 hi1 hi2 hi3 hi4
  go_enter Tryz.func55, Tryz.ntmps55
  have HBOX : Hid (∀ W, Same [] ((w.alloc (.cells #[.slice A1 c.consts.length C1, .slice A2 c.procs.length C2, .slice A3 c.globals.length C3] 26)).alloc (.cells #[.slice none 0 0, .slice none 0 0, .slice none 0 0] 26)) W → Blk W w.heap.size 26 [.slice A1 c.consts.length C1, .slice A2 c.procs.length C2, .slice A3 c.globals.length C3]) := Lib.hid (fun W hs => ((Blk.new w 26 [.slice A1 c.consts.length C1, .slice A2 c.procs.length C2, .slice A3 c.globals.length C3]).alloc _).frame hs (by simp))
  have HRES : Hid (∀ W, Same [] ((w.alloc (.cells #[.slice A1 c.consts.length C1, .slice A2 c.procs.length C2, .slice A3 c.globals.length C3] 26)).alloc (.cells #[.slice none 0 0, .slice none 0 0, .slice none 0 0] 26)) W → Blk W (w.heap.size + 1) 26 [.slice none 0 0, .slice none 0 0, .slice none 0 0]) := Lib.hid (fun W hs => by
    have hb := Blk.new (w.alloc (.cells #[.slice A1 c.consts.length C1, .slice A2 c.procs.length C2, .slice A3 c.globals.length C3] 26)) 26 [.slice none 0 0, .slice none 0 0, .slice none 0 0]
    have e : (w.alloc (.cells #[.slice A1 c.consts.length C1, .slice A2 c.procs.length C2, .slice A3 c.globals.length C3] 26)).heap.size = w.heap.size + 1 := by simp
    rw [e] at hb
    exact hb.frame hs (by simp))
  have HCR : Hid (∀ W, Same [] ((w.alloc (.cells #[.slice A1 c.consts.length C1, .slice A2 c.procs.length C2, .slice A3 c.globals.length C3] 26)).alloc (.cells #[.slice none 0 0, .slice none 0 0, .slice none 0 0] 26)) W → Ow W 74 1 (.slice A1 c.consts.length C1) c.consts.length (c.consts.map (Value.int .u64))) := Lib.hid (fun W hs => HO.out.cr.frame ((((Same.refl [] w).alloc _).alloc _).trans hs) (by simp))
  have HGR : Hid (∀ W, Same [] ((w.alloc (.cells #[.slice A1 c.consts.length C1, .slice A2 c.procs.length C2, .slice A3 c.globals.length C3] 26)).alloc (.cells #[.slice none 0 0, .slice none 0 0, .slice none 0 0] 26)) W → Ow W 9 1 (.slice A3 c.globals.length C3) c.globals.length (c.globals.map Value.string)) := Lib.hid (fun W hs => HO.out.gr.frame ((((Same.refl [] w).alloc _).alloc _).trans hs) (by simp))
  have H1 : Hid (∀ u ∈ c.consts.map (Value.int .u64), u.oneCell' = true) := Lib.hid (fun u hu => by obtain ⟨x, _, rfl⟩ := List.mem_map.1 hu; rfl)
  have H3 : Hid (∀ u ∈ c.globals.map Value.string, u.oneCell' = true) := Lib.hid (fun u hu => by obtain ⟨x, _, rfl⟩ := List.mem_map.1 hu; rfl)
  go_upto_region 1 with fail
  go_cut [3] (fun s3 wx => Fit1 (w.heap.size + 2) ((w.alloc (.cells #[.slice A1 c.consts.length C1, .slice A2 c.procs.length C2, .slice A3 c.globals.length C3] 26)).alloc (.cells #[.slice none 0 0, .slice none 0 0, .slice none 0 0] 26)) c s3 wx)
  case first =>
    go_region_law (first
      | ((refine step_app rfl (.const (.slice none 0 0)) (.tmp 7) 22 rfl 74 iw _ 1 8 Tryz.underlying22 HIW.out.1 HIW.out.2.1 HIW.out.2.2.1 HIW.out.2.2.2 rfl (by decide) (.slice none 0 0) 0 [] rfl (World.ownsRow_nil _ _ _ _) A1 c.consts.length C1 (c.consts.map (Value.int .u64)) rfl (HCR.out _ (by repeat (first | exact Same.refl _ _ | exact HSA.out | exact HSB.out | refine Same.drew ?_ | refine Same.drewN ?_ _ | refine Same.alloc ?_ _))) H1.out (by unfold maxLen; omega) (by omega) ?_); (intro Aa Ca wa howna hsa hba; obtain ⟨hca, hfa⟩ := same_cells hsa; have hza := size_gt hsa; have HWA : Hid (Same [] _ wa) := Lib.hid hsa; have HSA : Hid (Same [] ((w.alloc (.cells #[.slice A1 c.consts.length C1, .slice A2 c.procs.length C2, .slice A3 c.globals.length C3] 26)).alloc (.cells #[.slice none 0 0, .slice none 0 0, .slice none 0 0] 26)) wa) := Lib.hid (Same.trans (by repeat (first | exact Same.refl _ _ | exact HSA.out | exact HSB.out | refine Same.drew ?_ | refine Same.drewN ?_ _ | refine Same.alloc ?_ _)) hsa); have HOA := Lib.hid howna; have xa0 := (HBOX.out _ HSA.out).cell 0; have xa2 := (HBOX.out _ HSA.out).cell 2; have xaz := (HBOX.out _ HSA.out).lt; have HBA := Lib.hid hba; clear howna hsa hba))
      | ((refine step_app rfl (.const (.slice none 0 0)) (.tmp 10) 24 rfl 9 is _ 1 16 Tryz.underlying24 HIS.out.1 HIS.out.2.1 HIS.out.2.2.1 HIS.out.2.2.2 rfl (by decide) (.slice none 0 0) 0 [] rfl (World.ownsRow_nil _ _ _ _) A3 c.globals.length C3 (c.globals.map Value.string) rfl (HGR.out _ (by repeat (first | exact Same.refl _ _ | exact HSA.out | exact HSB.out | refine Same.drew ?_ | refine Same.drewN ?_ _ | refine Same.alloc ?_ _))) H3.out (by unfold maxLen; omega) (by omega) ?_); (intro Ab Cb wb hownb hsb hbb; obtain ⟨hcb, hfb⟩ := same_cells hsb; have hzb := size_gt hsb; have HWB : Hid (Same [] _ wb) := Lib.hid hsb; have HSB : Hid (Same [] ((w.alloc (.cells #[.slice A1 c.consts.length C1, .slice A2 c.procs.length C2, .slice A3 c.globals.length C3] 26)).alloc (.cells #[.slice none 0 0, .slice none 0 0, .slice none 0 0] 26)) wb) := Lib.hid (Same.trans (by repeat (first | exact Same.refl _ _ | exact HSA.out | exact HSB.out | refine Same.drew ?_ | refine Same.drewN ?_ _ | refine Same.alloc ?_ _)) hsb); have HOB := Lib.hid hownb; have xb0 := (HBOX.out _ HSB.out).cell 0; have xb2 := (HBOX.out _ HSB.out).cell 2; have xbz := (HBOX.out _ HSB.out).lt; have HBB := Lib.hid hbb; clear hownb hsb hbb)))
    all_goals
      go_wp2_with fail
      go_meet
    all_goals
      have HBND : Hid (∀ b, (Value.slice Aa (0 + c.consts.length) Ca).ownBlock = some b ∨ (Value.slice Ab (0 + c.globals.length) Cb).ownBlock = some b → w.heap.size + 2 ≤ b) := Lib.hid (fun b hb => by
        rcases hb with hb | hb
        · rcases HBA.out b hb with h | h
          · cases h
          · rw [h]; first | (simp; done) | (have h2 := HSB.out.size; simp at h2 ⊢; omega) | (have h2 := HSB.out.size; simp at h2 ⊢; exact h2) | (have h2 := HSB.out.size; simp at h2 ⊢; done)
        · rcases HBB.out b hb with h | h
          · cases h
          · rw [h]; first | (simp; done) | (have h2 := HSA.out.size; simp at h2 ⊢; omega) | (have h2 := HSA.out.size; simp at h2 ⊢; exact h2) | (have h2 := HSA.out.size; simp at h2 ⊢; done))
      have hA := HOA.out
      have hB := HOB.out
      have hb := HBND.out
      simp only [Nat.zero_add, List.nil_append] at hA hB hb
      first
        | refine fit_last1 ?_ ?_ ?_ hb
        | refine fit_last2 (n0 := .slice none 0 0) (n1 := .slice none 0 0) (n2 := .slice none 0 0) ?_ ?_ ?_ ?_ hb ?_
      all_goals first
        | with_reducible exact hA
        | with_reducible exact hB
        | with_reducible exact HSA.out
        | with_reducible exact HSB.out
        | ((with_reducible refine Ow.frame (F := []) hA ?_ (fun _ _ => List.not_mem_nil)); (with_reducible refine Same.trans ?_ HWB.out); (repeat (first | (with_reducible exact Same.refl _ _) | (with_reducible refine Same.drew ?_) | (with_reducible refine Same.alloc ?_ _))); done)
        | ((with_reducible refine Ow.frame (F := []) hB ?_ (fun _ _ => List.not_mem_nil)); (with_reducible refine Same.trans ?_ HWA.out); (repeat (first | (with_reducible exact Same.refl _ _) | (with_reducible refine Same.drew ?_) | (with_reducible refine Same.alloc ?_ _))); done)
        | ((with_reducible refine Blk.frame (F := []) ?_ HWB.out List.not_mem_nil); (repeat (first | (with_reducible refine Blk.drew ?_) | (with_reducible refine Blk.frame (F := []) ?_ HWA.out List.not_mem_nil))); (with_reducible refine blk_at ?_); simp; done)
        | ((with_reducible refine Blk.frame (F := []) ?_ HWA.out List.not_mem_nil); (repeat (first | (with_reducible refine Blk.drew ?_) | (with_reducible refine Blk.frame (F := []) ?_ HWB.out List.not_mem_nil))); (with_reducible refine blk_at ?_); simp; done)
        | with_reducible exact HSA.out.size
        | with_reducible exact HSB.out.size
        | (simp; done)
        | trace_state
  case rest =>
    obtain ⟨b3, cv, gv, rfl, hbl, hA, hB, hbnd, hb3, hsw⟩ := hcut
    have hz0 : w.heap.size + 2 ≤ b3 := by simp at hb3; omega
    obtain ⟨Av, Cv, hcv⟩ := hA.lit
    obtain ⟨Ag, Cg, hgv⟩ := hB.lit
    subst hcv hgv
    have x1 := (HBOX.out _ hsw).cell 1
    have xz := (HBOX.out _ hsw).lt
    have HSW := Lib.hid hsw
    have ho0 : OCo wc (.slice Av c.consts.length Cv) (.slice none 0 0) (.slice Ag c.globals.length Cg) [] { c with procs := [] } ((Value.slice Av c.consts.length Cv).ownBlock.toList ++ (Value.slice Ag c.globals.length Cg).ownBlock.toList) :=
      ⟨hA, hB, World.ownsRow_nil _ _ _ _, rfl, fun i hi => (nomatch hi), fun i j b hi => (nomatch hi), fun b hb => by simp [hb], fun b hb => by simp [hb], fun b hb => (by cases hb), fun i b hi => (nomatch hi)⟩
    have HO0 := Lib.hid ho0
    have HF0 : Hid (∀ b ∈ (Value.slice Av c.consts.length Cv).ownBlock.toList ++ (Value.slice Ag c.globals.length Cg).ownBlock.toList, w.heap.size + 2 ≤ b ∧ b < wc.heap.size) := Lib.hid (fun b hb => by
      rcases List.mem_append.1 hb with hb | hb
      · have hb' : (Value.slice Av c.consts.length Cv).ownBlock = some b := by simpa using hb
        exact ⟨hbnd b (.inl hb'), hA.lt hb'⟩
      · have hb' : (Value.slice Ag c.globals.length Cg).ownBlock = some b := by simpa using hb
        exact ⟨hbnd b (.inr hb'), hB.lt hb'⟩)
    have HBL := Lib.hid hbl
    clear hsw hbl hA hB hbnd hb3 ho0
    go_wp2_with fail
    go_loopg [5, 16] c.procs.length (fun gk _ i wr => ∃ (k : Nat) (pv : Value) (ks : List Value) (G : List Nat), k ≤ c.procs.length ∧ gk = c.procs.length - k ∧ i = .int .i64 k ∧ Blk wr b3 26 [.slice Av c.consts.length Cv, pv, .slice Ag c.globals.length Cg] ∧ OCo wr (.slice Av c.consts.length Cv) pv (.slice Ag c.globals.length Cg) ks { c with procs := c.procs.take k } G ∧ (∀ b ∈ G, w.heap.size + 2 ≤ b ∧ b < wr.heap.size) ∧ Same [] ((w.alloc (.cells #[.slice A1 c.consts.length C1, .slice A2 c.procs.length C2, .slice A3 c.globals.length C3] 26)).alloc (.cells #[.slice none 0 0, .slice none 0 0, .slice none 0 0] 26)) wr)
    case atStart => exact ⟨0, _, _, _, Nat.zero_le _, rfl, rfl, HBL.out, by simpa using HO0.out, HF0.out, HSW.out⟩
    case round =>
      obtain ⟨k, pv, ks, G, hk, rfl, rfl, hbl, hown, hG, hsw⟩ := hrel
      obtain ⟨Ap, Cp, hpv⟩ := hown.pr.lit
      have htl : (c.procs.take k).length = k := by rw [List.length_take]; omega
      dsimp only at hpv
      rw [htl] at hpv
      subst hpv
      have y0 := hbl.cell 0
      have y1 := hbl.cell 1
      have y2 := hbl.cell 2
      have yz := hbl.lt
      have yf := hbl.frozen
      have HBLk := Lib.hid hbl
      have HOk := Lib.hid hown
      have HGk := Lib.hid hG
      have HSWk := Lib.hid hsw
      have HTL := Lib.hid htl
      clear hbl hown hG hsw htl x1 xz
      by_cases hlt : k < c.procs.length
      · obtain ⟨g, cap, hform, _, hgz⟩ := World.ownsRow.form HO.out.pr (by omega)
        injection hform with hA2 _ hC2
        subst hA2 hC2
        obtain ⟨p, hp⟩ : ∃ p, c.procs.getD k ⟨0, []⟩ = p := ⟨_, rfl⟩
        obtain ⟨kq, hkqE⟩ : ∃ kq, kvs.getD k undef = kq := ⟨_, rfl⟩
        have hkq := HO.out.kr k hlt
        rw [hp, hkqE] at hkq
        obtain ⟨Ak, Ck, hkl⟩ := hkq.lit
        subst hkl
        have hsw0 : Same [] w wr := (((Same.refl [] w).alloc _).alloc _).trans HSWk.out
        have p0 : wr.cell? ⟨g, k * 2, none⟩ = some (.int .i64 p.params) := by
          rw [hsw0.cell hgz (by simp), ← Nat.add_zero (k * 2), World.ownsRow.cellAt HO.out.pr (k * 2 + 0) (by omega), flatP_at c.procs kvs k 0 HO.out.kl hlt (by omega), fP, hp]; rfl
        have p1 : wr.cell? ⟨g, k * 2 + 1, none⟩ = some (.slice Ak p.code.length Ck) := by
          rw [hsw0.cell hgz (by simp), World.ownsRow.cellAt HO.out.pr (k * 2 + 1) (by omega), flatP_at c.procs kvs k 1 HO.out.kl hlt (by omega), fP]
          simp only [Nat.one_ne_zero, if_false, hkqE]
        have hgw : g < wr.heap.size := Nat.lt_of_lt_of_le hgz hsw0.size
        have hpn : p.code.length ≤ 100000000 := HSM.out.sd p (by rw [← hp, List.getD, List.getElem?_eq_getElem hlt]; exact List.getElem_mem _)
        have HKQ : Hid (∀ W, Same [] wr W → Ow W 82 2 (.slice Ak p.code.length Ck) p.code.length (flatI p.code)) := Lib.hid (fun W hs => hkq.frame (hsw0.trans hs) (by simp))
        have HPV : Hid (∀ W, Same [] wr W → Ow W 68 2 (.slice Ap k Cp) k (flatP (c.procs.take k) ks)) := Lib.hid (fun W hs => by have := HOk.out.pr.frame hs (by simp); dsimp only at this; rwa [HTL.out] at this)
        have H47 : Hid (∀ u ∈ flatI p.code, u.oneCell' = true) := Lib.hid (fun u hu => by
          obtain ⟨x, _, hx⟩ := List.mem_flatMap.1 hu
          exact one2 rfl rfl u hx)
        have HP := Lib.hid hp
        have hnb : b3 ≠ wr.heap.size := by omega
        have HNB3 : Hid (b3 ∉ (Value.slice Ap k Cp).ownBlock.toList) := Lib.hid (fun hm => (HOk.out.box_ne HBLk.out).2.2.1 (by simpa using hm))
        clear hp hkqE hkq hsw0
        go_upto_region 5 with fail
        go_region_law (first
          | ((refine step_app rfl (.const (.slice none 0 0)) (.tmp 25) 66 rfl 82 ii _ 2 16 Tryz.underlying66 HII.out.1 HII.out.2.1 HII.out.2.2.1 HII.out.2.2.2 rfl (by decide) (.slice none 0 0) 0 [] rfl (World.ownsRow_nil _ _ _ _) Ak p.code.length Ck (flatI p.code) rfl (HKQ.out _ (by repeat (first | (with_reducible exact Same.refl _ _) | (with_reducible exact HSK.out) | (with_reducible refine Same.drew ?_) | (with_reducible refine Same.drewN ?_ _) | (with_reducible refine Same.alloc ?_ _)))) H47.out (by unfold maxLen; omega) (by omega) ?_); (intro Aq Cq wk hownk hsk hbk; obtain ⟨hck, hfk⟩ := same_cells hsk; have hzk := size_gt hsk; have HSK : Hid (Same [] wr wk) := Lib.hid (Same.trans (by repeat (first | (with_reducible exact Same.refl _ _) | (with_reducible exact HSK.out) | (with_reducible refine Same.drew ?_) | (with_reducible refine Same.drewN ?_ _) | (with_reducible refine Same.alloc ?_ _))) hsk); have HOK := Lib.hid hownk; have HBK := Lib.hid hbk; have HWK : Hid (Same [] _ wk) := Lib.hid hsk; have k1 := (HSK.out.cell yz List.not_mem_nil).trans y1; have kz := Nat.lt_of_lt_of_le yz HSK.out.size; clear hownk hsk hbk))
          | ((refine step_append_lies _ rfl (.tmp 21) (.tmp 28) 23 rfl 0 68 ip _ 2 32 Tryz.underlying23 HIP.out.1 HIP.out.2.1 HIP.out.2.2.1 HIP.out.2.2.2 rfl (by decide) (.slice Ap k Cp) k (flatP (c.procs.take k) ks) rfl (HPV.out _ (by repeat (first | (with_reducible exact Same.refl _ _) | (with_reducible exact HSK.out) | (with_reducible refine Same.drew ?_) | (with_reducible refine Same.drewN ?_ _) | (with_reducible refine Same.alloc ?_ _)))) _ 1 1 [.int .i64 p.params, .slice Aq p.code.length Cq] rfl rfl (by first | exact news2 (blk_at (by simp)) | exact news2 (Blk.drew (blk_at (by simp)))) (one2 rfl rfl) (by omega) (by unfold maxLen; omega) (by omega) (Nat.zero_le _) _ rfl ?_); (intro gp Cp2 w5 hown5 hgrow5 hat5 hlt5; have hsA : Same (Value.slice Ap k Cp).ownBlock.toList wk w5 := Same.trans (by repeat (first | (with_reducible exact Same.refl _ _) | (with_reducible refine Same.drew ?_) | (with_reducible refine Same.drewN ?_ _) | (with_reducible refine Same.alloc ?_ _))) (Same.of_grown hgrow5); have hx1 := (hsA.cell kz HNB3.out).trans k1; have hx2 : ∀ j, w5.frozen? ⟨b3, j, none⟩ = false := (fun j => (hsA.frozen kz HNB3.out).trans ((HSK.out.frozen yz List.not_mem_nil).trans (yf j))); have hx3 := Nat.lt_of_lt_of_le kz hsA.size; have HA5 := Lib.hid hsA; have HOWN5 := Lib.hid hown5; have HAT5 := Lib.hid hat5; clear hsA hown5 hgrow5 hat5)))
        all_goals
          have hfit : Hid (∃ ks' G', Blk (w5.setCell ⟨b3, 1, none⟩ (.slice (some ⟨gp, 0, none⟩) (k + 1) Cp2)) b3 26 [.slice Av c.consts.length Cv, .slice (some ⟨gp, 0, none⟩) (k + 1) Cp2, .slice Ag c.globals.length Cg] ∧ OCo (w5.setCell ⟨b3, 1, none⟩ (.slice (some ⟨gp, 0, none⟩) (k + 1) Cp2)) (.slice Av c.consts.length Cv) (.slice (some ⟨gp, 0, none⟩) (k + 1) Cp2) (.slice Ag c.globals.length Cg) ks' { c with procs := c.procs.take (k + 1) } G' ∧ (∀ b ∈ G', w.heap.size + 2 ≤ b ∧ b < (w5.setCell ⟨b3, 1, none⟩ (.slice (some ⟨gp, 0, none⟩) (k + 1) Cp2)).heap.size)) := Lib.hid (fit_round (p := p) (kv := .slice Aq p.code.length Cq) hlt HP.out HOk.out HBLk.out HGk.out (by have := HSWk.out.size; simp at this; omega) HSK.out (by have := HOK.out; simpa only [Nat.zero_add, List.nil_append] using this) (fun b hb => by
              rcases HBK.out b (by simpa only [Nat.zero_add] using hb) with h | h
              · cases h
              · rw [h]; first | exact Nat.le_refl _ | (simp; done) | trace_state) HA5.out HOWN5.out (fun b hb => by
              cases hb
              rcases HAT5.out with h | h
              · exact .inl h
              · right; rw [h]; first | exact Nat.le_refl _ | (simp; done) | trace_state))
          have hsw4 := (HSWk.out.trans HSK.out).trans' HA5.out (fun b hb => .inr (by have := (HGk.out b (HOk.out.pf b (by simpa using hb))).1; simpa using this))
          have hsw5 : Hid (Same [] _ (w5.setCell ⟨b3, 1, none⟩ (.slice (some ⟨gp, 0, none⟩) (k + 1) Cp2))) := Lib.hid (hsw4.setCell (.inr (by simp; omega)) _)
          clear hsw4
          go_wp2_with fail
          go_roundg (c.procs.length - (k + 1))
          case measure => omega
          case rel =>
            obtain ⟨ks', G', q1, q2, q3⟩ := hfit.out
            exact ⟨k + 1, _, ks', G', by omega, rfl, rfl, q1, q2, q3, hsw5.out⟩
      · obtain rfl : k = c.procs.length := by omega
        have hres := HRES.out _ HSWk.out
        have r0 := hres.cell 0
        have r1 := hres.cell 1
        have r2 := hres.cell 2
        have rz := hres.lt
        have rf := hres.frozen
        clear hres
        go_wp2_with fail
        have hq := HOk.out
        have hsf : Hid (Same [] ((w.alloc (.cells #[.slice A1 c.consts.length C1, .slice A2 c.procs.length C2, .slice A3 c.globals.length C3] 26)).alloc (.cells #[.slice none 0 0, .slice none 0 0, .slice none 0 0] 26)) wr) := HSWk
        have hr0 := HRES.out _ HSWk.out
        have e1 : ∀ {W : World} {cs : List Value} {G' : List Nat} {v : Value} {i : Nat}, OCo W (.slice Av c.consts.length Cv) (.slice Ap c.procs.length Cp) (.slice Ag c.globals.length Cg) ks c G' → Blk W (w.heap.size + 1) 26 cs → OCo (W.setCell ⟨w.heap.size + 1, i, none⟩ v) (.slice Av c.consts.length Cv) (.slice Ap c.procs.length Cp) (.slice Ag c.globals.length Cg) ks c G' ∧ Blk (W.setCell ⟨w.heap.size + 1, i, none⟩ v) (w.heap.size + 1) 26 (cs.set i v) := fun a b => ⟨a.setBox b _, b.set _ _⟩
        rw [List.take_length] at hq
        have q1 := e1 (i := 0) (v := .slice Av c.consts.length Cv) hq hr0
        have q2 := e1 (i := 1) (v := .slice Ap c.procs.length Cp) q1.1 q1.2
        have q3 := e1 (i := 2) (v := .slice Ag c.globals.length Cg) q2.1 q2.2
        have hsw : Same [] w wr := (((Same.refl [] w).alloc _).alloc _).trans HSWk.out
        refine bodyPost_ret (v := .agg #[.slice Av c.consts.length Cv, .slice Ap c.procs.length Cp, .slice Ag c.globals.length Cg]) (by simp [results, Tryz.results55, go_sem, r0, r1, r2]) rfl ?_
        exact ⟨_, _, _, _, _, rfl, q3.1, fun b hb => by have := (HGk.out b hb).1; omega, ((hsw.setCell (.inr (by simp)) _).setCell (.inr (by simp)) _).setCell (.inr (by simp)) _⟩
end Ck
end Go.Proofs.YticaipedpcmhfaaGreatDoor
