/- A thread in memory; vm.New. -/
import Derived.Test.YtkepcdbogeineaaGreatDoorVmC
import Derived.Test.YtkepcdbogeineaaGreatDoorVmA
import Derived.Test.YtkepcdbogeineaaGreatDoorVmW
namespace Go.Proofs.YtkepcdbogeineaaGreatDoor
open Go.RowKit Hp Ck
namespace Vm
variable {w w' W : World}

/-- A frame; a thread, as plain things. -/
structure Fr where
  proc : Nat
  at_ : Nat
  env : Int
  base : Nat
structure Th where
  c : Cd.Co
  fr : List Fr
  st : List Int
  phase : Nat
  number : Int
  req : Option (Int × Int)
  refused : Bool
  ended : Bool
  word : Int
  err : Int
def frC (f : Fr) : List Value := [.int .i64 f.proc, .int .i64 f.at_, .int .u64 f.env, .int .i64 f.base]
def flatF (l : List Fr) : List Value := l.flatMap frC
theorem flatF_len (l : List Fr) : (flatF l).length = l.length * 4 := flat_length _ 4 (fun _ => rfl) l
theorem _root_.Go.Proofs.YtkepcdbogeineaaGreatDoor.Ck.blk_at' {W : World} {b : Nat} {t : TypeId} {cs : List Value} (hb : b = W.heap.size) : Blk (W.alloc (.cells cs.toArray t)) b t cs := by subst hb; exact Blk.new W t cs
def begins (c : Cd.Co) (proc : Nat) (env : Int) : Th := ⟨c, [⟨proc, 0, env, 0⟩], [], 0, 0, none, false, false, 0, 0⟩

/-- A request: none, or two words. -/
def ReqR (W : World) (rv : Value) : Option (Int × Int) → Prop
  | none => rv = .slice none 0 0
  | some (a, b) => ∃ g C, rv = .slice (some ⟨g, 0, none⟩) 2 C ∧ Ow W 30 1 rv 2 [.int .u64 a, .int .u64 b]

/-- A thread in memory: its code and its table are in FC, never written; the rest in FT. -/
structure ThAt (W : World) (T M : Nat) (cv pv gv fv sv rv : Value) (kvs : List Value) (th : Th) (FC FT : List Nat) : Prop where
  b : Blk W T 84 [cv, pv, gv, .map (some M), fv, sv, .int .i64 th.phase, .int .u64 th.number, rv, .bool th.refused, .bool th.ended, .int .u64 th.word, .int .i64 th.err]
  oc : OCo W cv pv gv kvs th.c FC
  tb : W.heap[M]? = some (.map (tab 18) 18)
  fr : Ow W 81 4 fv th.fr.length (flatF th.fr)
  st : Ow W 30 1 sv th.st.length (th.st.map (Value.int .u64))
  rq : ReqR W rv th.req
  inM : M ∈ FC
  inT : T ∈ FT
  inF : ∀ b, fv.ownBlock = some b → b ∈ FT
  inS : ∀ b, sv.ownBlock = some b → b ∈ FT
  inR : ∀ b, rv.ownBlock = some b → b ∈ FT
  srd : ∀ b, sv.ownBlock = some b → rv.ownBlock ≠ some b
  cfd : ∀ b ∈ FC, b ∉ FT
  cl : ∀ b ∈ FC, b < W.heap.size
  tl : ∀ b ∈ FT, b < W.heap.size
def ThR (W : World) (T : Nat) (th : Th) (FC FT : List Nat) : Prop := ∃ M cv pv gv fv sv rv kvs, ThAt W T M cv pv gv fv sv rv kvs th FC FT

theorem OCo_exact {cv pv gv : Value} {kvs : List Value} {c : Cd.Co} {F : List Nat} (h : OCo w cv pv gv kvs c F) : ∃ G, OCo w cv pv gv kvs c G ∧ ∀ b ∈ G, b < w.heap.size ∧ b ∈ F := by
  have key : ∀ b, b ∈ F → b < w.heap.size → b ∈ F.filter (fun b => decide (b < w.heap.size)) := fun b h1 h2 => List.mem_filter.2 ⟨h1, by simpa using h2⟩
  refine ⟨F.filter (fun b => decide (b < w.heap.size)), ⟨h.cr, h.gr, h.pr, h.kl, h.kr, h.kd, fun b hb => key b (h.cf b hb) (h.cr.lt hb), fun b hb => key b (h.gf b hb) (h.gr.lt hb), fun b hb => key b (h.pf b hb) (h.pr.lt hb), fun i b hi hb => key b (h.kf i b hi hb) ((h.kr i hi).lt hb)⟩, fun b hb => ?_⟩
  have := List.mem_filter.1 hb
  exact ⟨by simpa using this.2, this.1⟩

/-- What New answers. -/
def newE (c : Cd.Co) (proc : Int) : Int := if (Cd.check Cd.sym c).1 ≠ 0 then (Cd.check Cd.sym c).1 else if proc < 0 ∨ (c.procs.length : Int) ≤ proc ∨ (c.procs.getD proc.toNat ⟨0, []⟩).params ≠ 0 then 1 else 0
def NewP (c : Cd.Co) (proc env : Int) (w : World) (e : Ending) (w' : World) : Prop := Same [] w w' ∧ (if newE c proc = 0 then ∃ T FC FT, e = .returned (.tuple #[.pointer (some ⟨T, 0, none⟩), .int .i64 0]) ∧ ThR w' T (begins c proc.toNat env) FC FT ∧ ∀ b, b ∈ FC ∨ b ∈ FT → w.heap.size ≤ b else e = .returned (.tuple #[.pointer none, .int .i64 (newE c proc)]))

set_option maxHeartbeats 8000000 in
set_option maxRecDepth 100000 in
theorem new_any (cv pv gv : Value) (c : Cd.Co) (hr : RCoAt w cv pv gv c) (hw : WCo c) (hv : Vars w) (proc env : Int) (hp : in64 proc) :
    Calls Tryz.prog 10 #[.agg #[cv, pv, gv], .int .i64 proc, .int .u64 env] w (NewP c proc env w) := by
  obtain ⟨kv, hps, hks⟩ := hr.procs
  obtain ⟨A1, c1, rfl, hc1, hc1'⟩ := hr.consts.form
  obtain ⟨A2, c2, rfl, hc2, hc2'⟩ := hps.form
  obtain ⟨A3, c3, rfl, hc3, hc3'⟩ := hr.globals.form
  have HCK := Lib.hid (fun W (hs : Same [] w W) => check_any (w := W) (.agg #[.slice A1 c.consts.length c1, .slice A2 c.procs.length c2, .slice A3 c.globals.length c3]) c ⟨_, _, _, rfl, hr.frame hs⟩ hw (hv.frame hs (by simp)))
  obtain ⟨ck, hck⟩ : ∃ ck, ck = Cd.check Cd.sym c := ⟨_, rfl⟩
  rw [← hck] at HCK
  unfold Chk at HCK
  have HR := Lib.hid hr
  have HK := Lib.hid hck
  have HP := Lib.hid hps
  clear hr hck hv hps hks
  go_enter Tryz.func10, Tryz.ntmps10
  go_wp2_with fail
  refine (HCK.out _ ((Same.refl [] w).alloc _)).mono ?_
  rintro e w1 ⟨rfl, hs1⟩
  have hs01 : Same [] w w1 := ((Same.refl [] w).alloc _).trans hs1
  have hkb : Blk w1 w.heap.size 27 [.slice A1 c.consts.length c1, .slice A2 c.procs.length c2, .slice A3 c.globals.length c3] := (Blk.new w 27 [.slice A1 c.consts.length c1, .slice A2 c.procs.length c2, .slice A3 c.globals.length c3]).frame hs1 (by simp)
  have b0 := hkb.cell 0
  have b1 := hkb.cell 1
  have b2 := hkb.cell 2
  have bz := hkb.lt
  have HS1 := Lib.hid hs01
  clear hs1 hs01 hkb HCK
  rcases ck with ⟨e0, q0, p0⟩
  simp only at *
  by_cases hk : e0 = 0
  · subst hk
    have hck0 : (Cd.check Cd.sym c).1 = 0 := by rw [← HK.out]
    have hgood := Cd.goodC_of hck0
    have HG := Lib.hid hgood
    have HC0 := Lib.hid hck0
    clear hgood hck0
    have ret1 : ∀ W, Same [] w W → (proc < 0 ∨ (c.procs.length : Int) ≤ proc ∨ (c.procs.getD proc.toNat ⟨0, []⟩).params ≠ 0) → NewP c proc env w (.returned (.tuple #[.pointer none, .int .i64 1])) W := fun W hs hc => by
      have : newE c proc = 1 := by unfold newE; rw [if_neg (by rw [HC0.out]; simp), if_pos hc]
      refine ⟨hs, ?_⟩
      rw [if_neg (by rw [this]; decide), this]
    have HRET := Lib.hid ret1
    clear ret1
    by_cases hneg : proc < 0
    · go_wp2_with fail
      go_ret2
      exact HRET.out _ HS1.out (.inl hneg)
    · have hp0 : (0 : Int) ≤ proc := by omega
      by_cases hge : (c.procs.length : Int) ≤ proc
      · go_wp2_with fail
        go_ret2
        exact HRET.out _ HS1.out (.inr (.inl hge))
      · have hlt : proc < (c.procs.length : Int) := by omega
        obtain ⟨pn, hpn⟩ : ∃ pn : Nat, proc = pn := ⟨proc.toNat, by omega⟩
        subst hpn
        have hpl : pn < c.procs.length := by omega
        obtain ⟨A, cap, hv, -, -, hcs⟩ := HP.out.frame HS1.out
        injection hv with hv1 _ hv2
        subst hv1 hv2
        obtain ⟨pb, po, hA, hpb, hcell⟩ := hcs (by omega)
        subst hA
        have pc := hcell pn 0 hpl (by omega)
        simp only [fP, if_true, Nat.add_zero] at pc
        obtain ⟨pp, hpp⟩ : ∃ pp, pp = (c.procs.getD pn ⟨0, []⟩).params := ⟨_, rfl⟩
        rw [← hpp] at pc
        have HPP := Lib.hid hpp
        clear hcell hcs hpp
        by_cases hz : pp = 0
        · subst hz
          go_wp2_with fail
          refine (copied_any _ _ _ c (HR.out.frame HS1.out) HG.out.lens.1 HG.out.lens.2.2 HG.out.lens.2.1 (fun q hq => (HG.out.procs q hq).len)).mono ?_
          rintro e w2 ⟨cv', pv', gv', kvs, F, rfl, ho, hge2, hs2⟩
          obtain ⟨A4, C4, rfl⟩ := ho.cr.lit
          obtain ⟨A5, C5, rfl⟩ := ho.pr.lit
          obtain ⟨A6, C6, rfl⟩ := ho.gr.lit
          obtain ⟨FX, hox, hfx⟩ := OCo_exact ho
          have HO := Lib.hid hox
          have HF := Lib.hid (fun b (hb : b ∈ FX) => And.intro (hfx b hb).1 (hge2 b (hfx b hb).2))
          have HS2 := Lib.hid (HS1.out.trans hs2)
          have hz12 := hs2.size
          have hz01 := HS1.out.size
          clear ho hge2 hs2 hox hfx
          go_wp2_with fail
          refine table_any.mono ?_
          rintro e w3 ⟨rfl, rfl⟩
          go_wp2_with fail
          go_ret2
          have hne0 : newE c (pn : Int) = 0 := by
            unfold newE
            rw [if_neg (by rw [HC0.out]; simp), if_neg (by
              rintro (h | h | h)
              · omega
              · omega
              · exact h (by rw [Int.toNat_natCast, ← HPP.out]))]
          refine ⟨((HS2.out.alloc _).alloc _).alloc _, ?_⟩
          rw [if_pos hne0]
          refine ⟨w2.heap.size + 1 + 1, w2.heap.size :: FX, [w2.heap.size + 1 + 1, w2.heap.size + 1], ?_, ⟨w2.heap.size, .slice A4 c.consts.length C4, .slice A5 c.procs.length C5, .slice A6 c.globals.length C6, .slice (some ⟨w2.heap.size + 1, 0, none⟩) 1 1, .slice none 0 0, .slice none 0 0, kvs, ?_⟩, ?_⟩
          · simp
          · have hs : Same [] w2 (((w2.alloc (.map (tab 18) 18)).alloc (.cells #[.int .i64 pn, .int .i64 0, .int .u64 env, .int .i64 0] 81)).alloc (.cells #[.slice A4 c.consts.length C4, .slice A5 c.procs.length C5, .slice A6 c.globals.length C6, .map (some w2.heap.size), .slice (some ⟨w2.heap.size + 1, 0, none⟩) 1 1, .slice none 0 0, .int .i64 0, .int .u64 0, .slice none 0 0, .bool false, .bool false, .int .u64 0, .int .i64 0] 84)) := (((Same.refl [] w2).alloc _).alloc _).alloc _
            refine ⟨?_, ?_, ?_, ?_, World.ownsRow_nil _ _ _ _, rfl, by simp, by simp, fun b hb => ?_, fun b hb => (by cases hb), fun b hb => (by cases hb), fun b hb => (by cases hb), fun b hb hm => ?_, fun b hb => ?_, fun b hb => ?_⟩
            · exact Ck.blk_at' (by simp)
            · exact (HO.out.mono (fun b hb => List.mem_cons_of_mem _ hb)).frame hs (by simp)
            · exact (Below.heap_alloc _ _ _ (by simp; omega)).trans ((Below.heap_alloc _ _ _ (by simp)).trans (heap_alloc_new w2 _))
            · have hfb : Blk ((w2.alloc (.map (tab 18) 18)).alloc (.cells #[.int .i64 pn, .int .i64 0, .int .u64 env, .int .i64 0] 81)) (w2.heap.size + 1) 81 [.int .i64 pn, .int .i64 0, .int .u64 env, .int .i64 0] := Ck.blk_at' (by simp)
              have h2 := hfb.alloc (.cells #[.slice A4 c.consts.length C4, .slice A5 c.procs.length C5, .slice A6 c.globals.length C6, .map (some w2.heap.size), .slice (some ⟨w2.heap.size + 1, 0, none⟩) 1 1, .slice none 0 0, .int .i64 0, .int .u64 0, .slice none 0 0, .bool false, .bool false, .int .u64 0, .int .i64 0] 84)
              refine ⟨rfl, .inr ⟨w2.heap.size + 1, 1, _, rfl, Nat.zero_le _, h2, Nat.le_refl _, by decide, by simp, by simp [flatF, frC, begins]⟩⟩
            · have : b = w2.heap.size + 1 := by simpa [Value.ownBlock] using hb.symm
              rw [this]; simp
            · rcases List.mem_cons.1 hb with h | h
              · subst h; simp only [List.mem_cons, List.not_mem_nil, or_false] at hm; omega
              · have := (HF.out b h).1
                simp at hm; omega
            · rcases List.mem_cons.1 hb with h | h
              · subst h; simp; omega
              · have := (HF.out b h).1; simp; omega
            · simp only [List.mem_cons, List.not_mem_nil, or_false] at hb
              simp; omega
          · intro b hb
            simp only [List.mem_cons, List.not_mem_nil, or_false] at hb
            rcases hb with (h | h) | h | h
            · omega
            · have := (HF.out b h).2; omega
            · omega
            · omega
        · have hne : (pp != 0) = true := by simpa using hz
          go_wp2_with fail
          go_ret2
          exact HRET.out _ HS1.out (.inr (.inr (by rw [Int.toNat_natCast, ← HPP.out]; exact hz)))
  · have hne : (e0 != 0) = true := by simpa using hk
    have HE0 := Lib.hid hk
    clear hk
    go_wp2_with fail
    go_ret2
    have : newE c proc = e0 := by
      unfold newE
      rw [if_pos (by rw [← HK.out]; exact HE0.out), ← HK.out]
    refine ⟨HS1.out, ?_⟩
    rw [if_neg (by rw [this]; exact HE0.out), this]
    rfl
end Vm
end Go.Proofs.YtkepcdbogeineaaGreatDoor
