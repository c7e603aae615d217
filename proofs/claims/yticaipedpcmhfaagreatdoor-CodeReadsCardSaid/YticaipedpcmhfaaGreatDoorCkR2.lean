/- Layer 8, package code: read at every line; the next line. -/
import Derived.Test.YticaipedpcmhfaaGreatDoorCkQ6
namespace Go.Proofs.YticaipedpcmhfaaGreatDoor
open Go.RowKit Hp
namespace Ck
variable {w w' : World}

theorem read_any (s : ByteArray) (hs : s.size ≤ 281474976710656) (h : Vars w) (cb : Nat) (cv pv gv : Value) (kvs : List Value) (c : Cd.Co) (F : List Nat) (ho : OC w cb cv pv gv kvs c F) (hF : ∀ b ∈ F, 10 ≤ b) (hsm : Small c 100000000) :
    Calls Tryz.prog 54 #[.pointer (some ⟨cb, 0, none⟩), .string s] w (ReadP cb F (Cd.lineR c s.data.toList) w) := by
  cases hp0 : Lib.hasPrefix s.data.toList [32] with
  | true => exact read_instr s hs h cb cv pv gv kvs c F ho hF hsm hp0
  | false =>
    cases hp1 : Lib.hasPrefix s.data.toList Cd.constB with
    | true => exact read_const s hs h cb cv pv gv kvs c F ho hsm hp0 hp1
    | false =>
      cases hp2 : Lib.hasPrefix s.data.toList Cd.globalB with
      | true => exact read_global s hs h cb cv pv gv kvs c F ho hsm hp0 hp1 hp2
      | false =>
        cases hp3 : Lib.hasPrefix s.data.toList Cd.procB with
        | true => exact read_proc s hs h cb cv pv gv kvs c F ho hsm hp0 hp1 hp2 hp3
        | false => exact read_none s hs cb c F hp0 hp1 hp2 hp3

set_option maxHeartbeats 4000000 in
set_option maxRecDepth 100000 in
theorem next_any (s : ByteArray) (hs : s.size ≤ 100000000) (hv : Vars w) (sb ab n : Nat) (hsb : Blk w sb 9 [.string s]) (hab : Blk w ab 3 [.int .i64 n]) (hn : n ≤ 100000000) (hne : sb ≠ ab) :
    Calls Tryz.prog 52 #[.pointer (some ⟨sb, 0, none⟩), .pointer (some ⟨ab, 0, none⟩)] w fun e w' => e = .returned (.tuple #[.string (bs (Lib.cut s.data.toList [10]).1), .bool (Lib.cut s.data.toList [10]).2.2]) ∧ Blk w' sb 9 [.string (bs (Lib.cut s.data.toList [10]).2.1)] ∧ Blk w' ab 3 [.int .i64 (n + 1 : Nat)] ∧ Same [sb, ab] w w' := by
  obtain ⟨m, hm⟩ := hv.maxl
  obtain ⟨p, hp⟩ : ∃ p, bs (Lib.cut s.data.toList [10]).1 = p := ⟨_, rfl⟩
  obtain ⟨q, hq⟩ : ∃ q, bs (Lib.cut s.data.toList [10]).2.1 = q := ⟨_, rfl⟩
  obtain ⟨x, hx⟩ : ∃ x, (Lib.cut s.data.toList [10]).2.2 = x := ⟨_, rfl⟩
  rw [hp, hq, hx]
  have hcut : Calls Tryz.prog 53 #[.string s, .string ⟨#[10]⟩] w fun e w' => e = .returned (.tuple #[.string p, .string q, .bool x]) ∧ Same [] w w' :=
    (Tryz.strings_Cut s ⟨#[10]⟩ m w (by omega) hm).mono (by
      rintro e w' ⟨rfl, k, rfl⟩
      exact ⟨by rw [← hp, ← hq, ← hx]; rfl, (Same.refl _ _).drewN k⟩)
  have s0 := hsb.cell 0
  have a0 := hab.cell 0
  have sz := hsb.lt
  have az := hab.lt
  have HS := Lib.hid hsb
  have HA := Lib.hid hab
  clear hv hm hp hq hx hsb hab
  go_enter Tryz.func52, Tryz.ntmps52
  go_wp2_with fail
  refine hcut.mono ?_
  rintro e w2 ⟨rfl, hs2⟩
  have hS := HS.out.frame hs2 (by simp)
  have hA := HA.out.frame hs2 (by simp)
  have t0 := hS.cell 0
  have tz := hS.lt
  have tf := hS.frozen
  have b0 := hA.cell 0
  have bz := hA.lt
  have bf := hA.frozen
  have HS2 := Lib.hid hS
  have HA2 := Lib.hid hA
  have HSM := Lib.hid hs2
  clear hS hA hs2 s0 a0 sz az
  go_wp2_with fail
  refine bodyPost_ret (v := .tuple #[.string p, .bool x]) (by simp [results, Tryz.results52, go_sem]) rfl ?_
  have hA3 := HA2.out.frame (((Same.refl [sb] w2).setCell (by simp) (.string q)) : Same [sb] w2 (w2.setCell ⟨sb, 0, none⟩ (.string q))) (by simp; omega)
  have hS3 := HS2.out.set 0 (.string q)
  refine ⟨rfl, (hS3.frame (((Same.refl [ab] _).setCell (by simp) _)) (by simp; omega)), ?_, ?_⟩
  · have := hA3.set 0 (.int .i64 (n + 1 : Nat))
    simpa using this
  · exact (((HSM.out.mono (fun x hx => by cases hx))).setCell (.inl (by simp)) _).setCell (.inl (by simp)) _
end Ck
end Go.Proofs.YticaipedpcmhfaaGreatDoor
/- Layer 8, the plain side of Parse: what a line more keeps; how a text grows shorter. -/
namespace Go.Proofs.YticaipedpcmhfaaGreatDoor
open Go.RowKit Hp
namespace Ck

theorem constFrom_in : ∀ (l : List Nat) (s : List UInt8) (x : Int), Cd.constFrom l s = some x → 0 ≤ x ∧ x < 18446744073709551616
  | [], s, x, h => by cases h
  | t :: ts, s, x, h => by
    rw [Cd.constFrom] at h
    split at h
    · split at h
      · cases hl : Cd.longT (s.drop (Cd.tagL.getD t []).length) with
        | none => rw [hl] at h; cases h
        | some n =>
          rw [hl] at h
          dsimp only at h
          unfold Cd.makeW at h
          split at h
          · injection h with h
            subst h
            exact wordOf_in _ _
          · cases h
      · exact constFrom_in ts s x h
    · split at h
      · injection h with h
        subst h
        exact wordOf_in _ _
      · exact constFrom_in ts s x h

theorem placeT_in {s : List UInt8} {n : Int} (h : Cd.placeT s = some n) : 0 ≤ n ∧ n ≤ 2147483647 := by
  unfold Cd.placeT at h
  cases hl : Cd.longT s with
  | none => rw [hl] at h; cases h
  | some m =>
    rw [hl] at h
    dsimp only at h
    split at h
    · next h0 => injection h with h; subst h; exact h0
    · cases h

theorem instrFrom_in : ∀ (l : List Nat) (s : List UInt8) (x : Cd.In), (∀ o ∈ l, o ≤ 255) → Cd.instrFrom l s = some x → WIn x
  | [], s, x, _, h => by cases h
  | o :: os, s, x, hl, h => by
    have ho := hl o (by simp)
    rw [Cd.instrFrom] at h
    split at h
    · split at h
      · cases hp : Cd.placeT (s.drop (Cd.calledL.getD o []).length) with
        | none => rw [hp] at h; cases h
        | some n =>
          rw [hp] at h
          injection h with h
          subst h
          have := placeT_in hp
          exact ⟨by dsimp only; omega, by unfold in64; dsimp only; omega⟩
      · exact instrFrom_in os s x (fun o h => hl o (List.mem_cons_of_mem _ h)) h
    · split at h
      · injection h with h
        subst h
        exact ⟨by dsimp only; omega, by unfold in64; dsimp only; omega⟩
      · exact instrFrom_in os s x (fun o h => hl o (List.mem_cons_of_mem _ h)) h

theorem addI_mem : ∀ (l : List Cd.Pr) (i : Cd.In) (p : Cd.Pr), p ∈ Cd.addI l i → p ∈ l ∨ ∃ q ∈ l, p = ⟨q.params, q.code ++ [i]⟩
  | [], i, p, h => by cases h
  | [q], i, p, h => by
    rw [Cd.addI] at h
    exact .inr ⟨q, by simp, by simpa using h⟩
  | q :: r :: l, i, p, h => by
    rw [Cd.addI] at h
    rcases List.mem_cons.1 h with rfl | h
    · exact .inl (by simp)
    · rcases addI_mem (r :: l) i p h with h | ⟨q', h, e⟩
      · exact .inl (List.mem_cons_of_mem _ h)
      · exact .inr ⟨q', List.mem_cons_of_mem _ h, e⟩

theorem addI_len' : ∀ (l : List Cd.Pr) (i : Cd.In), (Cd.addI l i).length = l.length
  | [], i => rfl
  | [q], i => rfl
  | q :: r :: l, i => by
    have := addI_len' (r :: l) i
    rw [Cd.addI, List.length_cons, this]; rfl

theorem Small.up {c : Cd.Co} {N M : Nat} (h : Small c N) (hm : N ≤ M) : Small c M := ⟨Nat.le_trans h.sa hm, Nat.le_trans h.sb hm, Nat.le_trans h.sc hm, fun p hp => Nat.le_trans (h.sd p hp) hm⟩

/-- A line more keeps what fits into memory. -/
theorem lineR_ok {c d : Cd.Co} {s : List UInt8} {n : Nat} (h : Cd.lineR c s = some d) (hs : s.length ≤ 100000000) (hw : WCo c) (hm : Small c n) : WCo d ∧ Small d (n + 1) := by
  have hm1 : Small c (n + 1) := hm.up (by omega)
  unfold Cd.lineR at h
  split at h
  · cases hi : Cd.instrR (s.drop 1) with
    | none => rw [hi] at h; cases h
    | some i =>
      rw [hi] at h
      dsimp only at h
      split at h
      · cases h
      · injection h with h
        subst h
        have hwi := instrFrom_in _ _ _ (by decide) hi
        refine ⟨⟨hw.consts, hw.globals, fun p hp => ?_⟩, ⟨hm1.sa, hm1.sb, by dsimp only; rw [addI_len']; exact hm1.sc, fun p hp => ?_⟩⟩
        · rcases addI_mem _ _ _ hp with h | ⟨q, hq, rfl⟩
          · exact hw.procs p h
          · refine ⟨(hw.procs q hq).params, fun j hj => ?_⟩
            rcases List.mem_append.1 hj with hj | hj
            · exact (hw.procs q hq).code j hj
            · rw [List.mem_singleton.1 hj]; exact hwi
        · rcases addI_mem _ _ _ hp with h | ⟨q, hq, rfl⟩
          · exact hm1.sd p h
          · have := hm.sd q hq
            simp; omega
  · split at h
    · cases hc : Cd.constR (s.drop Cd.constB.length) with
      | none => rw [hc] at h; cases h
      | some x =>
        rw [hc] at h
        dsimp only at h
        split at h
        · injection h with h
          subst h
          refine ⟨⟨fun u hu => ?_, hw.globals, hw.procs⟩, ⟨by have := hm.sa; simp; omega, hm1.sb, hm1.sc, hm1.sd⟩⟩
          rcases List.mem_append.1 hu with hu | hu
          · exact hw.consts u hu
          · rw [List.mem_singleton.1 hu]; exact constFrom_in _ _ _ hc
        · cases h
    · split at h
      · split at h
        · injection h with h
          subst h
          refine ⟨⟨hw.consts, fun u hu => ?_, hw.procs⟩, ⟨hm1.sa, by have := hm.sb; simp; omega, hm1.sc, hm1.sd⟩⟩
          rcases List.mem_append.1 hu with hu | hu
          · exact hw.globals u hu
          · rw [List.mem_singleton.1 hu]
            have : (s.drop Cd.globalB.length).toArray.size ≤ s.length := by simp
            exact Nat.le_trans this (by omega)
        · cases h
      · split at h
        · cases hp : Cd.placeT (s.drop Cd.procB.length) with
          | none => rw [hp] at h; cases h
          | some x =>
            rw [hp] at h
            injection h with h
            subst h
            have := placeT_in hp
            refine ⟨⟨hw.consts, hw.globals, fun p hp => ?_⟩, ⟨hm1.sa, hm1.sb, by have := hm.sc; simp; omega, fun p hp => ?_⟩⟩
            · rcases List.mem_append.1 hp with hp | hp
              · exact hw.procs p hp
              · rw [List.mem_singleton.1 hp]; exact ⟨by unfold in64; dsimp only; omega, fun i hi => (by cases hi)⟩
            · rcases List.mem_append.1 hp with hp | hp
              · exact hm1.sd p hp
              · rw [List.mem_singleton.1 hp]; exact Nat.zero_le _
        · cases h

theorem cut_fst (s : List UInt8) : (Lib.cut s [10]).1.length ≤ s.length := by
  unfold Lib.cut
  split
  · simp; omega
  · exact Nat.le_refl _
theorem cut_snd (s : List UInt8) (h : s ≠ []) : (Lib.cut s [10]).2.1.length + 1 ≤ s.length := by
  have : 1 ≤ s.length := by cases s with
    | nil => exact absurd rfl h
    | cons a l => simp
  unfold Lib.cut
  split
  · simp; omega
  · simpa using this

/-- As much fuel as the text is long will do. -/
theorem readT_fuel : ∀ (k k' : Nat) (s : List UInt8) (c : Cd.Co) (n : Nat), s.length < k → s.length < k' → Cd.readT k s c n = Cd.readT k' s c n
  | 0, _, s, c, n, h, _ => absurd h (Nat.not_lt_zero _)
  | _ + 1, 0, s, c, n, _, h => absurd h (Nat.not_lt_zero _)
  | k + 1, k' + 1, s, c, n, h, h' => by
    rw [Cd.readT, Cd.readT]
    by_cases h0 : s = []
    · rw [if_pos h0, if_pos h0]
    · rw [if_neg h0, if_neg h0]
      by_cases h1 : (Lib.cut s [10]).2.2 = false
      · rw [if_pos h1, if_pos h1]
      · rw [if_neg h1, if_neg h1]
        cases hl : Cd.lineR c (Lib.cut s [10]).1 with
        | none => rfl
        | some d =>
          have := cut_snd s h0
          exact readT_fuel k k' _ d (n + 1) (by omega) (by omega)

/-- What is read, from a text on. -/
def readF (s : List UInt8) (c : Cd.Co) (n : Nat) : Cd.Co × Bool × Nat := Cd.readT (s.length + 1) s c n
theorem readF_nil (c : Cd.Co) (n : Nat) : readF [] c n = (c, true, n) := rfl
theorem readF_cut (s : List UInt8) (c : Cd.Co) (n : Nat) (h : s ≠ []) (h1 : (Lib.cut s [10]).2.2 = false) : readF s c n = (c, false, n + 1) := by
  rw [readF, Cd.readT, if_neg h, if_pos h1]
theorem readF_bad (s : List UInt8) (c : Cd.Co) (n : Nat) (h : s ≠ []) (h1 : (Lib.cut s [10]).2.2 = true) (h2 : Cd.lineR c (Lib.cut s [10]).1 = none) : readF s c n = (c, false, n + 1) := by
  rw [readF, Cd.readT, if_neg h, if_neg (by simp [h1]), h2]
theorem readF_more (s : List UInt8) (c d : Cd.Co) (n : Nat) (h : s ≠ []) (h1 : (Lib.cut s [10]).2.2 = true) (h2 : Cd.lineR c (Lib.cut s [10]).1 = some d) : readF s c n = readF (Lib.cut s [10]).2.1 d (n + 1) := by
  have hc := cut_snd s h
  rw [readF, Cd.readT, if_neg h, if_neg (by simp [h1]), h2]
  exact readT_fuel _ _ _ _ _ (by omega) (by omega)
end Ck
end Go.Proofs.YticaipedpcmhfaaGreatDoor
