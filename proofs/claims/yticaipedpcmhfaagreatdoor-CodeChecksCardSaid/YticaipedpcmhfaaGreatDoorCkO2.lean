/- Layer 8: how much is handed in: OfTexts, OfCode. -/
import Derived.Test.YticaipedpcmhfaaGreatDoorCkO1
import Derived.Test.YticaipedpcmhfaaGreatDoorCkW6
import Derived.Deep.QuietTactic
import Derived.BigQuiet
namespace Go.Proofs.YticaipedpcmhfaaGreatDoor
open Go.RowKit Hp
namespace Ck
variable {w w' : World}

/-- A count that goes no further than a bound. -/
def cntL : List Nat → Nat → Nat
  | [], n => n
  | a :: l, n => if n ≤ 2147483647 then cntL l (n + a) else n
theorem cntL_small : ∀ (l : List Nat) (n : Nat), cntL l n ≤ 2147483647 → cntL l n = n + l.sum
  | [], n, _ => rfl
  | a :: l, n, h => by
    unfold cntL at h ⊢
    split at h
    · rename_i c
      rw [if_pos c, cntL_small l _ h, List.sum_cons]; omega
    · omega
theorem cntL_le (m : Nat) : ∀ (l : List Nat) (n : Nat), n ≤ 2147483647 + m → (∀ a ∈ l, a ≤ m) → cntL l n ≤ 2147483647 + m
  | [], n, h, _ => h
  | a :: l, n, h, ha => by
    unfold cntL
    split
    · exact cntL_le m l _ (by have := ha a (by simp); omega) (fun b hb => ha b (by simp [hb]))
    · exact h
theorem cntL_at (f : List Nat) (k : Nat) (n : Nat) (hk : k < f.length) (h : n ≤ 2147483647) : cntL (f.drop k) n = cntL (f.drop (k + 1)) (n + f.getD k 0) := by
  rw [List.drop_eq_getElem_cons hk]
  conv => lhs; unfold cntL
  rw [if_pos h, List.getD, List.getElem?_eq_getElem hk]; rfl
theorem cntL_over (f : List Nat) (n : Nat) (h : ¬ n ≤ 2147483647) : cntL f n = n := by
  cases f with
  | nil => rfl
  | cons a l => unfold cntL; rw [if_neg h]
theorem cntL_end (f : List Nat) (k n : Nat) (hk : f.length ≤ k) : cntL (f.drop k) n = n := by
  rw [List.drop_eq_nil_of_le hk]; rfl

def ofT (l : List ByteArray) : List Nat := l.map (fun s => 1 + s.size)
def ofP (l : List Cd.Pr) : List Nat := l.map (fun p => 1 + p.code.length)
def ofTn (l : List ByteArray) : Nat := cntL (ofT l) 0
def ofCn (c : Cd.Co) : Nat := cntL (ofP c.procs) (c.consts.length + ofTn c.globals)
theorem ofT_at (l : List ByteArray) (k : Nat) (hk : k < l.length) : (ofT l).getD k 0 = 1 + (l.getD k ByteArray.empty).size := by
  unfold ofT; rw [List.getD, List.getD, List.getElem?_map, List.getElem?_eq_getElem hk]; rfl
theorem ofP_at (l : List Cd.Pr) (k : Nat) (hk : k < l.length) : (ofP l).getD k 0 = 1 + (l.getD k ⟨0, []⟩).code.length := by
  unfold ofP; rw [List.getD, List.getD, List.getElem?_map, List.getElem?_eq_getElem hk]; rfl

set_option maxHeartbeats 4000000 in
set_option maxRecDepth 100000 in
theorem ofTexts_any (v : Value) (l : List ByteArray) (h : Sq w v l.length 1 (fS l)) (hl : ∀ s ∈ l, s.size ≤ 140737488351232) : Calls Tryz.prog 25 #[v] w fun e w' => e = .returned (.int .i64 (ofTn l)) ∧ w = w' := by
  obtain ⟨A, cap, rfl, hc1, hc2⟩ := h.form
  have HR := Lib.hid h
  have HL := Lib.hid hl
  unfold maxLen at hc2
  clear h hl
  go_enter Tryz.func25, Tryz.ntmps25
  go_wp2
  go_loopg [3, 4] l.length (fun gk n i wr => ∃ k : Nat, k ≤ l.length ∧ gk = l.length - k ∧ i = .int .i64 k ∧ (∃ m : Nat, n = .int .i64 m ∧ cntL ((ofT l).drop k) m = ofTn l ∧ m ≤ 140737488351232 + 2147483648) ∧ wr = w)
  case atStart => exact ⟨0, Nat.zero_le _, rfl, rfl, ⟨0, rfl, rfl, by omega⟩, rfl⟩
  case round =>
    obtain ⟨k, hk, rfl, rfl, ⟨m, rfl, hm, hmb⟩, hw⟩ := hrel
    subst hw
    have HM := Lib.hid hm
    clear hm
    by_cases hlt : k < l.length
    · by_cases hb : m ≤ 2147483647
      · obtain ⟨b, off, cap2, he, _, _, hbb, hcell⟩ := HR.out.lit (by omega)
        injection he with he1 _ he3
        subst he1 he3
        have hck : wr.cell? ⟨b, off + k, none⟩ = some (.string (l.getD k ByteArray.empty)) := by
          have := hcell k 0 hlt (by omega)
          rw [Nat.mul_one, Nat.add_zero] at this
          exact this
        have hz : (l.getD k ByteArray.empty).size ≤ 140737488351232 := HL.out _ (by rw [List.getD, List.getElem?_eq_getElem hlt]; exact List.getElem_mem _)
        obtain ⟨s, hs⟩ : ∃ s, s = l.getD k ByteArray.empty := ⟨_, rfl⟩
        rw [← hs] at hck hz
        have HS := Lib.hid hs
        clear hcell hs
        go_wp2
        go_roundg (l.length - (k + 1))
        case measure => omega
        case rel =>
          refine ⟨k + 1, by omega, rfl, by go_num, ⟨m + (1 + s.size), by go_num, ?_, by omega⟩, rfl⟩
          have := cntL_at (ofT l) k m (by rw [ofT, List.length_map]; exact hlt) hb
          rw [ofT_at l k hlt, ← HS.out] at this
          rw [← this, HM.out]
      · go_wp2
        go_ret
        exact ⟨by rw [← HM.out, cntL_over _ _ hb]; rfl, rfl⟩
    · obtain rfl : k = l.length := by omega
      go_wp2
      go_ret
      exact ⟨by rw [← HM.out, cntL_end _ _ _ (by rw [ofT, List.length_map]; omega)]; rfl, rfl⟩

theorem ofTn_le (l : List ByteArray) (hl : ∀ s ∈ l, s.size ≤ 140737488351232) : ofTn l ≤ 140739635834881 := by
  have := cntL_le 140737488351233 (ofT l) 0 (by omega) (fun a ha => by
    obtain ⟨s, hs, rfl⟩ := List.mem_map.1 ha
    have := hl s hs
    omega)
  unfold ofTn
  omega
theorem ofCn_le (c : Cd.Co) (hl : Lens c) : ofCn c ≤ 562949953421312 := by
  have h1 := ofTn_le c.globals hl.globals
  have h2 := hl.consts
  have := cntL_le 422212465065984 (ofP c.procs) (c.consts.length + ofTn c.globals) (by omega) (fun a ha => by
    obtain ⟨p, hp, rfl⟩ := List.mem_map.1 ha
    have := hl.procs p hp
    omega)
  unfold ofCn
  omega

set_option maxHeartbeats 4000000 in
set_option maxRecDepth 100000 in
theorem ofCode_any (v : Value) (c : Cd.Co) (hr : RCo w v c) (hl : Lens c) : Calls Tryz.prog 9 #[v] w fun e w' => e = .returned (.int .i64 (ofCn c)) ∧ Same [] w w' := by
  obtain ⟨cv, pv, gv, rfl, hr⟩ := hr
  obtain ⟨A1, c1, rfl, hc1, hc1'⟩ := hr.consts.form
  obtain ⟨kv, hps, hks⟩ := hr.procs
  obtain ⟨A2, c2, rfl, hc2, hc2'⟩ := hps.form
  obtain ⟨A3, c3, rfl, hc3, hc3'⟩ := hr.globals.form
  have HR := Lib.hid hr
  have HP := Lib.hid hps
  have HK := Lib.hid hks
  have HL := Lib.hid hl
  have hT := ofTn_le c.globals hl.globals
  have hC := hl.consts
  obtain ⟨t, ht⟩ : ∃ t, t = ofTn c.globals := ⟨_, rfl⟩
  have HT := Lib.hid ht
  rw [← ht] at hT
  have HO : ∀ W, Same [] w W → Hid (Calls Tryz.prog 25 #[.slice A3 c.globals.length c3] W fun e w' => e = .returned (.int .i64 t) ∧ W = w') := fun W hs => Lib.hid (by rw [ht]; exact ofTexts_any _ _ (HR.out.globals.frame hs) HL.out.globals)
  have HO' : Hid (∀ W, Same [] w W → Calls Tryz.prog 25 #[.slice A3 c.globals.length c3] W fun e w' => e = .returned (.int .i64 t) ∧ w' = W) := Lib.hid (fun W hs => ((HO W hs).out).mono fun e w' h => ⟨h.1, h.2.symm⟩)
  have hw1 : IntKind.i64.wrap ((c.consts.length : Int) + (t : Int)) = (c.consts.length : Int) + (t : Int) := IntWalk.i64_in _ (by omega)
  unfold maxLen at hc1' hc2' hc3'
  clear hr hps hks hl ht HO
  go_enter Tryz.func9, Tryz.ntmps9
  go_wp2_with fail
  go_quiet ((go_at_call 25; exact Calls.quiet_of_same (HO'.out _ (((Same.refl _ _).alloc _).drewN _))))
  go_wp2_with fail
  go_loopg [3, 4] c.procs.length (fun gk n i wr => ∃ k : Nat, k ≤ c.procs.length ∧ gk = c.procs.length - k ∧ i = .int .i64 k ∧ (∃ m : Nat, n = .int .i64 m ∧ cntL ((ofP c.procs).drop k) m = ofCn c ∧ m ≤ 562949953421312) ∧ Blk wr w.heap.size 26 [.slice A1 c.consts.length c1, .slice A2 c.procs.length c2, .slice A3 c.globals.length c3] ∧ Same [] w wr)
  case atStart => exact ⟨0, Nat.zero_le _, rfl, rfl, ⟨c.consts.length + t, by go_num, by rw [HT.out]; rfl, by omega⟩, Blk.frame (Blk.new w _ _) ((Same.refl [] _).drewN _) (by simp), ((Same.refl _ _).alloc _).drewN _⟩
  case round =>
    obtain ⟨k, hk, rfl, rfl, ⟨m, rfl, hm, hmb⟩, hb, hs⟩ := hrel
    have HM := Lib.hid hm
    have HB := Lib.hid hb
    have HS := Lib.hid hs
    have p1 := hb.cell 1
    clear hm hb hs hw1
    by_cases hlt : k < c.procs.length
    · by_cases hbd : m ≤ 2147483647
      · obtain ⟨b, off, cap2, he, _, _, hbb, hcell⟩ := HP.out.lit (by omega)
        injection he with he1 _ he3
        subst he1 he3
        obtain ⟨B, bc, hkv, _, hbc⟩ := (HK.out k hlt).form
        have hck : wr.cell? ⟨b, off + k * 2 + 1, none⟩ = some (.slice B (c.procs.getD k ⟨0, []⟩).code.length bc) := by
          rw [HS.out.cell hbb (by simp), ← hkv]
          have := hcell k 1 hlt (by omega)
          rw [fP, if_neg (by omega)] at this
          exact this
        have hz : (c.procs.getD k ⟨0, []⟩).code.length ≤ 140737488351232 := HL.out.procs _ (by rw [List.getD, List.getElem?_eq_getElem hlt]; exact List.getElem_mem _)
        obtain ⟨q, hq⟩ : ∃ q, q = (c.procs.getD k ⟨0, []⟩).code.length := ⟨_, rfl⟩
        rw [← hq] at hck hz
        have HQ := Lib.hid hq
        clear hcell hq hkv hbc
        go_wp2_with fail
        go_roundg (c.procs.length - (k + 1))
        case measure => omega
        case rel =>
          refine ⟨k + 1, by omega, rfl, by go_num, ⟨m + (1 + q), by go_num, ?_, by omega⟩, HB.out, HS.out⟩
          have := cntL_at (ofP c.procs) k m (by rw [ofP, List.length_map]; exact hlt) hbd
          rw [ofP_at c.procs k hlt, ← HQ.out] at this
          rw [← this, HM.out]
      · go_wp2_with fail
        go_ret
        exact ⟨by rw [← HM.out, cntL_over _ _ hbd]; rfl, HS.out⟩
    · obtain rfl : k = c.procs.length := by omega
      go_wp2_with fail
      go_ret
      exact ⟨by rw [← HM.out, cntL_end _ _ _ (by rw [ofP, List.length_map]; omega)]; rfl, HS.out⟩
end Ck
end Go.Proofs.YticaipedpcmhfaaGreatDoor
