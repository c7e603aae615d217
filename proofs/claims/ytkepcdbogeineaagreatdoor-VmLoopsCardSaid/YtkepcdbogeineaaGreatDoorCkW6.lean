/- Layer 8, package code: named. -/
import Derived.Test.YtkepcdbogeineaaGreatDoorCkW1
import Derived.Test.YtkepcdbogeineaaGreatDoorCkW2
import Derived.Deep.LoopGhost
namespace Go.Proofs.YtkepcdbogeineaaGreatDoor
open Go.RowKit Hp
namespace Ck
variable {w w' : World}

theorem Sq.lit {v : Value} {n size : Nat} {f : Nat → Nat → Value} (h : Sq w v n size f) (hn : 0 < n) : ∃ b off cap, v = .slice (some ⟨b, off, none⟩) n cap ∧ n ≤ cap ∧ cap ≤ maxLen ∧ b < w.heap.size ∧ ∀ i j, i < n → j < size → w.cell? ⟨b, off + i * size + j, none⟩ = some (f i j) := by
  obtain ⟨A, cap, rfl, h1, h2, h3⟩ := h
  obtain ⟨b, off, rfl, hb, hc⟩ := h3 hn
  exact ⟨b, off, cap, rfl, h1, h2, hb, hc⟩
theorem Sq.form {v : Value} {n size : Nat} {f : Nat → Nat → Value} (h : Sq w v n size f) : ∃ A cap, v = .slice A n cap ∧ n ≤ cap ∧ cap ≤ maxLen := by
  obtain ⟨A, cap, rfl, h1, h2, _⟩ := h
  exact ⟨A, cap, rfl, h1, h2⟩

def constOk (x : Int) : Bool := Cd.isWord x && Cd.wordT x != 8
def globOk (l : List ByteArray) (i : Nat) : Bool := Cd.sym (l.getD i ByteArray.empty) && !Lib.containsS (l.take i) (l.getD i ByteArray.empty)

theorem named_no1 (c : Cd.Co) (k : Nat) (hk : k < c.consts.length) (h : constOk (c.consts.getD k 0) = false) : Cd.named Cd.sym c = false := by
  have : c.consts.all constOk = false := by
    rw [List.all_eq_false]
    refine ⟨c.consts[k], List.getElem_mem _, ?_⟩
    rw [List.getD, List.getElem?_eq_getElem hk] at h
    simpa using h
  unfold Cd.named
  unfold constOk at this
  rw [this]; rfl
theorem named_no2 (c : Cd.Co) (k : Nat) (hk : k < c.globals.length) (h : globOk c.globals k = false) : Cd.named Cd.sym c = false := by
  unfold Cd.named
  unfold globOk at h
  rcases Bool.and_eq_false_iff.1 h with h | h
  · have : c.globals.all Cd.sym = false := by
      rw [List.all_eq_false]
      refine ⟨c.globals[k], List.getElem_mem _, ?_⟩
      rw [List.getD, List.getElem?_eq_getElem hk] at h
      simpa using h
    rw [this]; simp
  · have : (List.range c.globals.length).all (fun i => !Lib.containsS (c.globals.take i) (c.globals.getD i ByteArray.empty)) = false := by
      rw [List.all_eq_false]
      exact ⟨k, List.mem_range.2 hk, by simpa using h⟩
    rw [this]; simp
theorem named_yes (c : Cd.Co) (h1 : ∀ k, k < c.consts.length → constOk (c.consts.getD k 0) = true) (h2 : ∀ k, k < c.globals.length → globOk c.globals k = true) : Cd.named Cd.sym c = true := by
  unfold Cd.named
  have e1 : c.consts.all (fun w => Cd.isWord w && Cd.wordT w != 8) = true := by
    rw [List.all_eq_true]
    intro x hx
    obtain ⟨k, hk, rfl⟩ := List.getElem_of_mem hx
    have := h1 k hk
    rw [List.getD, List.getElem?_eq_getElem hk] at this
    exact this
  have e2 : c.globals.all Cd.sym = true := by
    rw [List.all_eq_true]
    intro x hx
    obtain ⟨k, hk, rfl⟩ := List.getElem_of_mem hx
    have := h2 k hk
    unfold globOk at this
    rw [List.getD, List.getElem?_eq_getElem hk] at this
    exact (Bool.and_eq_true_iff.1 this).1
  have e3 : (List.range c.globals.length).all (fun i => !Lib.containsS (c.globals.take i) (c.globals.getD i ByteArray.empty)) = true := by
    rw [List.all_eq_true]
    intro x hx
    have := h2 x (List.mem_range.1 hx)
    unfold globOk at this
    exact (Bool.and_eq_true_iff.1 this).2
  rw [e1, e2, e3]; rfl

set_option maxHeartbeats 4000000 in
set_option maxRecDepth 100000 in
theorem named_any (cv pv gv : Value) (c : Cd.Co) (hr : RCoAt w cv pv gv c) (hw : WCo c) (hv : Vars w) (hl : c.consts.length ≤ 1024 ∧ c.globals.length ≤ 64) : Calls Tryz.prog 38 #[.agg #[cv, pv, gv]] w fun e w' => e = .returned (.bool (Cd.named Cd.sym c)) ∧ Same [] w w' := by
  obtain ⟨A1, c1, rfl, ha1, ha2⟩ := hr.consts.form
  obtain ⟨kv, hps, _⟩ := hr.procs
  obtain ⟨A2, c2, rfl, _, _⟩ := hps.form
  obtain ⟨A3, c3, rfl, hc1, hc2⟩ := hr.globals.form
  obtain ⟨hl1, hl2⟩ := hl
  have HR := Lib.hid hr
  have HW := Lib.hid hw
  have HV := Lib.hid hv
  unfold maxLen at ha2 hc2
  clear hr hw hv hps
  go_enter Tryz.func38, Tryz.ntmps38
  go_wp2
  go_loop [4, 5, 6, 7, 13] (fun _ _ _ _ i => ∃ k : Nat, k ≤ c.consts.length ∧ i = .int .i64 k ∧ ∀ j, j < k → constOk (c.consts.getD j 0) = true) (fun _ _ _ _ i => c.consts.length - (intOf i).toNat)
  case atStart => exact ⟨0, Nat.zero_le _, rfl, by omega⟩
  case round =>
    obtain ⟨k, hk, rfl, hall⟩ := hrel
    have HA := Lib.hid hall
    clear hall
    by_cases hlt : k < c.consts.length
    · obtain ⟨b, off, cap, he, _, _, hb, hcell⟩ := HR.out.consts.lit (by omega)
      injection he with he1 _ he3
      subst he1 he3
      obtain ⟨x, hx⟩ : ∃ x, c.consts.getD k 0 = x := ⟨_, rfl⟩
      have hck : w.cell? ⟨b, off + k, none⟩ = some (.int .u64 x) := by
        have := hcell k 0 hlt (by omega)
        rw [Nat.mul_one, Nat.add_zero] at this
        rw [this, fW, hx]
      have hxr : 0 ≤ x ∧ x < 18446744073709551616 := HW.out.consts x (by rw [← hx, List.getD, List.getElem?_eq_getElem hlt]; exact List.getElem_mem _)
      have hof := fun w hv => of_any (w := w) x hxr hv
      have HX := Lib.hid hx
      have hof' := hof _ (HV.out.frame ((Same.refl [] w).alloc (.cells #[.slice (some ⟨b, off, none⟩) c.consts.length c1, .slice A2 c.procs.length c2, .slice A3 c.globals.length c3] 27)) (by simp))
      clear hcell hx hxr hof
      cases hiw : Cd.isWord x
      · rw [hiw, if_neg (by simp)] at hof'
        have HOF := Lib.hid hof'
        have HIW := Lib.hid hiw
        clear hof' hiw
        go_wp2_with (go_at_call 62; refine HOF.out.mono ?_; rintro e w' ⟨rfl, rfl⟩)
        go_ret
        exact ⟨ret_bool (by rw [named_no1 c k hlt (by unfold constOk; rw [HX.out, HIW.out]; rfl)]), (Same.refl _ _).alloc _⟩
      · rw [hiw, if_pos rfl] at hof'
        have HOF := Lib.hid hof'
        have HIW := Lib.hid hiw
        clear hof' hiw
        cases h8 : Cd.wordT x == 8
        · go_wp2_with (go_at_call 62; refine HOF.out.mono ?_; rintro e w' ⟨rfl, rfl⟩)
          have H8 := Lib.hid h8
          go_round
          case rel =>
            refine ⟨k + 1, by omega, by go_num, fun j hj => ?_⟩
            rcases Nat.lt_or_eq_of_le (Nat.le_of_lt_succ hj) with h | h
            · exact HA.out j h
            · subst h
              unfold constOk
              rw [HX.out, HIW.out, bne, H8.out]; rfl
          case measure => simp [intOf]; omega
        · go_wp2_with (go_at_call 62; refine HOF.out.mono ?_; rintro e w' ⟨rfl, rfl⟩)
          go_ret
          exact ⟨ret_bool (by rw [named_no1 c k hlt (by unfold constOk; rw [HX.out, HIW.out, bne, h8]; rfl)]), (Same.refl _ _).alloc _⟩
    · have HALL1 : Hid (∀ j, j < c.consts.length → constOk (c.consts.getD j 0) = true) := Lib.hid (fun j hj => HA.out j (by omega))
      clear HA
      go_wp2
      go_loopg [8, 9, 33] c.globals.length (fun gk _ _ i wr => ∃ k : Nat, k ≤ c.globals.length ∧ gk = c.globals.length - k ∧ i = .int .i64 k ∧ Same [] (w.alloc (.cells #[.slice A1 c.consts.length c1, .slice A2 c.procs.length c2, .slice A3 c.globals.length c3] 27)) wr ∧ ∀ j, j < k → globOk c.globals j = true)
      case atStart => exact ⟨0, Nat.zero_le _, rfl, rfl, Same.refl _ _, by omega⟩
      case round =>
        obtain ⟨k2, hk2, rfl, rfl, hsame, hall⟩ := hrel
        have HA := Lib.hid hall
        have HS := Lib.hid hsame
        have hbox := (Blk.new w 27 [.slice A1 c.consts.length c1, .slice A2 c.procs.length c2, .slice A3 c.globals.length c3]).frame hsame (by simp)
        have hbx := hbox.cell 2
        have hbz := hbox.lt
        clear hall hsame hbox
        by_cases hlt2 : k2 < c.globals.length
        · obtain ⟨b, off, cap, he, _, _, hb, hcell⟩ := HR.out.globals.lit (by omega)
          injection he with he1 _ he3
          subst he1 he3
          have hsw : Same [] w wr := ((Same.refl [] w).alloc _).trans HS.out
          obtain ⟨x, hx⟩ : ∃ x, c.globals.getD k2 ByteArray.empty = x := ⟨_, rfl⟩
          have hcells : ∀ j, j < c.globals.length → wr.cell? ⟨b, off + j, none⟩ = some (.string (c.globals.getD j ByteArray.empty)) := fun j hj => by
            have := hcell j 0 hj (by omega)
            rw [Nat.mul_one, Nat.add_zero] at this
            rw [hsw.cell hb (by simp), this, fS]
          have hck := hcells k2 hlt2
          rw [hx] at hck
          have hxs : x.size ≤ 281474976710656 := HW.out.globals x (by rw [← hx, List.getD, List.getElem?_eq_getElem hlt2]; exact List.getElem_mem _)
          have hbw : b < wr.heap.size := Nat.lt_of_lt_of_le hb hsw.size
          have HIS := Lib.hid (isSymbol_any (w := wr) x hxs)
          have HCON : Hid (∀ W, Same [] wr W → Calls Tryz.prog 64 #[.slice (some ⟨b, off, none⟩) k2 c3, .string x] W fun e w' => e = .returned (.bool (Lib.containsS (c.globals.take k2) x)) ∧ w' = W) := Lib.hid (fun W hs => Tryz.slices_Contains_string b off k2 c3 c.globals x W (Nat.le_of_lt hlt2) (by omega) (fun j hj => by rw [hs.cell hbw (by simp)]; exact hcells j hj))
          have HX := Lib.hid hx
          have HSW := Lib.hid hsw
          clear hcell hcells hx hxs hsw
          cases hsy : Cd.sym x
          · have HSY := Lib.hid hsy
            rw [hsy] at HIS
            clear hsy
            go_wp2_with fail
            refine HIS.out.mono ?_
            rintro e w2 ⟨rfl, hs2⟩
            have HS2 := Lib.hid hs2
            clear hs2
            go_wp2_with fail
            go_ret
            exact ⟨ret_bool (by rw [named_no2 c k2 hlt2 (by unfold globOk; rw [HX.out, HSY.out]; rfl)]), HSW.out.trans HS2.out⟩
          · have HSY := Lib.hid hsy
            rw [hsy] at HIS
            clear hsy
            go_wp2_with fail
            refine HIS.out.mono ?_
            rintro e w2 ⟨rfl, hs2⟩
            have hbx2 := (hs2.cell hbz (by simp)).trans hbx
            have HS2 := Lib.hid hs2
            have HCON2 := Lib.hid (HCON.out w2 hs2)
            clear hs2
            cases hct : Lib.containsS (c.globals.take k2) x
            · have HCT := Lib.hid hct
              rw [hct] at HCON2
              clear hct
              go_wp2_with fail
              refine HCON2.out.mono ?_
              rintro e w3 ⟨rfl, rfl⟩
              go_wp2_with fail
              go_roundg (c.globals.length - (k2 + 1))
              case measure => omega
              case rel =>
                refine ⟨k2 + 1, by omega, rfl, by go_num, HS.out.trans HS2.out, fun j hj => ?_⟩
                rcases Nat.lt_or_eq_of_le (Nat.le_of_lt_succ hj) with h | h
                · exact HA.out j h
                · subst h
                  unfold globOk
                  rw [HX.out, HSY.out, HCT.out]; rfl
            · have HCT := Lib.hid hct
              rw [hct] at HCON2
              clear hct
              go_wp2_with fail
              refine HCON2.out.mono ?_
              rintro e w3 ⟨rfl, rfl⟩
              go_wp2_with fail
              go_ret
              exact ⟨ret_bool (by rw [named_no2 c k2 hlt2 (by unfold globOk; rw [HX.out, HSY.out, HCT.out]; rfl)]), HSW.out.trans HS2.out⟩
        · have HALL2 : Hid (∀ j, j < c.globals.length → globOk c.globals j = true) := Lib.hid (fun j hj => HA.out j (by omega))
          go_wp2
          go_ret
          exact ⟨ret_bool (named_yes c HALL1.out HALL2.out).symm, ((Same.refl [] w).alloc _).trans HS.out⟩
end Ck
end Go.Proofs.YtkepcdbogeineaaGreatDoor
