/- Layer 8, the document's answer: numbers, what a text begins with. -/
import Derived.Test.YticaipedpcmhfaaGreatDoorCkA11
import Derived.Test.YticaipedpcmhfaaGreatDoorCdN
namespace Go.Proofs.YticaipedpcmhfaaGreatDoor
open Go.RowKit Hp
namespace Ck
variable {w w' : World}

theorem bytes_eq {a b : ByteArray} (h : a.data.toList = b.data.toList) : a = b := WideShapes.bytes_inj h
theorem ext_drop (s : ByteArray) (k : Nat) : s.extract k s.size = bs (s.data.toList.drop k) := bytes_eq (by rw [Lib.extract_to_end]; rfl)
theorem ext_take (s : ByteArray) (k : Nat) (h : k ≤ s.size) : (s.extract 0 k).toList = s.data.toList.take k := by
  rw [Lib.toList_data]
  simp [ByteArray.extract, ByteArray.copySlice]
theorem pre_take (s p : List UInt8) : Lib.hasPrefix s p = (decide (p.length ≤ s.length) && (s.take p.length == p)) := by
  rw [Bool.eq_iff_iff]
  unfold Lib.hasPrefix
  rw [List.isPrefixOf_iff_prefix, Bool.and_eq_true, decide_eq_true_iff, beq_iff_eq]
  refine ⟨fun ⟨r, h⟩ => ?_, fun ⟨h1, h2⟩ => ⟨s.drop p.length, ?_⟩⟩
  · subst h
    exact ⟨by simp, by simp⟩
  · conv => rhs; rw [← List.take_append_drop p.length s]
    rw [h2]

set_option maxHeartbeats 1000000 in
theorem cutR_any (s p : ByteArray) (hs : s.size ≤ 281474976710656) (x : Bool) (hx : Lib.hasPrefix s.data.toList p.data.toList = x) (hp : p.size ≤ 100) : Calls Tryz.prog 102 #[.string s, .string p] w fun e w' => e = .returned (.tuple #[.string (if x then bs (s.data.toList.drop p.size) else ⟨#[]⟩), .bool x]) ∧ w = w' := by
  rw [pre_take] at hx
  have e1 : p.data.toList.length = p.size := by simp
  have e2 : s.data.toList.length = s.size := by simp
  rw [e1, e2] at hx
  by_cases h : s.size < p.size
  · have : x = false := by rw [← hx, decide_eq_false (by omega)]; rfl
    subst this
    clear hx
    go_enter Tryz.func102, Tryz.ntmps102
    go_wp2_with fail
    go_ret2
    exact ⟨rfl, rfl⟩
  · have h' : p.size ≤ s.size := by omega
    rw [decide_eq_true h', Bool.true_and, ← ext_take s p.size h', ← Lib.toList_data p] at hx
    have hr := ext_drop s p.size
    cases x
    · have hne : ((s.extract 0 p.size).toList != p.toList) = true := by rw [bne, hx]; rfl
      clear h hr
      go_enter Tryz.func102, Tryz.ntmps102
      go_wp2_with fail
      go_ret2
      exact ⟨rfl, rfl⟩
    · have hne : ((s.extract 0 p.size).toList != p.toList) = false := by rw [bne, hx]; rfl
      rw [← hr]
      clear h hr
      go_enter Tryz.func102, Tryz.ntmps102
      go_wp2_with fail
      go_ret2
      exact ⟨rfl, rfl⟩

/-- What number answers. -/
def numV (o : Option Nat) : Value := match o with | some n => .tuple #[.int .i64 (n : Int), .bool true] | none => .tuple #[.int .i64 0, .bool false]

set_option maxHeartbeats 2000000 in
theorem numR_any (s : ByteArray) (hs : s.size ≤ 281474976710656) : Calls Tryz.prog 127 #[.string s] w fun e w' => e = .returned (numV (Cd.numT s.data.toList)) ∧ w = w' := by
  have hlen : s.data.toList.length = s.size := by simp
  by_cases h0 : 0 < s.size
  · have hne : s.data.toList ≠ [] := fun e => by rw [e] at hlen; simp at hlen; omega
    have hbe : s.toList.isEmpty = false := by rw [Lib.toList_data, some_byte s h0]
    have hbn : s.toList = [] ↔ False := by
      rw [Lib.toList_data]
      exact ⟨fun h => hne h, False.elim⟩
    by_cases h19 : 19 < s.size
    · have hT : Cd.numT s.data.toList = none := by unfold Cd.numT; rw [if_pos (.inr (.inl (by omega)))]
      rw [hT]
      clear hT hne hlen
      go_enter Tryz.func127, Tryz.ntmps127
      go_wp2_with fail
      go_ret2
      exact ⟨rfl, rfl⟩
    · have h19' : s.size ≤ 19 := by omega
      by_cases hz : s[0].toNat = 48 ∧ 1 < s.size
      · have hT : Cd.numT s.data.toList = none := by unfold Cd.numT; rw [if_pos (.inr (.inr ⟨by rw [getD_zero s h0]; exact hz.1, by omega⟩))]
        have hz1 : ((s[0].toNat : Int) == 48) = true := by rw [hz.1]; rfl
        have hz2 : 1 < s.size := hz.2
        rw [hT]
        clear hT hne hlen hz h19
        go_enter Tryz.func127, Tryz.ntmps127
        go_wp2_with fail
        go_ret2
        exact ⟨rfl, rfl⟩
      · have hT : Cd.numT s.data.toList = Cd.numF s.data.toList 0 := by
          unfold Cd.numT
          rw [if_neg]
          rintro (h | h | ⟨h, h2⟩)
          · exact hne h
          · omega
          · rw [getD_zero s h0] at h
            exact hz ⟨h, by omega⟩
        obtain ⟨g, hg⟩ : ∃ g, ((s[0].toNat : Int) == 48) = g := ⟨_, rfl⟩
        have hg1 : g = true → s.size ≤ 1 := fun e => by
          rw [e] at hg
          have := eq_of_beq hg
          rcases Nat.lt_or_ge 1 s.size with h | h
          · exact absurd ⟨by omega, h⟩ hz
          · exact h
        obtain ⟨R, hR⟩ : ∃ R, Cd.numF s.data.toList 0 = R := ⟨_, rfl⟩
        rw [hT, hR]
        have HR := Lib.hid hR
        have HLEN := Lib.hid hlen
        clear hT hne hlen hz h19 hR
        cases g
        all_goals
          first | have hg2 := hg1 rfl | skip
          clear hg1
          go_enter Tryz.func127, Tryz.ntmps127
          go_wp2_with fail
          go_loop [4, 5] (fun n i => ∃ (k a : Nat), k ≤ s.size ∧ i = .int .i64 k ∧ n = .int .i64 a ∧ a ≤ 5764607523034234889 ∧ Cd.numF (s.data.toList.drop k) a = R) (fun _ i => s.size - (intOf i).toNat)
          case atStart => exact ⟨0, 0, Nat.zero_le _, rfl, rfl, by omega, HR.out⟩
          case round =>
            obtain ⟨k, a, hk, rfl, rfl, ha, hF⟩ := hrel
            have HF := Lib.hid hF
            clear hF
            by_cases hlt : k < s.size
            · have hdr : s.data.toList.drop k = s[k] :: s.data.toList.drop (k + 1) := by
                rw [← byte_at s k hlt]
                exact List.drop_eq_getElem_cons (by simpa using hlt)
              have HN : Hid ((if s[k].toNat < 48 ∨ 57 < s[k].toNat ∨ 576460752303423488 < a then none else Cd.numF (s.data.toList.drop (k + 1)) (10 * a + (s[k].toNat - 48))) = R) := Lib.hid (by
                have := HF.out
                rw [hdr] at this
                exact this)
              clear hdr
              have hc256 := s[k].toNat_lt
              by_cases g1 : s[k].toNat < 48
              · have HE : Hid (none = R) := Lib.hid (by have := HN.out; rwa [if_pos (.inl g1)] at this)
                go_wp2_with fail
                go_ret2
                rw [← HE.out]
                exact ⟨rfl, rfl⟩
              · have g1' : 48 ≤ s[k].toNat := by omega
                by_cases g2 : 57 < s[k].toNat
                · have HE : Hid (none = R) := Lib.hid (by have := HN.out; rwa [if_pos (.inr (.inl g2))] at this)
                  clear g1
                  go_wp2_with fail
                  go_ret2
                  rw [← HE.out]
                  exact ⟨rfl, rfl⟩
                · have g2' : s[k].toNat ≤ 57 := by omega
                  by_cases g3 : 576460752303423488 < a
                  · have HE : Hid (none = R) := Lib.hid (by have := HN.out; rwa [if_pos (.inr (.inr g3))] at this)
                    clear g1 g2
                    go_wp2_with fail
                    go_ret2
                    rw [← HE.out]
                    exact ⟨rfl, rfl⟩
                  · have g3' : a ≤ 576460752303423488 := by omega
                    have HE : Hid (Cd.numF (s.data.toList.drop (k + 1)) (10 * a + (s[k].toNat - 48)) = R) := Lib.hid (by have := HN.out; rwa [if_neg (by omega)] at this)
                    have hb : (((s[k].toNat : Nat) : Int) - 48) % 256 = s[k].toNat - 48 := by omega
                    clear g1 g2 g3
                    go_wp2_with fail
                    go_round
                    case rel => exact ⟨k + 1, 10 * a + (s[k].toNat - 48), by omega, by go_num, by congr 1; omega, by omega, HE.out⟩
                    case measure => simp [intOf]; omega
            · have HE : Hid (some a = R) := Lib.hid (by have := HF.out; rw [List.drop_of_length_le (by rw [HLEN.out]; omega)] at this; exact this)
              go_wp2_with fail
              go_ret2
              rw [← HE.out]
              exact ⟨rfl, rfl⟩
  · have hT : Cd.numT s.data.toList = none := by unfold Cd.numT; rw [if_pos (.inl (no_byte s h0))]
    have hbn : s.toList = [] := by rw [Lib.toList_data, no_byte s h0]
    rw [hT]
    clear hT hlen
    go_enter Tryz.func127, Tryz.ntmps127
    go_wp2_with fail
    go_ret2
    exact ⟨rfl, rfl⟩

/-- small: a place. -/
def intV (o : Option Int) (v : Value) : Prop := ∃ n : Int, v = .tuple #[.int .i64 n, .bool o.isSome] ∧ in64 n ∧ ∀ x, o = some x → n = x
set_option maxHeartbeats 1000000 in
theorem smallR_any (s : ByteArray) (hs : s.size ≤ 281474976710656) : Calls Tryz.prog 104 #[.string s] w fun e w' => ∃ v, e = .returned v ∧ intV (Cd.placeT s.data.toList) v ∧ w = w' := by
  rw [← Cd.smallT_eq]
  unfold Cd.smallT
  have HN := fun W => numR_any (w := W) s hs
  cases hn : Cd.numT s.data.toList with
  | none =>
    rw [hn] at HN
    clear hn
    go_enter Tryz.func104, Tryz.ntmps104
    go_wp2_with fail
    refine (HN _).mono ?_
    rintro e w2 ⟨rfl, rfl⟩
    unfold numV
    go_wp2_with fail
    go_ret2
    exact ⟨_, rfl, ⟨0, rfl, by unfold in64; omega, fun x h => by cases h⟩, rfl⟩
  | some n =>
    have hb := (Cd.numT_back hn).2
    rw [hn] at HN
    clear hn
    dsimp only
    by_cases hle : n ≤ 2147483647
    · rw [if_pos hle]
      have hd : decide ((n : Int) ≤ 2147483647) = true := decide_eq_true (by omega)
      clear hle
      go_enter Tryz.func104, Tryz.ntmps104
      go_wp2_with fail
      refine (HN _).mono ?_
      rintro e w2 ⟨rfl, rfl⟩
      unfold numV
      go_wp2_with fail
      go_ret2
      exact ⟨_, rfl, ⟨n, rfl, by unfold in64; omega, fun x h => Option.some.inj h⟩, rfl⟩
    · rw [if_neg hle]
      have hd : decide ((n : Int) ≤ 2147483647) = false := decide_eq_false (by omega)
      clear hle
      go_enter Tryz.func104, Tryz.ntmps104
      go_wp2_with fail
      refine (HN _).mono ?_
      rintro e w2 ⟨rfl, rfl⟩
      unfold numV
      go_wp2_with fail
      go_ret2
      exact ⟨_, rfl, ⟨n, rfl, by unfold in64; omega, fun x h => by cases h⟩, rfl⟩
end Ck
end Go.Proofs.YticaipedpcmhfaaGreatDoor
