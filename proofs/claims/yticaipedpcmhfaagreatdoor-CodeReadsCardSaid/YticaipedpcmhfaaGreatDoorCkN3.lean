/- Layers 1 and 8, the document's answer: Make; the constant of a line. -/
import Derived.Test.YticaipedpcmhfaaGreatDoorCkN2
import Derived.Test.YticaipedpcmhfaaGreatDoorCkP4
import Derived.Deep.LoopGhost
namespace Go.Proofs.YticaipedpcmhfaaGreatDoor
open Go.RowKit Hp
namespace Ck
variable {w w' : World}

theorem ret_u64e {a b c : Int} (h : a = b) : Ending.returned (.tuple #[.int .u64 a, .int .i64 c]) = .returned (.tuple #[.int .u64 b, .int .i64 c]) := by rw [h]

theorem wrap_word (n : Int) (t : Nat) : IntKind.u64.wrap (IntKind.u64.wrap (IntKind.u64.wrap n * 16) + t) = Cd.wordOf t n := by
  rw [IntKind.wrap_u64, IntKind.wrap_u64, IntKind.wrap_u64]
  unfold Cd.wordOf
  omega

set_option maxHeartbeats 2000000 in
theorem makeR_any (t : Nat) (n : Int) (ht : 1 ≤ t ∧ t ≤ 8) (hn : in64 n) : Calls Tryz.prog 126 #[.int .u8 t, .int .i64 n] w fun e w' => e = .returned (.tuple (if Cd.may t n then #[.int .u64 (Cd.wordOf t n), .int .i64 0] else #[.int .u64 0, .int .i64 11])) ∧ w = w' := by
  have HM := fun W => mayR_any (w := W) t n (by omega)
  rw [decide_eq_true ht, Bool.true_and] at HM
  obtain ⟨g, hg⟩ : ∃ g, Cd.may t n = g := ⟨_, rfl⟩
  rw [hg] at HM ⊢
  obtain ⟨h1, h2⟩ := ht
  unfold in64 at hn
  obtain ⟨h3, h4⟩ := hn
  clear hg
  cases g
  · go_enter Tryz.func126, Tryz.ntmps126
    go_wp2_with fail
    refine (HM _).mono ?_
    rintro e w2 ⟨rfl, rfl⟩
    go_wp2_with fail
    go_ret2
    exact ⟨rfl, rfl⟩
  · rw [if_pos rfl]
    go_enter Tryz.func126, Tryz.ntmps126
    go_wp2_with fail
    refine (HM _).mono ?_
    rintro e w2 ⟨rfl, rfl⟩
    go_wp2_with fail
    go_ret2
    refine ⟨?_, rfl⟩
    rw [← wrap_word n t]
    rfl

theorem wordOf_u64 (t n : Int) : 0 ≤ Cd.wordOf t n ∧ Cd.wordOf t n < 18446744073709551616 := by unfold Cd.wordOf; omega
/-- The tags without a number, one by one. -/
def plainFrom (k : Nat) (s : List UInt8) : Option Int := Cd.constFrom ((List.range' (k + 1) (7 - k))) s
theorem constFrom_plain (k : Nat) (hk : k < 4) (s : List UInt8) : plainFrom k s = if s = Cd.tagL.getD (k + 1) [] then some (Cd.wordOf (k + 1 : Nat) 0) else plainFrom (k + 1) s := by
  have h : k = 0 ∨ k = 1 ∨ k = 2 ∨ k = 3 := by omega
  rcases h with rfl | rfl | rfl | rfl <;> rfl
/-- .. with one. -/
theorem constFrom_num (k : Nat) (h1 : 4 ≤ k) (h2 : k < 7) (s : List UInt8) : plainFrom k s = if Lib.hasPrefix s (Cd.tagL.getD (k + 1) []) = true then Cd.wordNT (k + 1 : Nat) (s.drop (Cd.tagL.getD (k + 1) []).length) else plainFrom (k + 1) s := by
  rw [Cd.wordNT_eq _ (by omega)]
  have h : k = 4 ∨ k = 5 ∨ k = 6 := by omega
  rcases h with rfl | rfl | rfl <;> rfl

set_option maxHeartbeats 4000000 in
set_option maxRecDepth 100000 in
theorem wordCR_any (s : ByteArray) (hs : s.size ≤ 281474976710656) : Calls Tryz.prog 103 #[.string s] w (Got (Cd.constR s.data.toList) (fun n => .int .u64 n) isU64 w) := by
  obtain ⟨R, hR⟩ : ∃ R, Cd.constR s.data.toList = R := ⟨_, rfl⟩
  have h0 : plainFrom 0 s.data.toList = R := hR
  rw [hR]
  have HMK := fun (t : Nat) n (h1 : 1 ≤ t ∧ t ≤ 8) h2 W => makeR_any (w := W) t n h1 h2
  have H0 := Lib.hid h0
  clear hR h0
  go_enter Tryz.func103, Tryz.ntmps103
  go_wp2_with fail
  go_loopg [6] 4 (fun gk i wr => ∃ k : Nat, k ≤ 4 ∧ gk = 4 - k ∧ i = .int .i64 k ∧ plainFrom k s.data.toList = R ∧ wr = (w.alloc (.cells #[.int .u8 1, .int .u8 2, .int .u8 3, .int .u8 4] 70)).alloc (.cells #[.string ⟨#[110, 105, 108]⟩, .string ⟨#[102, 97, 108, 115, 101]⟩, .string ⟨#[116, 114, 117, 101]⟩, .string ⟨#[110, 111, 110, 101]⟩] 9))
  case atStart => exact ⟨0, by omega, rfl, rfl, H0.out, rfl⟩
  case round =>
    obtain ⟨k, hk, rfl, rfl, hF, rfl⟩ := hrel
    have HF := Lib.hid hF
    clear hF H0
    by_cases hlt : k < 4
    · have hc : k = 0 ∨ k = 1 ∨ k = 2 ∨ k = 3 := by omega
      have HN : Hid ((if s.data.toList = Cd.tagL.getD (k + 1) [] then some (Cd.wordOf (k + 1 : Nat) 0) else plainFrom (k + 1) s.data.toList) = R) := Lib.hid (by rw [← constFrom_plain k hlt]; exact HF.out)
      clear HF
      rcases hc with rfl | rfl | rfl | rfl
      · have HN' : Hid ((if s.data.toList = [110, 105, 108] then some (Cd.wordOf 1 0) else plainFrom 1 s.data.toList) = R) := HN
        cases hq : (s.toList == [110, 105, 108])
        · have HE : Hid (plainFrom 1 s.data.toList = R) := Lib.hid (by
            have := HN'.out
            rwa [if_neg (fun e => by rw [Lib.toList_data, e] at hq; exact absurd hq (by decide))] at this)
          go_wp2_with fail
          go_roundg (4 - 1)
          case measure => omega
          case rel => exact ⟨1, by omega, rfl, by go_num, HE.out, rfl⟩
        · have HE : Hid (some (Cd.wordOf 1 0) = R) := Lib.hid (by
            have := HN'.out
            rwa [if_pos (by rw [← Lib.toList_data]; exact eq_of_beq hq)] at this)
          have hmk := HMK 1 0 (by omega) (by unfold in64; omega)
          rw [show Cd.may ((1 : Nat) : Int) 0 = true from rfl, if_pos rfl] at hmk
          go_wp2_with fail
          refine (hmk _).mono ?_
          rintro e w2 ⟨rfl, rfl⟩
          go_wp2_with fail
          go_ret2
          rw [← HE.out]
          exact ⟨_, rfl, ⟨_, rfl, wordOf_u64 _ _⟩, fun x hx => by injection hx with hx; rw [← hx]; rfl, ((Same.refl _ _).alloc _).alloc _⟩
      · have HN' : Hid ((if s.data.toList = [102, 97, 108, 115, 101] then some (Cd.wordOf 2 0) else plainFrom 2 s.data.toList) = R) := HN
        cases hq : (s.toList == [102, 97, 108, 115, 101])
        · have HE : Hid (plainFrom 2 s.data.toList = R) := Lib.hid (by
            have := HN'.out
            rwa [if_neg (fun e => by rw [Lib.toList_data, e] at hq; exact absurd hq (by decide))] at this)
          go_wp2_with fail
          go_roundg (4 - 2)
          case measure => omega
          case rel => exact ⟨2, by omega, rfl, by go_num, HE.out, rfl⟩
        · have HE : Hid (some (Cd.wordOf 2 0) = R) := Lib.hid (by
            have := HN'.out
            rwa [if_pos (by rw [← Lib.toList_data]; exact eq_of_beq hq)] at this)
          have hmk := HMK 2 0 (by omega) (by unfold in64; omega)
          rw [show Cd.may ((2 : Nat) : Int) 0 = true from rfl, if_pos rfl] at hmk
          go_wp2_with fail
          refine (hmk _).mono ?_
          rintro e w2 ⟨rfl, rfl⟩
          go_wp2_with fail
          go_ret2
          rw [← HE.out]
          exact ⟨_, rfl, ⟨_, rfl, wordOf_u64 _ _⟩, fun x hx => by injection hx with hx; rw [← hx]; rfl, ((Same.refl _ _).alloc _).alloc _⟩
      · have HN' : Hid ((if s.data.toList = [116, 114, 117, 101] then some (Cd.wordOf 3 0) else plainFrom 3 s.data.toList) = R) := HN
        cases hq : (s.toList == [116, 114, 117, 101])
        · have HE : Hid (plainFrom 3 s.data.toList = R) := Lib.hid (by
            have := HN'.out
            rwa [if_neg (fun e => by rw [Lib.toList_data, e] at hq; exact absurd hq (by decide))] at this)
          go_wp2_with fail
          go_roundg (4 - 3)
          case measure => omega
          case rel => exact ⟨3, by omega, rfl, by go_num, HE.out, rfl⟩
        · have HE : Hid (some (Cd.wordOf 3 0) = R) := Lib.hid (by
            have := HN'.out
            rwa [if_pos (by rw [← Lib.toList_data]; exact eq_of_beq hq)] at this)
          have hmk := HMK 3 0 (by omega) (by unfold in64; omega)
          rw [show Cd.may ((3 : Nat) : Int) 0 = true from rfl, if_pos rfl] at hmk
          go_wp2_with fail
          refine (hmk _).mono ?_
          rintro e w2 ⟨rfl, rfl⟩
          go_wp2_with fail
          go_ret2
          rw [← HE.out]
          exact ⟨_, rfl, ⟨_, rfl, wordOf_u64 _ _⟩, fun x hx => by injection hx with hx; rw [← hx]; rfl, ((Same.refl _ _).alloc _).alloc _⟩
      · have HN' : Hid ((if s.data.toList = [110, 111, 110, 101] then some (Cd.wordOf 4 0) else plainFrom 4 s.data.toList) = R) := HN
        cases hq : (s.toList == [110, 111, 110, 101])
        · have HE : Hid (plainFrom 4 s.data.toList = R) := Lib.hid (by
            have := HN'.out
            rwa [if_neg (fun e => by rw [Lib.toList_data, e] at hq; exact absurd hq (by decide))] at this)
          go_wp2_with fail
          go_roundg (4 - 4)
          case measure => omega
          case rel => exact ⟨4, by omega, rfl, by go_num, HE.out, rfl⟩
        · have HE : Hid (some (Cd.wordOf 4 0) = R) := Lib.hid (by
            have := HN'.out
            rwa [if_pos (by rw [← Lib.toList_data]; exact eq_of_beq hq)] at this)
          have hmk := HMK 4 0 (by omega) (by unfold in64; omega)
          rw [show Cd.may ((4 : Nat) : Int) 0 = true from rfl, if_pos rfl] at hmk
          go_wp2_with fail
          refine (hmk _).mono ?_
          rintro e w2 ⟨rfl, rfl⟩
          go_wp2_with fail
          go_ret2
          rw [← HE.out]
          exact ⟨_, rfl, ⟨_, rfl, wordOf_u64 _ _⟩, fun x hx => by injection hx with hx; rw [← hx]; rfl, ((Same.refl _ _).alloc _).alloc _⟩
    · have hk4 : k = 4 := by omega
      have H4 : Hid (plainFrom 4 s.data.toList = R) := Lib.hid (by rw [← hk4]; exact HF.out)
      have hge : 4 ≤ k := by omega
      have ek : decide (k < 4) = false := decide_eq_false hlt
      clear hk4 HF hlt
      go_wp2_with fail
      go_loopg [9] 3 (fun gk i wr => ∃ k : Nat, k ≤ 3 ∧ gk = 3 - k ∧ i = .int .i64 k ∧ plainFrom (4 + k) s.data.toList = R ∧ wr = ((((w.alloc (.cells #[.int .u8 1, .int .u8 2, .int .u8 3, .int .u8 4] 70)).alloc (.cells #[.string ⟨#[110, 105, 108]⟩, .string ⟨#[102, 97, 108, 115, 101]⟩, .string ⟨#[116, 114, 117, 101]⟩, .string ⟨#[110, 111, 110, 101]⟩] 9)).alloc (.cells #[.int .u8 5, .int .u8 6, .int .u8 7] 70)).alloc (.cells #[.string ⟨#[105, 110, 116, 32]⟩, .string ⟨#[115, 121, 109, 98, 111, 108, 32]⟩, .string ⟨#[112, 114, 105, 109, 32]⟩] 9)))
      case atStart => exact ⟨0, by omega, rfl, rfl, H4.out, rfl⟩
      case round =>
        obtain ⟨m, hm, rfl, rfl, hF, rfl⟩ := hrel
        have HF := Lib.hid hF
        clear hF H4
        by_cases hlm : m < 3
        · have hc : m = 0 ∨ m = 1 ∨ m = 2 := by omega
          have HN : Hid ((if Lib.hasPrefix s.data.toList (Cd.tagL.getD (4 + m + 1) []) = true then Cd.wordNT (4 + m + 1 : Nat) (s.data.toList.drop (Cd.tagL.getD (4 + m + 1) []).length) else plainFrom (4 + m + 1) s.data.toList) = R) := Lib.hid (by rw [← constFrom_num (4 + m) (by omega) (by omega)]; exact HF.out)
          clear HF
          rcases hc with rfl | rfl | rfl
          · have HN' : Hid ((if Lib.hasPrefix s.data.toList [105, 110, 116, 32] = true then Cd.wordNT 5 (s.data.toList.drop 4) else plainFrom 5 s.data.toList) = R) := HN
            obtain ⟨x, hx⟩ : ∃ x, Lib.hasPrefix s.data.toList [105, 110, 116, 32] = x := ⟨_, rfl⟩
            have hcut := fun W => cutR_any (w := W) s ⟨#[105, 110, 116, 32]⟩ hs x hx (by decide)
            cases x
            · have HE : Hid (plainFrom 5 s.data.toList = R) := Lib.hid (by have := HN'.out; rwa [if_neg (by rw [hx]; simp)] at this)
              clear hx
              go_wp2_with fail
              refine (hcut _).mono ?_
              rintro e w2 ⟨rfl, rfl⟩
              go_wp2_with fail
              go_roundg (3 - 1)
              case measure => omega
              case rel => exact ⟨1, by omega, rfl, by go_num, HE.out, rfl⟩
            · have HE : Hid (Cd.wordNT 5 (s.data.toList.drop 4) = R) := Lib.hid (by have := HN'.out; rwa [if_pos hx] at this)
              rw [if_pos rfl] at hcut
              obtain ⟨r, hr⟩ : ∃ r, bs (s.data.toList.drop 4) = r := ⟨_, rfl⟩
              have hcut' : ∀ W, Calls Tryz.prog 102 #[.string s, .string ⟨#[105, 110, 116, 32]⟩] W fun e w' => e = .returned (.tuple #[.string r, .bool true]) ∧ W = w' := by rw [← hr]; exact hcut
              have hrz : r.size ≤ 281474976710656 := by
                have h1 : s.data.toList.length = s.size := by simp
                rw [← hr, bs_size, List.length_drop]; omega
              have HE2 : Hid (Cd.wordNT 5 r.data.toList = R) := Lib.hid (by rw [← hr, bs_list]; exact HE.out)
              obtain ⟨y, hy⟩ : ∃ y, Lib.hasPrefix r.data.toList [45] = y := ⟨_, rfl⟩
              have hcut2 := fun W => cutR_any (w := W) r ⟨#[45]⟩ hrz y hy (by decide)
              unfold Cd.wordNT at HE2
              rw [hy] at HE2
              clear hcut hx hr HE HN' HN
              cases y
              · have hnum := fun W => numR_any (w := W) r hrz
                rw [if_neg (by simp)] at HE2
                cases hn : Cd.numT r.data.toList with
                | none =>
                  rw [hn] at HE2 hnum
                  have HR0 : Hid (R = none) := Lib.hid HE2.out.symm
                  clear hn hy HE2
                  go_wp2_with fail
                  refine (hcut' _).mono ?_
                  rintro e w2 ⟨rfl, rfl⟩
                  go_wp2_with fail
                  refine (hcut2 _).mono ?_
                  rintro e w2 ⟨rfl, rfl⟩
                  go_wp2_with fail
                  refine (hnum _).mono ?_
                  rintro e w2 ⟨rfl, rfl⟩
                  unfold numV
                  go_wp2_with fail
                  go_ret2
                  rw [HR0.out]
                  exact ⟨_, rfl, ⟨0, rfl, by omega, by omega⟩, (fun x hx => by cases hx), (((Same.refl _ _).alloc _).alloc _).alloc _ |>.alloc _⟩
                | some n =>
                  have hnb := (Cd.numT_back hn).2
                  rw [hn] at HE2 hnum
                  have hmk := HMK 5 n (by omega) (by unfold in64; omega)
                  have HR0 : Hid (Cd.makeW 5 n = R) := Lib.hid (by have := HE2.out; dsimp only at this; rwa [if_neg (by simp), if_neg (by simp)] at this)
                  obtain ⟨mm, hmm⟩ : ∃ mm, Cd.may 5 (n : Int) = mm := ⟨_, rfl⟩
                  have HR1 : Hid (R = if mm = true then some (Cd.wordOf 5 n) else none) := Lib.hid (by rw [← HR0.out, ← hmm]; unfold Cd.makeW; simp)
                  rw [show ((5 : Nat) : Int) = 5 from rfl, hmm] at hmk
                  clear hn hy HE2 HR0 hmm
                  cases mm
                  all_goals
                    go_wp2_with fail
                    refine (hcut' _).mono ?_
                    rintro e w2 ⟨rfl, rfl⟩
                    go_wp2_with fail
                    refine (hcut2 _).mono ?_
                    rintro e w2 ⟨rfl, rfl⟩
                    go_wp2_with fail
                    refine (hnum _).mono ?_
                    rintro e w2 ⟨rfl, rfl⟩
                    unfold numV
                    go_wp2_with fail
                    refine (hmk _).mono ?_
                    rintro e w2 ⟨rfl, rfl⟩
                    go_wp2_with fail
                    go_ret2
                    rw [HR1.out]
                    first
                      | exact ⟨_, rfl, ⟨_, rfl, wordOf_u64 _ _⟩, (fun x hx => by injection hx with hx; rw [← hx]; rfl), (((Same.refl _ _).alloc _).alloc _).alloc _ |>.alloc _⟩
                      | exact ⟨_, rfl, ⟨0, rfl, by omega, by omega⟩, (fun x hx => by cases hx), (((Same.refl _ _).alloc _).alloc _).alloc _ |>.alloc _⟩
              · rw [if_pos rfl] at HE2 hcut2
                obtain ⟨d, hd⟩ : ∃ d, bs (r.data.toList.drop (⟨#[45]⟩ : ByteArray).size) = d := ⟨_, rfl⟩
                have hdl : d.data.toList = r.data.toList.drop 1 := by rw [← hd, bs_list]; rfl
                rw [hd] at hcut2
                have hdz : d.size ≤ 281474976710656 := by
                  have h1 : r.data.toList.length = r.size := by simp
                  rw [list_size d hdl, List.length_drop]; omega
                rw [← hdl] at HE2
                have hnum := fun W => numR_any (w := W) d hdz
                cases hn : Cd.numT d.data.toList with
                | none =>
                  rw [hn] at HE2 hnum
                  have HR0 : Hid (R = none) := Lib.hid HE2.out.symm
                  clear hn hy HE2 hd hdl
                  go_wp2_with fail
                  refine (hcut' _).mono ?_
                  rintro e w2 ⟨rfl, rfl⟩
                  go_wp2_with fail
                  refine (hcut2 _).mono ?_
                  rintro e w2 ⟨rfl, rfl⟩
                  go_wp2_with fail
                  refine (hnum _).mono ?_
                  rintro e w2 ⟨rfl, rfl⟩
                  unfold numV
                  go_wp2_with fail
                  go_ret2
                  rw [HR0.out]
                  exact ⟨_, rfl, ⟨0, rfl, by omega, by omega⟩, (fun x hx => by cases hx), (((Same.refl _ _).alloc _).alloc _).alloc _ |>.alloc _⟩
                | some n =>
                  have hnb := (Cd.numT_back hn).2
                  rw [hn] at HE2 hnum
                  by_cases hn0 : n = 0
                  · have HR0 : Hid (R = none) := Lib.hid (by have := HE2.out; dsimp only at this; rw [if_pos ⟨rfl, hn0⟩] at this; exact this.symm)
                    have hn0' : ((n : Int) == 0) = true := by rw [hn0]; rfl
                    clear hn hy HE2 hd hdl hn0
                    go_wp2_with fail
                    refine (hcut' _).mono ?_
                    rintro e w2 ⟨rfl, rfl⟩
                    go_wp2_with fail
                    refine (hcut2 _).mono ?_
                    rintro e w2 ⟨rfl, rfl⟩
                    go_wp2_with fail
                    refine (hnum _).mono ?_
                    rintro e w2 ⟨rfl, rfl⟩
                    unfold numV
                    go_wp2_with fail
                    go_ret2
                    rw [HR0.out]
                    exact ⟨_, rfl, ⟨0, rfl, by omega, by omega⟩, (fun x hx => by cases hx), (((Same.refl _ _).alloc _).alloc _).alloc _ |>.alloc _⟩
                  · have hn0' : ((n : Int) == 0) = false := by rw [beq_eq_false_iff_ne]; omega
                    have hmk := HMK 5 (-(n : Int)) (by omega) (by unfold in64; omega)
                    have HR0 : Hid (Cd.makeW 5 (-(n : Int)) = R) := Lib.hid (by have := HE2.out; dsimp only at this; rwa [if_neg (fun h => hn0 h.2), if_pos rfl] at this)
                    obtain ⟨mm, hmm⟩ : ∃ mm, Cd.may 5 (-(n : Int)) = mm := ⟨_, rfl⟩
                    have HR1 : Hid (R = if mm = true then some (Cd.wordOf 5 (-(n : Int))) else none) := Lib.hid (by rw [← HR0.out, ← hmm]; unfold Cd.makeW; simp)
                    rw [show ((5 : Nat) : Int) = 5 from rfl, hmm] at hmk
                    clear hn hy HE2 HR0 hmm hd hdl hn0
                    cases mm
                    all_goals
                      go_wp2_with fail
                      refine (hcut' _).mono ?_
                      rintro e w2 ⟨rfl, rfl⟩
                      go_wp2_with fail
                      refine (hcut2 _).mono ?_
                      rintro e w2 ⟨rfl, rfl⟩
                      go_wp2_with fail
                      refine (hnum _).mono ?_
                      rintro e w2 ⟨rfl, rfl⟩
                      unfold numV
                      go_wp2_with fail
                      refine (hmk _).mono ?_
                      rintro e w2 ⟨rfl, rfl⟩
                      go_wp2_with fail
                      go_ret2
                      rw [HR1.out]
                      first
                        | exact ⟨_, rfl, ⟨_, rfl, wordOf_u64 _ _⟩, (fun x hx => by injection hx with hx; rw [← hx]; rfl), (((Same.refl _ _).alloc _).alloc _).alloc _ |>.alloc _⟩
                        | exact ⟨_, rfl, ⟨0, rfl, by omega, by omega⟩, (fun x hx => by cases hx), (((Same.refl _ _).alloc _).alloc _).alloc _ |>.alloc _⟩
          · have HN' : Hid ((if Lib.hasPrefix s.data.toList [115, 121, 109, 98, 111, 108, 32] = true then Cd.wordNT 6 (s.data.toList.drop 7) else plainFrom 6 s.data.toList) = R) := HN
            obtain ⟨x, hx⟩ : ∃ x, Lib.hasPrefix s.data.toList [115, 121, 109, 98, 111, 108, 32] = x := ⟨_, rfl⟩
            have hcut := fun W => cutR_any (w := W) s ⟨#[115, 121, 109, 98, 111, 108, 32]⟩ hs x hx (by decide)
            cases x
            · have HE : Hid (plainFrom 6 s.data.toList = R) := Lib.hid (by have := HN'.out; rwa [if_neg (by rw [hx]; simp)] at this)
              clear hx
              go_wp2_with fail
              refine (hcut _).mono ?_
              rintro e w2 ⟨rfl, rfl⟩
              go_wp2_with fail
              go_roundg (3 - 2)
              case measure => omega
              case rel => exact ⟨2, by omega, rfl, by go_num, HE.out, rfl⟩
            · have HE : Hid (Cd.wordNT 6 (s.data.toList.drop 7) = R) := Lib.hid (by have := HN'.out; rwa [if_pos hx] at this)
              rw [if_pos rfl] at hcut
              obtain ⟨r, hr⟩ : ∃ r, bs (s.data.toList.drop 7) = r := ⟨_, rfl⟩
              have hcut' : ∀ W, Calls Tryz.prog 102 #[.string s, .string ⟨#[115, 121, 109, 98, 111, 108, 32]⟩] W fun e w' => e = .returned (.tuple #[.string r, .bool true]) ∧ W = w' := by rw [← hr]; exact hcut
              have hrz : r.size ≤ 281474976710656 := by
                have h1 : s.data.toList.length = s.size := by simp
                rw [← hr, bs_size, List.length_drop]; omega
              have HE2 : Hid (Cd.wordNT 6 r.data.toList = R) := Lib.hid (by rw [← hr, bs_list]; exact HE.out)
              obtain ⟨y, hy⟩ : ∃ y, Lib.hasPrefix r.data.toList [45] = y := ⟨_, rfl⟩
              have hcut2 := fun W => cutR_any (w := W) r ⟨#[45]⟩ hrz y hy (by decide)
              unfold Cd.wordNT at HE2
              rw [hy] at HE2
              clear hcut hx hr HE HN' HN
              cases y
              · have hnum := fun W => numR_any (w := W) r hrz
                rw [if_neg (by simp)] at HE2
                cases hn : Cd.numT r.data.toList with
                | none =>
                  rw [hn] at HE2 hnum
                  have HR0 : Hid (R = none) := Lib.hid HE2.out.symm
                  clear hn hy HE2
                  go_wp2_with fail
                  refine (hcut' _).mono ?_
                  rintro e w2 ⟨rfl, rfl⟩
                  go_wp2_with fail
                  refine (hcut2 _).mono ?_
                  rintro e w2 ⟨rfl, rfl⟩
                  go_wp2_with fail
                  refine (hnum _).mono ?_
                  rintro e w2 ⟨rfl, rfl⟩
                  unfold numV
                  go_wp2_with fail
                  go_ret2
                  rw [HR0.out]
                  exact ⟨_, rfl, ⟨0, rfl, by omega, by omega⟩, (fun x hx => by cases hx), (((Same.refl _ _).alloc _).alloc _).alloc _ |>.alloc _⟩
                | some n =>
                  have hnb := (Cd.numT_back hn).2
                  rw [hn] at HE2 hnum
                  have hmk := HMK 6 n (by omega) (by unfold in64; omega)
                  have HR0 : Hid (Cd.makeW 6 n = R) := Lib.hid (by have := HE2.out; dsimp only at this; rwa [if_neg (by simp), if_neg (by simp)] at this)
                  obtain ⟨mm, hmm⟩ : ∃ mm, Cd.may 6 (n : Int) = mm := ⟨_, rfl⟩
                  have HR1 : Hid (R = if mm = true then some (Cd.wordOf 6 n) else none) := Lib.hid (by rw [← HR0.out, ← hmm]; unfold Cd.makeW; simp)
                  rw [show ((6 : Nat) : Int) = 6 from rfl, hmm] at hmk
                  clear hn hy HE2 HR0 hmm
                  cases mm
                  all_goals
                    go_wp2_with fail
                    refine (hcut' _).mono ?_
                    rintro e w2 ⟨rfl, rfl⟩
                    go_wp2_with fail
                    refine (hcut2 _).mono ?_
                    rintro e w2 ⟨rfl, rfl⟩
                    go_wp2_with fail
                    refine (hnum _).mono ?_
                    rintro e w2 ⟨rfl, rfl⟩
                    unfold numV
                    go_wp2_with fail
                    refine (hmk _).mono ?_
                    rintro e w2 ⟨rfl, rfl⟩
                    go_wp2_with fail
                    go_ret2
                    rw [HR1.out]
                    first
                      | exact ⟨_, rfl, ⟨_, rfl, wordOf_u64 _ _⟩, (fun x hx => by injection hx with hx; rw [← hx]; rfl), (((Same.refl _ _).alloc _).alloc _).alloc _ |>.alloc _⟩
                      | exact ⟨_, rfl, ⟨0, rfl, by omega, by omega⟩, (fun x hx => by cases hx), (((Same.refl _ _).alloc _).alloc _).alloc _ |>.alloc _⟩
              · rw [if_pos rfl] at HE2 hcut2
                obtain ⟨d, hd⟩ : ∃ d, bs (r.data.toList.drop (⟨#[45]⟩ : ByteArray).size) = d := ⟨_, rfl⟩
                have hdl : d.data.toList = r.data.toList.drop 1 := by rw [← hd, bs_list]; rfl
                rw [hd] at hcut2
                have hdz : d.size ≤ 281474976710656 := by
                  have h1 : r.data.toList.length = r.size := by simp
                  rw [list_size d hdl, List.length_drop]; omega
                rw [← hdl] at HE2
                have hnum := fun W => numR_any (w := W) d hdz
                cases hn : Cd.numT d.data.toList with
                | none =>
                  rw [hn] at HE2 hnum
                  have HR0 : Hid (R = none) := Lib.hid HE2.out.symm
                  clear hn hy HE2 hd hdl
                  go_wp2_with fail
                  refine (hcut' _).mono ?_
                  rintro e w2 ⟨rfl, rfl⟩
                  go_wp2_with fail
                  refine (hcut2 _).mono ?_
                  rintro e w2 ⟨rfl, rfl⟩
                  go_wp2_with fail
                  refine (hnum _).mono ?_
                  rintro e w2 ⟨rfl, rfl⟩
                  unfold numV
                  go_wp2_with fail
                  go_ret2
                  rw [HR0.out]
                  exact ⟨_, rfl, ⟨0, rfl, by omega, by omega⟩, (fun x hx => by cases hx), (((Same.refl _ _).alloc _).alloc _).alloc _ |>.alloc _⟩
                | some n =>
                  have hnb := (Cd.numT_back hn).2
                  rw [hn] at HE2 hnum
                  by_cases hn0 : n = 0
                  · have HR0 : Hid (R = none) := Lib.hid (by have := HE2.out; dsimp only at this; rw [if_pos ⟨rfl, hn0⟩] at this; exact this.symm)
                    have hn0' : ((n : Int) == 0) = true := by rw [hn0]; rfl
                    clear hn hy HE2 hd hdl hn0
                    go_wp2_with fail
                    refine (hcut' _).mono ?_
                    rintro e w2 ⟨rfl, rfl⟩
                    go_wp2_with fail
                    refine (hcut2 _).mono ?_
                    rintro e w2 ⟨rfl, rfl⟩
                    go_wp2_with fail
                    refine (hnum _).mono ?_
                    rintro e w2 ⟨rfl, rfl⟩
                    unfold numV
                    go_wp2_with fail
                    go_ret2
                    rw [HR0.out]
                    exact ⟨_, rfl, ⟨0, rfl, by omega, by omega⟩, (fun x hx => by cases hx), (((Same.refl _ _).alloc _).alloc _).alloc _ |>.alloc _⟩
                  · have hn0' : ((n : Int) == 0) = false := by rw [beq_eq_false_iff_ne]; omega
                    have hmk := HMK 6 (-(n : Int)) (by omega) (by unfold in64; omega)
                    have HR0 : Hid (Cd.makeW 6 (-(n : Int)) = R) := Lib.hid (by have := HE2.out; dsimp only at this; rwa [if_neg (fun h => hn0 h.2), if_pos rfl] at this)
                    obtain ⟨mm, hmm⟩ : ∃ mm, Cd.may 6 (-(n : Int)) = mm := ⟨_, rfl⟩
                    have HR1 : Hid (R = if mm = true then some (Cd.wordOf 6 (-(n : Int))) else none) := Lib.hid (by rw [← HR0.out, ← hmm]; unfold Cd.makeW; simp)
                    rw [show ((6 : Nat) : Int) = 6 from rfl, hmm] at hmk
                    clear hn hy HE2 HR0 hmm hd hdl hn0
                    cases mm
                    all_goals
                      go_wp2_with fail
                      refine (hcut' _).mono ?_
                      rintro e w2 ⟨rfl, rfl⟩
                      go_wp2_with fail
                      refine (hcut2 _).mono ?_
                      rintro e w2 ⟨rfl, rfl⟩
                      go_wp2_with fail
                      refine (hnum _).mono ?_
                      rintro e w2 ⟨rfl, rfl⟩
                      unfold numV
                      go_wp2_with fail
                      refine (hmk _).mono ?_
                      rintro e w2 ⟨rfl, rfl⟩
                      go_wp2_with fail
                      go_ret2
                      rw [HR1.out]
                      first
                        | exact ⟨_, rfl, ⟨_, rfl, wordOf_u64 _ _⟩, (fun x hx => by injection hx with hx; rw [← hx]; rfl), (((Same.refl _ _).alloc _).alloc _).alloc _ |>.alloc _⟩
                        | exact ⟨_, rfl, ⟨0, rfl, by omega, by omega⟩, (fun x hx => by cases hx), (((Same.refl _ _).alloc _).alloc _).alloc _ |>.alloc _⟩
          · have HN' : Hid ((if Lib.hasPrefix s.data.toList [112, 114, 105, 109, 32] = true then Cd.wordNT 7 (s.data.toList.drop 5) else plainFrom 7 s.data.toList) = R) := HN
            obtain ⟨x, hx⟩ : ∃ x, Lib.hasPrefix s.data.toList [112, 114, 105, 109, 32] = x := ⟨_, rfl⟩
            have hcut := fun W => cutR_any (w := W) s ⟨#[112, 114, 105, 109, 32]⟩ hs x hx (by decide)
            cases x
            · have HE : Hid (plainFrom 7 s.data.toList = R) := Lib.hid (by have := HN'.out; rwa [if_neg (by rw [hx]; simp)] at this)
              clear hx
              go_wp2_with fail
              refine (hcut _).mono ?_
              rintro e w2 ⟨rfl, rfl⟩
              go_wp2_with fail
              go_roundg (3 - 3)
              case measure => omega
              case rel => exact ⟨3, by omega, rfl, by go_num, HE.out, rfl⟩
            · have HE : Hid (Cd.wordNT 7 (s.data.toList.drop 5) = R) := Lib.hid (by have := HN'.out; rwa [if_pos hx] at this)
              rw [if_pos rfl] at hcut
              obtain ⟨r, hr⟩ : ∃ r, bs (s.data.toList.drop 5) = r := ⟨_, rfl⟩
              have hcut' : ∀ W, Calls Tryz.prog 102 #[.string s, .string ⟨#[112, 114, 105, 109, 32]⟩] W fun e w' => e = .returned (.tuple #[.string r, .bool true]) ∧ W = w' := by rw [← hr]; exact hcut
              have hrz : r.size ≤ 281474976710656 := by
                have h1 : s.data.toList.length = s.size := by simp
                rw [← hr, bs_size, List.length_drop]; omega
              have HE2 : Hid (Cd.wordNT 7 r.data.toList = R) := Lib.hid (by rw [← hr, bs_list]; exact HE.out)
              obtain ⟨y, hy⟩ : ∃ y, Lib.hasPrefix r.data.toList [45] = y := ⟨_, rfl⟩
              have hcut2 := fun W => cutR_any (w := W) r ⟨#[45]⟩ hrz y hy (by decide)
              unfold Cd.wordNT at HE2
              rw [hy] at HE2
              clear hcut hx hr HE HN' HN
              cases y
              · have hnum := fun W => numR_any (w := W) r hrz
                rw [if_neg (by simp)] at HE2
                cases hn : Cd.numT r.data.toList with
                | none =>
                  rw [hn] at HE2 hnum
                  have HR0 : Hid (R = none) := Lib.hid HE2.out.symm
                  clear hn hy HE2
                  go_wp2_with fail
                  refine (hcut' _).mono ?_
                  rintro e w2 ⟨rfl, rfl⟩
                  go_wp2_with fail
                  refine (hcut2 _).mono ?_
                  rintro e w2 ⟨rfl, rfl⟩
                  go_wp2_with fail
                  refine (hnum _).mono ?_
                  rintro e w2 ⟨rfl, rfl⟩
                  unfold numV
                  go_wp2_with fail
                  go_ret2
                  rw [HR0.out]
                  exact ⟨_, rfl, ⟨0, rfl, by omega, by omega⟩, (fun x hx => by cases hx), (((Same.refl _ _).alloc _).alloc _).alloc _ |>.alloc _⟩
                | some n =>
                  have hnb := (Cd.numT_back hn).2
                  rw [hn] at HE2 hnum
                  have hmk := HMK 7 n (by omega) (by unfold in64; omega)
                  have HR0 : Hid (Cd.makeW 7 n = R) := Lib.hid (by have := HE2.out; dsimp only at this; rwa [if_neg (by simp), if_neg (by simp)] at this)
                  obtain ⟨mm, hmm⟩ : ∃ mm, Cd.may 7 (n : Int) = mm := ⟨_, rfl⟩
                  have HR1 : Hid (R = if mm = true then some (Cd.wordOf 7 n) else none) := Lib.hid (by rw [← HR0.out, ← hmm]; unfold Cd.makeW; simp)
                  rw [show ((7 : Nat) : Int) = 7 from rfl, hmm] at hmk
                  clear hn hy HE2 HR0 hmm
                  cases mm
                  all_goals
                    go_wp2_with fail
                    refine (hcut' _).mono ?_
                    rintro e w2 ⟨rfl, rfl⟩
                    go_wp2_with fail
                    refine (hcut2 _).mono ?_
                    rintro e w2 ⟨rfl, rfl⟩
                    go_wp2_with fail
                    refine (hnum _).mono ?_
                    rintro e w2 ⟨rfl, rfl⟩
                    unfold numV
                    go_wp2_with fail
                    refine (hmk _).mono ?_
                    rintro e w2 ⟨rfl, rfl⟩
                    go_wp2_with fail
                    go_ret2
                    rw [HR1.out]
                    first
                      | exact ⟨_, rfl, ⟨_, rfl, wordOf_u64 _ _⟩, (fun x hx => by injection hx with hx; rw [← hx]; rfl), (((Same.refl _ _).alloc _).alloc _).alloc _ |>.alloc _⟩
                      | exact ⟨_, rfl, ⟨0, rfl, by omega, by omega⟩, (fun x hx => by cases hx), (((Same.refl _ _).alloc _).alloc _).alloc _ |>.alloc _⟩
              · rw [if_pos rfl] at HE2 hcut2
                obtain ⟨d, hd⟩ : ∃ d, bs (r.data.toList.drop (⟨#[45]⟩ : ByteArray).size) = d := ⟨_, rfl⟩
                have hdl : d.data.toList = r.data.toList.drop 1 := by rw [← hd, bs_list]; rfl
                rw [hd] at hcut2
                have hdz : d.size ≤ 281474976710656 := by
                  have h1 : r.data.toList.length = r.size := by simp
                  rw [list_size d hdl, List.length_drop]; omega
                rw [← hdl] at HE2
                have hnum := fun W => numR_any (w := W) d hdz
                cases hn : Cd.numT d.data.toList with
                | none =>
                  rw [hn] at HE2 hnum
                  have HR0 : Hid (R = none) := Lib.hid HE2.out.symm
                  clear hn hy HE2 hd hdl
                  go_wp2_with fail
                  refine (hcut' _).mono ?_
                  rintro e w2 ⟨rfl, rfl⟩
                  go_wp2_with fail
                  refine (hcut2 _).mono ?_
                  rintro e w2 ⟨rfl, rfl⟩
                  go_wp2_with fail
                  refine (hnum _).mono ?_
                  rintro e w2 ⟨rfl, rfl⟩
                  unfold numV
                  go_wp2_with fail
                  go_ret2
                  rw [HR0.out]
                  exact ⟨_, rfl, ⟨0, rfl, by omega, by omega⟩, (fun x hx => by cases hx), (((Same.refl _ _).alloc _).alloc _).alloc _ |>.alloc _⟩
                | some n =>
                  have hnb := (Cd.numT_back hn).2
                  rw [hn] at HE2 hnum
                  by_cases hn0 : n = 0
                  · have HR0 : Hid (R = none) := Lib.hid (by have := HE2.out; dsimp only at this; rw [if_pos ⟨rfl, hn0⟩] at this; exact this.symm)
                    have hn0' : ((n : Int) == 0) = true := by rw [hn0]; rfl
                    clear hn hy HE2 hd hdl hn0
                    go_wp2_with fail
                    refine (hcut' _).mono ?_
                    rintro e w2 ⟨rfl, rfl⟩
                    go_wp2_with fail
                    refine (hcut2 _).mono ?_
                    rintro e w2 ⟨rfl, rfl⟩
                    go_wp2_with fail
                    refine (hnum _).mono ?_
                    rintro e w2 ⟨rfl, rfl⟩
                    unfold numV
                    go_wp2_with fail
                    go_ret2
                    rw [HR0.out]
                    exact ⟨_, rfl, ⟨0, rfl, by omega, by omega⟩, (fun x hx => by cases hx), (((Same.refl _ _).alloc _).alloc _).alloc _ |>.alloc _⟩
                  · have hn0' : ((n : Int) == 0) = false := by rw [beq_eq_false_iff_ne]; omega
                    have hmk := HMK 7 (-(n : Int)) (by omega) (by unfold in64; omega)
                    have HR0 : Hid (Cd.makeW 7 (-(n : Int)) = R) := Lib.hid (by have := HE2.out; dsimp only at this; rwa [if_neg (fun h => hn0 h.2), if_pos rfl] at this)
                    obtain ⟨mm, hmm⟩ : ∃ mm, Cd.may 7 (-(n : Int)) = mm := ⟨_, rfl⟩
                    have HR1 : Hid (R = if mm = true then some (Cd.wordOf 7 (-(n : Int))) else none) := Lib.hid (by rw [← HR0.out, ← hmm]; unfold Cd.makeW; simp)
                    rw [show ((7 : Nat) : Int) = 7 from rfl, hmm] at hmk
                    clear hn hy HE2 HR0 hmm hd hdl hn0
                    cases mm
                    all_goals
                      go_wp2_with fail
                      refine (hcut' _).mono ?_
                      rintro e w2 ⟨rfl, rfl⟩
                      go_wp2_with fail
                      refine (hcut2 _).mono ?_
                      rintro e w2 ⟨rfl, rfl⟩
                      go_wp2_with fail
                      refine (hnum _).mono ?_
                      rintro e w2 ⟨rfl, rfl⟩
                      unfold numV
                      go_wp2_with fail
                      refine (hmk _).mono ?_
                      rintro e w2 ⟨rfl, rfl⟩
                      go_wp2_with fail
                      go_ret2
                      rw [HR1.out]
                      first
                        | exact ⟨_, rfl, ⟨_, rfl, wordOf_u64 _ _⟩, (fun x hx => by injection hx with hx; rw [← hx]; rfl), (((Same.refl _ _).alloc _).alloc _).alloc _ |>.alloc _⟩
                        | exact ⟨_, rfl, ⟨0, rfl, by omega, by omega⟩, (fun x hx => by cases hx), (((Same.refl _ _).alloc _).alloc _).alloc _ |>.alloc _⟩
        · have HE : Hid (R = none) := Lib.hid (by
            have hm3 : m = 3 := by omega
            have := HF.out
            rw [hm3] at this
            rw [← this]; rfl)
          have hge3 : 3 ≤ m := by omega
          clear HF hlm
          go_wp2_with fail
          go_ret2
          rw [HE.out]
          exact ⟨_, rfl, ⟨0, rfl, by omega, by omega⟩, (fun x hx => by cases hx), (((Same.refl _ _).alloc _).alloc _).alloc _ |>.alloc _⟩
end Ck
end Go.Proofs.YticaipedpcmhfaaGreatDoor
