/- Layer 8, package code: read at every line; the next line. -/
import Derived.Test.YticaipedpcmhfaaGreatDoorCkQ5
import Derived.Test.YticaipedpcmhfaaGreatDoorCkQ6
namespace Go.Proofs.YticaipedpcmhfaaGreatDoor
open Go.RowKit Hp
namespace Ck
variable {w w' : World}

theorem read_any (s : ByteArray) (hs : s.size ≤ 281474976710656) (h : Vars w) (cb : Nat) (cv pv gv : Value) (kvs : List Value) (c : Cd.Co) (F : List Nat) (ho : OC w cb cv pv gv kvs c F) (hF : ∀ b ∈ F, 10 ≤ b) (hsm : Small c 100000000) :
    Calls Tryz.prog 54 #[.pointer (some ⟨cb, 0, none⟩), .string s] w (ReadP cb F (Cd.lineR c s.data.toList) w) := by
  cases hp0 : Lib.hasPrefix s.data.toList [32] with
  | true => exact read_instr s hs h cb cv pv gv kvs c F ho hF hsm hp0
  | false =>
    cases hp1 : Lib.hasPrefix s.data.toList Cd.constB with
    | true => exact read_const s hs h cb cv pv gv kvs c F ho hsm hp0 hp1
    | false =>
      cases hp2 : Lib.hasPrefix s.data.toList Cd.globalB with
      | true => exact read_global s hs h cb cv pv gv kvs c F ho hsm hp0 hp1 hp2
      | false =>
        cases hp3 : Lib.hasPrefix s.data.toList Cd.procB with
        | true => exact read_proc s hs h cb cv pv gv kvs c F ho hsm hp0 hp1 hp2 hp3
        | false => exact read_none s hs cb c F hp0 hp1 hp2 hp3

set_option maxHeartbeats 4000000 in
set_option maxRecDepth 100000 in
theorem next_any (s : ByteArray) (hs : s.size ≤ 100000000) (hv : Vars w) (sb ab n : Nat) (hsb : Blk w sb 9 [.string s]) (hab : Blk w ab 3 [.int .i64 n]) (hn : n ≤ 100000000) (hne : sb ≠ ab) :
    Calls Tryz.prog 52 #[.pointer (some ⟨sb, 0, none⟩), .pointer (some ⟨ab, 0, none⟩)] w fun e w' => e = .returned (.tuple #[.string (bs (Lib.cut s.data.toList [10]).1), .bool (Lib.cut s.data.toList [10]).2.2]) ∧ Blk w' sb 9 [.string (bs (Lib.cut s.data.toList [10]).2.1)] ∧ Blk w' ab 3 [.int .i64 (n + 1 : Nat)] ∧ Same [sb, ab] w w' := by
  obtain ⟨m, hm⟩ := hv.maxl
  obtain ⟨p, hp⟩ : ∃ p, bs (Lib.cut s.data.toList [10]).1 = p := ⟨_, rfl⟩
  obtain ⟨q, hq⟩ : ∃ q, bs (Lib.cut s.data.toList [10]).2.1 = q := ⟨_, rfl⟩
  obtain ⟨x, hx⟩ : ∃ x, (Lib.cut s.data.toList [10]).2.2 = x := ⟨_, rfl⟩
  rw [hp, hq, hx]
  have hcut : Calls Tryz.prog 53 #[.string s, .string ⟨#[10]⟩] w fun e w' => e = .returned (.tuple #[.string p, .string q, .bool x]) ∧ Same [] w w' :=
    (Tryz.strings_Cut s ⟨#[10]⟩ m w (by omega) hm).mono (by
      rintro e w' ⟨rfl, k, rfl⟩
      exact ⟨by rw [← hp, ← hq, ← hx]; rfl, (Same.refl _ _).drewN k⟩)
  have s0 := hsb.cell 0
  have a0 := hab.cell 0
  have sz := hsb.lt
  have az := hab.lt
  have HS := Lib.hid hsb
  have HA := Lib.hid hab
  clear hv hm hp hq hx hsb hab
  go_enter Tryz.func52, Tryz.ntmps52
  go_wp2_with fail
  refine hcut.mono ?_
  rintro e w2 ⟨rfl, hs2⟩
  have hS := HS.out.frame hs2 (by simp)
  have hA := HA.out.frame hs2 (by simp)
  have t0 := hS.cell 0
  have tz := hS.lt
  have tf := hS.frozen
  have b0 := hA.cell 0
  have bz := hA.lt
  have bf := hA.frozen
  have HS2 := Lib.hid hS
  have HA2 := Lib.hid hA
  have HSM := Lib.hid hs2
  clear hS hA hs2 s0 a0 sz az
  go_wp2_with fail
  refine bodyPost_ret (v := .tuple #[.string p, .bool x]) (by simp [results, Tryz.results52, go_sem]) rfl ?_
  have hA3 := HA2.out.frame (((Same.refl [sb] w2).setCell (by simp) (.string q)) : Same [sb] w2 (w2.setCell ⟨sb, 0, none⟩ (.string q))) (by simp; omega)
  have hS3 := HS2.out.set 0 (.string q)
  refine ⟨rfl, (hS3.frame (((Same.refl [ab] _).setCell (by simp) _)) (by simp; omega)), ?_, ?_⟩
  · have := hA3.set 0 (.int .i64 (n + 1 : Nat))
    simpa using this
  · exact (((HSM.out.mono (fun x hx => by cases hx))).setCell (.inl (by simp)) _).setCell (.inl (by simp)) _
end Ck
end Go.Proofs.YticaipedpcmhfaaGreatDoor
