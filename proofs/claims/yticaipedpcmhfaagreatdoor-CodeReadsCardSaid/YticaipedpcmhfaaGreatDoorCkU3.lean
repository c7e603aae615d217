/- Layer 8: how long a text of code is; what is read fits into memory. -/
import Derived.Test.YticaipedpcmhfaaGreatDoorCkT3
import Derived.Test.YticaipedpcmhfaaGreatDoorCkR2
import Derived.Test.YticaipedpcmhfaaGreatDoorCdK3
namespace Go.Proofs.YticaipedpcmhfaaGreatDoor
open Go.RowKit Hp
namespace Ck

theorem textT_len {c : Cd.Co} (g : Cd.GoodC c) (hw : WCo c) : (Cd.textT c).length ≤ 100000000 := by
  have h1 : (Cd.joinL (c.consts.map Cd.constT)).length ≤ 40 * 1024 := by
    refine Nat.le_trans (Cd.joinL_le _ 39 (fun x hx => ?_)) (Nat.mul_le_mul_left _ (by rw [List.length_map]; exact g.lens.1))
    obtain ⟨y, hy, rfl⟩ := List.mem_map.1 hx
    exact Cd.constT_le y (hw.consts y hy)
  have h2 : (Cd.joinL (c.globals.map Cd.globalT)).length ≤ 40 * 64 := by
    refine Nat.le_trans (Cd.joinL_le _ 39 (fun x hx => ?_)) (Nat.mul_le_mul_left _ (by rw [List.length_map]; exact g.lens.2.1))
    obtain ⟨y, hy, rfl⟩ := List.mem_map.1 hx
    exact Cd.globalT_le (g.globals y hy)
  have h3 : ∀ p ∈ c.procs, (Cd.procT p).length ≤ 139300 := fun p hp => by
    have gp := g.procs p hp
    have wp := hw.procs p hp
    unfold Cd.procT
    rw [List.length_append]
    have ha : (Cd.joinL [Cd.headT p]).length ≤ 27 := by
      rw [Cd.joinL_one, List.length_append]
      have := Cd.headT_le p wp.params
      simp; omega
    have hb : (Cd.joinL (p.code.map Cd.instrT)).length ≤ 34 * 4096 := by
      refine Nat.le_trans (Cd.joinL_le _ 33 (fun x hx => ?_)) (Nat.mul_le_mul_left _ (by rw [List.length_map]; exact gp.len))
      obtain ⟨y, hy, rfl⟩ := List.mem_map.1 hx
      exact Cd.instrT_le y (wp.code y hy).a
    omega
  have h4 : ∀ (l : List Cd.Pr), (∀ p ∈ l, (Cd.procT p).length ≤ 139300) → (l.flatMap Cd.procT).length ≤ 139300 * l.length := fun l => by
    induction l with
    | nil => intro _; simp
    | cons p l ih =>
      intro h
      rw [List.flatMap_cons, List.length_append, List.length_cons]
      have := ih (fun q hq => h q (by simp [hq]))
      have := h p (by simp)
      omega
  have h5 := h4 c.procs h3
  have h6 : 139300 * c.procs.length ≤ 139300 * 256 := Nat.mul_le_mul_left _ g.lens.2.2
  unfold Cd.textT
  rw [List.length_append, List.length_append]
  omega

theorem readT_wco : ∀ (k : Nat) (s : List UInt8) (c d : Cd.Co) (n m N : Nat) (b : Bool), s.length ≤ 100000000 → WCo c → Small c N → Cd.readT k s c n = (d, b, m) → WCo d
  | 0, s, c, d, n, m, N, b, _, hw, _, h => by rw [Cd.readT] at h; injection h with h _; rw [← h]; exact hw
  | k + 1, s, c, d, n, m, N, b, hs, hw, hm, h => by
    rw [Cd.readT] at h
    split at h
    · injection h with h _; rw [← h]; exact hw
    · rename_i h0
      split at h
      · injection h with h _; rw [← h]; exact hw
      · split at h
        · injection h with h _; rw [← h]; exact hw
        · rename_i e he
          have h1 := cut_fst s
          have h2 := cut_snd s h0
          obtain ⟨hw', hm'⟩ := lineR_ok he (by omega) hw hm
          exact readT_wco k _ e d _ m _ b (by omega) hw' hm' h
theorem none_wco : WCo Cd.none_ := ⟨(fun w h => by cases h), (fun w h => by cases h), (fun w h => by cases h)⟩
theorem none_small : Small Cd.none_ 0 := ⟨Nat.le_refl _, Nat.le_refl _, Nat.le_refl _, (fun p h => by cases h)⟩
theorem parse_wco {s : List UInt8} {d : Cd.Co} {e : Int} {n : Nat} (hs : s.length ≤ 100000000) (h : Cd.parseT Cd.sym s = (d, e, n)) : WCo d := by
  unfold Cd.parseT at h
  split at h
  · rename_i c m hr
    split at h
    · injection h with h _; rw [← h]; exact none_wco
    · injection h with h _; rw [← h]; exact readT_wco _ _ _ _ _ _ _ _ hs none_wco none_small hr
  · injection h with h _; rw [← h]; exact none_wco
end Ck
end Go.Proofs.YticaipedpcmhfaaGreatDoor
