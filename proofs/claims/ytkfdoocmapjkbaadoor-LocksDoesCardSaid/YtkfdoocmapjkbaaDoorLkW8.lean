/- Layer 19: words.Make, slices.Repeat, New. -/
import Derived.Test.YtkfdoocmapjkbaaDoorLkW7
import Derived.Laws.CopyOwn
import Derived.Deep.RegionLaw
namespace Go.Proofs.YtkfdoocmapjkbaaDoor
open Go.RowKit Hp
namespace Lk
variable {w w' : World} {B : Nat} {m : Bk} {F : List Nat} {tv lv gv : Value} {rvs : List Value}

/-- What is asked of the table of bounds: the two numbers of the tag None. -/
def Bnd (w : World) : Prop := 0 < w.heap.size ∧ w.cell? ⟨0, 8, none⟩ = some (.int .i64 0) ∧ w.cell? ⟨0, 9, none⟩ = some (.int .i64 0)

theorem Bnd.frame {G : List Nat} (h : Bnd w) (hs : Same G w w') (h0 : 0 ∉ G) : Bnd w' :=
  ⟨Nat.lt_of_lt_of_le h.1 hs.size, (hs.cell h.1 h0).trans h.2.1, (hs.cell h.1 h0).trans h.2.2⟩

set_option maxHeartbeats 400000 in
set_option maxRecDepth 100000 in
theorem make_none (h : Bnd w) : Calls Tryd.prog 29 #[.int .u8 4, .int .i64 0] w fun e w' => e = .returned (.tuple #[.int .u64 4, .int .i64 0]) ∧ w = w' := by
  obtain ⟨-, c8, c9⟩ := h
  go_enter Tryd.func29, Tryd.ntmps29
  go_wp2
  go_ret2
  exact ⟨rfl, rfl⟩

set_option maxHeartbeats 400000 in
set_option maxRecDepth 100000 in
theorem rmake_none : Calls Tryd.prog 35 #[.int .u8 4, .int .i64 0] w fun e w' => e = .returned (.tuple #[.int .u64 4, .int .i64 0]) ∧ w = w' := by
  go_enter Tryd.func35, Tryd.ntmps35
  go_wp2
  go_ret2
  exact ⟨rfl, rfl⟩

theorem info33 : (Tryd.prog.info? 33).map (fun i => (i.zero, i.size, i.bytes)) = some (some (.int .u64 0), 1, 8) := by kernel_rfl
theorem size33 : (Tryd.prog.info? 33).map (·.size) = some 1 := by kernel_rfl

theorem splice_rep (k n : Nat) (a b : Value) (hk : k ≤ n) : splice (List.replicate k a ++ List.replicate (n - k) b) k (List.replicate (min k (n - k)) a) =
    List.replicate (k + min k (n - k)) a ++ List.replicate (n - (k + min k (n - k))) b := by
  simp only [splice, List.length_replicate]
  rw [List.take_append_of_le_length (by simp), List.take_of_length_le (by simp), ← List.append_assoc, List.replicate_append_replicate]
  congr 1
  rw [List.drop_append, List.drop_of_length_le (by simp), List.nil_append]
  simp
  omega

theorem rep_get (k n i : Nat) (a b : Value) (hi : i < k) : (List.replicate k a ++ List.replicate (n - k) b)[i]? = some a := by
  rw [List.getElem?_append_left (by simpa using hi)]; simp [hi]

theorem same_below {a b c : World} {G : Nat} (h : Same [] a b) (hB : a.heap.size ≤ G) (k : Below G b c) : Same [] a c :=
  ⟨k.os.trans h.os, k.tape.trans h.tape, k.output.trans h.output, Nat.le_trans h.size k.size, fun i hi hn => (k.block i (by omega)).trans (h.block i hi hn)⟩

set_option maxHeartbeats 1600000 in
set_option maxRecDepth 100000 in
theorem repeat_any (gx : Nat) (n : Nat) (hn : n ≤ 64) (hx : w.cell? ⟨gx, 0, none⟩ = some (.int .u64 4)) (hgx : gx < w.heap.size) :
    Calls Tryd.prog 30 #[.slice (some ⟨gx, 0, none⟩) 1 1, .int .i64 n] w fun e w' => ∃ v, e = .returned v ∧ Row w' 33 1 v n (List.replicate n (.int .u64 4)) ∧ Same [] w w' ∧ ∀ k ∈ blk v, w.heap.size ≤ k := by
  have hm := Tryd.bits_Mul 1 n (by omega) (by omega) w
  have e1 : 1 * n / 18446744073709551616 = 0 := by omega
  have e2 : 1 * n % 18446744073709551616 = n := by omega
  rw [e1, e2] at hm
  have HM := Lib.hid (hm.mono (fun e w' h => (⟨h.1, h.2.symm⟩ : _ ∧ w = w')))
  clear e1 e2 hm
  go_enter Tryd.func30, Tryd.ntmps30
  go_wp2_with (first
    | (go_at_call 71; refine HM.out.mono ?_; rintro e w1 ⟨rfl, rfl⟩)
    | (at_make; refine wpList_make_blk _ rfl (.tmp 29) (.tmp 29) 91 rfl 33 (.int .u64 0) 1 8 Tryd.underlying91 info33 n rfl rfl ?m1 ?m2 ?K))
  case m1 => omega
  case m2 => unfold maxLen; omega
  case K =>
    intro w2 hb hs
    simp only [Nat.mul_one, show (Value.int .u64 0).cells = #[.int .u64 0] from rfl, toList_madeCells_one] at hb
    have hx2 := (hs.cell hgx (by simp)).trans hx
    have hlt2 : w.heap.size < w2.heap.size := hb.lt
    obtain ⟨G, hG⟩ : ∃ G, G = w.heap.size := ⟨_, rfl⟩
    rw [← hG] at hb hlt2 ⊢
    have HG := Lib.hid hG
    have HS := Lib.hid hs
    have HB := Lib.hid hb
    have HX2 := Lib.hid hx2
    clear hG hs hb
    by_cases hn0 : n = 0
    · subst hn0
      go_wp2_with (refine wpList_copy_splice (o := ⟨some 33, _, _, _, _, _⟩) rfl (.tmp 31) (.tmp 32) 91 91 rfl 33 Tryd.underlying91 size33 (some ⟨G, 0, none⟩) (some ⟨gx, 0, none⟩) 0 0 1 1 rfl rfl G 0 [] 33 HB.out [] rfl ?p1 ?p2 ?p3 G w2 (Below.refl _ _) (Nat.le_refl _) ?p4)
      case p2 => simp
      case p3 => simp
      case p4 =>
        intro w3 hb3 hbel
        have HBL := Lib.hid hbel
        clear hbel
        go_wp2
        refine wp_loop_rounds 1 ?_
        rw [rounds_succ]
        go_wp2
        go_ret
        refine ⟨_, rfl, ?_, same_below HS.out (by rw [HG.out]; exact Nat.le_refl _) HBL.out, ?_⟩
        · have := Row.full (w := w3) (g := G) (cs := []) (t := 33) (by have := hb3.out; simpa [splice, Blk] using this) 0 1 rfl (by simp [maxLen])
          simpa using this
        · intro k hk; simp [blk] at hk; rw [hk, HG.out]; exact Nat.le_refl _
    · have hn1 : 1 ≤ n := by omega
      have hsp : splice (List.replicate n (Value.int .u64 0)) 0 [.int .u64 4] = List.replicate 1 (.int .u64 4) ++ List.replicate (n - 1) (.int .u64 0) := by
        obtain ⟨k, rfl⟩ : ∃ k, n = k + 1 := ⟨n - 1, by omega⟩
        simp [splice, List.replicate_succ]
      have HSP := Lib.hid hsp
      have hq : 0 < [Value.int .u64 4].length → (some ⟨G, 0, none⟩ : Option Addr) = some ⟨G, 0, none⟩ ∧ ∃ ad : Addr, (some ⟨gx, 0, none⟩ : Option Addr) = some ad ∧ ∀ j v, [Value.int .u64 4][j]? = some v → w2.cell? (ad.add j) = some v := by
        intro _
        refine ⟨rfl, _, rfl, fun j v hj => ?_⟩
        match j, hj with
        | 0, hj => simp at hj; subst hj; simpa [Addr.add] using HX2.out
        | k + 1, hj => simp at hj
      have HQ := Lib.hid hq
      clear hsp hn0 hq
      go_wp2_with (refine wpList_copy_splice (o := ⟨some 33, _, _, _, _, _⟩) rfl (.tmp 31) (.tmp 32) 91 91 rfl 33 Tryd.underlying91 size33 (some ⟨G, 0, none⟩) (some ⟨gx, 0, none⟩) n n 1 1 rfl rfl G 0 (List.replicate n (.int .u64 0)) 33 HB.out [.int .u64 4] ?q0 HQ.out ?q2 ?q3 G w2 (Below.refl _ _) (Nat.le_refl _) ?q4)
      case q3 => first | rfl | (intro v hv; simp at hv; subst hv; rfl)
      case q4 =>
        intro w3 hb3 hbel
        have hb4 : Hid (Blk w3 G 33 (List.replicate 1 (.int .u64 4) ++ List.replicate (n - 1) (.int .u64 0))) := by
          have := hb3.out; rw [HSP.out] at this; exact this
        have HBL := Lib.hid hbel
        clear hbel hb3
        go_wp2
        go_loopw [8] (fun c wr => ∃ k : Nat, 1 ≤ k ∧ k ≤ n ∧ c = .int .i64 k ∧ Blk wr G 33 (List.replicate k (.int .u64 4) ++ List.replicate (n - k) (.int .u64 0)) ∧ Below G w2 wr)
          (fun c _ => n - (intOf c).toNat)
        case atStart => exact ⟨1, Nat.le_refl _, hn1, rfl, hb4.out, HBL.out⟩
        case round =>
          obtain ⟨k, hk1, hk, rfl, hbk, hbel⟩ := hrel
          have HBK := Lib.hid hbk
          have HBE := Lib.hid hbel
          clear hbk hbel
          by_cases hlt : k < n
          · have i1 : (0 : Int) ≤ (k : Int) := by omega
            have i2 : (k : Int) ≤ (n : Int) := by omega
            have hmin : (List.replicate (min k (n - k)) (Value.int .u64 4)).length = Nat.min k (n - k) := by simp
            have hsrc : ∀ j v, (List.replicate (min k (n - k)) (Value.int .u64 4))[j]? = some v → wr.cell? ((⟨G, 0, none⟩ : Addr).add j) = some v := fun j v hj => by
              have hjl : j < min k (n - k) := by have := (List.getElem?_eq_some_iff.1 hj).1; simpa using this
              have hv : v = .int .u64 4 := by simp [hjl] at hj; exact hj.symm
              have : (⟨G, 0, none⟩ : Addr).add j = ⟨G, j, none⟩ := by unfold Addr.add; split <;> simp_all
              rw [this, HBK.out.cell, rep_get _ _ _ _ _ (by omega), hv]
            have HSRC := Lib.hid hsrc
            have HMIN := Lib.hid hmin
            have hfit : k + (List.replicate (min k (n - k)) (Value.int .u64 4)).length ≤ (List.replicate k (Value.int .u64 4) ++ List.replicate (n - k) (Value.int .u64 0)).length := by simp; omega
            have HFIT := Lib.hid hfit
            have hnk : (n = k) = False := by simp; omega
            clear hmin hsrc hfit
            go_wp2
            go_region_law (refine step_copy_splice rfl (.tmp 41) (.tmp 44) 91 91 rfl 33 Tryd.underlying91 size33 (some ⟨G, k, none⟩) (some ⟨G, 0, none⟩) (n - k) (n - k) k n (by simp [Act.eval, Act.put]) (by simp [Act.eval, Act.put]) G k (List.replicate k (Value.int .u64 4) ++ List.replicate (n - k) (Value.int .u64 0)) 33 HBK.out.drew (List.replicate (min k (n - k)) (Value.int .u64 4)) HMIN.out (fun _ => ⟨rfl, _, rfl, HSRC.out⟩) HFIT.out (by intro v hv; simp at hv; rw [hv.2]; rfl) G w2 HBE.out.drew (Nat.le_refl _) ?_; intro w4 hg4 hb4)
            have HB4 : Hid (Blk w4 G 33 (List.replicate (k + min k (n - k)) (.int .u64 4) ++ List.replicate (n - (k + min k (n - k))) (.int .u64 0))) := by
              have := hg4.out; rw [splice_rep _ _ _ _ hk] at this; exact this
            have HBE4 := Lib.hid hb4
            clear hg4 hb4 hnk HSRC HMIN HFIT
            generalize hq : min k (n - k) = q at *
            have hq1 : 1 ≤ q := by omega
            have hq2 : k + q ≤ n := by omega
            clear hq
            have hw : IntKind.i64.wrap ((k : Int) + (q : Int)) = (k : Int) + (q : Int) := by simp only [IntKind.wrap_i64, wrap64]; omega
            simp [Act.put, hw]
            clear hw
            go_wp2
            go_roundw
            case rel => exact ⟨k + q, by omega, by omega, by go_num, HB4.out, HBE4.out⟩
            case measure => simp [intOf]; omega
          · have hkn : k = n := by omega
            subst hkn
            go_wp2
            go_ret
            refine ⟨_, rfl, ?_, same_below HS.out (by rw [HG.out]; exact Nat.le_refl _) HBE.out, ?_⟩
            · have := Row.full (w := wr) (g := G) (cs := List.replicate k (.int .u64 4)) (t := 33) (by have := HBK.out; simpa using this) k 1 (by simp) (by simp [maxLen]; omega)
              exact this
            · intro k hk; simp [blk] at hk; rw [hk, HG.out]; exact Nat.le_refl _
end Lk
end Go.Proofs.YtkfdoocmapjkbaaDoor
