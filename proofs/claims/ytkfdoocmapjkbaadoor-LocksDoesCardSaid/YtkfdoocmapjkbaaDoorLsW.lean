/- Layer 19, LocksStay: small. -/
import Derived.Test.YtkfdoocmapjkbaaDoorLrS
namespace Go.Proofs.YtkfdoocmapjkbaaDoor
open Go.RowKit Hp
namespace Lk
variable {w w' W : World}

def in64 (x : Int) : Prop := -9223372036854775808 ≤ x ∧ x ≤ 9223372036854775807

set_option maxHeartbeats 1600000 in
set_option maxRecDepth 100000 in
theorem small_any (kd t n x e : Int) (ht : in64 t) (hn : in64 n) :
    Calls Tryd.prog 20 #[.agg #[.int .i64 kd, .int .i64 t, .int .i64 n, .int .u64 x, .int .i64 e]] W fun en w' =>
      ∃ t' n' : Int, en = .returned (.agg #[.int .i64 kd, .int .i64 t', .int .i64 n', .int .u64 x, .int .i64 e]) ∧ Same [] W w' := by
  have HP : Hid (∀ w1 : World, Calls Tryd.prog 10 #[.int .i64 t, .int .i64 6] w1 fun e w' => ∃ q : Int, 0 ≤ q ∧ q < 6 ∧ e = .returned (.int .i64 q) ∧ w1 = w') := Lib.hid (fun w1 => pick_any (W := w1) t 6 (by omega) (by omega) ht.1 ht.2)
  have HQ : Hid (∀ w1 : World, Calls Tryd.prog 10 #[.int .i64 n, .int .i64 3] w1 fun e w' => ∃ q : Int, 0 ≤ q ∧ q < 3 ∧ e = .returned (.int .i64 q) ∧ w1 = w') := Lib.hid (fun w1 => pick_any (W := w1) n 3 (by omega) (by omega) hn.1 hn.2)
  clear ht hn
  by_cases k3 : kd = 3
  · subst k3
    go_enter Tryd.func20, Tryd.ntmps20
    go_wp2_with fail
    refine (HP.out _).mono ?_
    rintro en w1 ⟨q, q1, q2, rfl, rfl⟩
    go_wp2_with fail
    refine (HQ.out _).mono ?_
    rintro en w1 ⟨p, p1, p2, rfl, rfl⟩
    go_wp2_with fail
    refine (pick_any (p + (1 + q)) 6 (by omega) (by omega) (by omega) (by omega)).mono ?_
    rintro en w1 ⟨r, r1, r2, rfl, rfl⟩
    go_wp2
    exact bodyPost_ret (v := .agg #[.int .i64 3, .int .i64 (1 + q), .int .i64 (1 + r), .int .u64 x, .int .i64 e]) (by simp [results, Tryd.results20, go_sem]) rfl ⟨_, _, rfl, (by repeat (first | exact Same.refl _ _ | refine Same.setCell ?_ (.inr (by simp)) _ | refine Same.alloc ?_ _ | refine Same.drew ?_))⟩
  · have e1 : (kd == 3) = false := by simpa using k3
    clear k3
    go_enter Tryd.func20, Tryd.ntmps20
    go_wp2_with fail
    refine (HP.out _).mono ?_
    rintro en w1 ⟨q, q1, q2, rfl, rfl⟩
    go_wp2_with fail
    refine (HQ.out _).mono ?_
    rintro en w1 ⟨p, p1, p2, rfl, rfl⟩
    go_wp2
    exact bodyPost_ret (v := .agg #[.int .i64 kd, .int .i64 (1 + q), .int .i64 p, .int .u64 x, .int .i64 e]) (by simp [results, Tryd.results20, go_sem]) rfl ⟨_, _, rfl, (by repeat (first | exact Same.refl _ _ | refine Same.setCell ?_ (.inr (by simp)) _ | refine Same.alloc ?_ _ | refine Same.drew ?_))⟩

/-- A script in memory: each step's five cells. -/
def Sc (w : World) (v : Value) (n : Nat) : Prop := ∃ A c, v = .slice A n c ∧ n ≤ c ∧ c ≤ maxLen ∧ ∀ i, i < n → ∃ a : Addr, A = some a ∧ (a.add (i * 5)).block < w.heap.size ∧ ∃ kd t l x e : Int, in64 kd ∧ in64 t ∧ in64 l ∧
  w.cell? (a.add (i * 5)) = some (.int .i64 kd) ∧ w.cell? ⟨(a.add (i * 5)).block, (a.add (i * 5)).off + 1, none⟩ = some (.int .i64 t) ∧ w.cell? ⟨(a.add (i * 5)).block, (a.add (i * 5)).off + 2, none⟩ = some (.int .i64 l) ∧
  w.cell? ⟨(a.add (i * 5)).block, (a.add (i * 5)).off + 3, none⟩ = some (.int .u64 x) ∧ w.cell? ⟨(a.add (i * 5)).block, (a.add (i * 5)).off + 4, none⟩ = some (.int .i64 e)

/-- The two books, whatever they hold. -/
def Bks (w W : World) (B R : Nat) : Prop := ∃ m mr F G, Pair w W B R m mr F G

theorem stepM_keep {m : Bk} (ok : Ok m) (kd t n x e : Int) : ∀ S, Ring m S → Keep m (stepM m kd t n x e) S := fun S hR => by
  unfold stepM
  split
  · exact start_keep hR
  · split
    · exact endF_keep ok t x e hR
    · split
      · exact join_keep t n hR
      · split
        · exact lock_keep t n hR
        · split
          · exact unlock_keep ok t n hR
          · split
            · exact setGlobal_keep n x hR
            · exact Keep.refl hR
theorem Keep_len {m m' : Bk} (h : m'.ths.length = m.ths.length) : m.ths.length ≤ m'.ths.length := by omega
theorem stepM_len {m : Bk} (kd t n x e : Int) : m.ths.length ≤ (stepM m kd t n x e).ths.length := by
  unfold stepM
  split
  · unfold start; split <;> simp
  · split
    · unfold endF
      split
      · exact Nat.le_refl _
      · split
        · exact Nat.le_refl _
        · have : (endM m t x e).ths.length = m.ths.length := by
            have h := (handAll_inv (ended m t x e) t m.lks.length).1
            simp only [endM, List.length_map]
            exact h.trans (by simp [ended, Bk.setT])
          simp only [this]; exact Nat.le_refl _
    · split
      · unfold joinF
        repeat (first | exact Nat.le_refl _ | (simp [Bk.setT]; done) | split)
      · split
        · unfold lockF
          repeat (first | exact Nat.le_refl _ | (simp [Bk.setT, Bk.setL]; done) | split)
        · split
          · unfold unlockF
            repeat (first | exact Nat.le_refl _ | (rw [(hand_inv m n).1]; exact Nat.le_refl _) | split)
          · split
            · unfold setGlobalF
              split <;> exact Nat.le_refl _
            · exact Nat.le_refl _

/-- Who is stuck stays so. -/
theorem stepM_stuck {m : Bk} (ok : Ok m) (kd t n x e i : Int) (h : i ∈ stuckF m) : i ∈ stuckF (stepM m kd t n x e) :=
  stuck_keep ok (stepM_len kd t n x e) (stepM_keep ok kd t n x e) i h

/-- One step of both books, of a fresh book of lists: what stays. -/
theorem step_fresh {B R : Nat} {m mr : Bk} {F G : List Nat} (kd t n x e : Int) (P : Pair w W B R m mr F G) (hw : w.heap.size ≤ W.heap.size) (W1 : World) (hW1 : W1 = W.alloc (.cells (cs17 (.slice none 0 0)).toArray 74)) :
    Calls Tryd.prog 21 #[.pointer (some ⟨B, 0, none⟩), .pointer (some ⟨R, 0, none⟩), .agg #[.int .i64 kd, .int .i64 t, .int .i64 n, .int .u64 x, .int .i64 e], .pointer (some ⟨W.heap.size, 0, none⟩)] W1 fun en w' =>
      ∃ c, en = .returned (.bool c) ∧ ∃ F' G', Pair w w' B R (stepM m kd t n x e) (stepM mr kd t n x e) F' G' ∧ Upd (F ++ G) (F' ++ G') W w' := by
  have hs : Same [] W W1 := by rw [hW1]; exact (Same.refl _ _).alloc _
  have hb : Blk W1 W.heap.size 74 (cs17 (.slice none 0 0)) := by rw [hW1]; exact Blk.new W 74 _
  have hF : W.heap.size ∉ F := fun h => by have := P.b.rep.lt _ h; omega
  have hG : W.heap.size ∉ G := fun h => by have := P.r.lt _ h; omega
  have T : Trio w W1 B R W.heap.size m mr [] F G [] := ⟨P.frame hs (by simp) (by simp), ⟨_, [], hb, LL.nil _⟩, hF, hG, by simp, by simp, by simp, hw, by simp⟩
  refine (step_any kd t n x e T (Nat.le_trans hw hs.size) (by simp)).mono ?_
  rintro en w2 ⟨c, rfl, -, F', G', V', ls', T', u, -⟩
  have hsz := hs.size
  refine ⟨c, rfl, F', G', T'.p, (hs.mono (by simp)).trans' u.same (fun y hy => ?_), fun k hk => ?_⟩
  · simp only [List.mem_append, List.mem_cons, List.not_mem_nil, or_false] at hy ⊢
    rcases hy with hy | rfl
    · exact .inl hy
    · exact .inr (Nat.le_refl _)
  · rcases u.new k (by simp only [List.mem_append] at hk ⊢; exact .inl hk) with h | h
    · simp only [List.mem_append, List.mem_cons, List.not_mem_nil, or_false] at h ⊢
      rcases h with h | rfl
      · exact .inl h
      · exact .inr (Nat.le_refl _)
    · exact .inr (by omega)
end Lk
end Go.Proofs.YtkfdoocmapjkbaaDoor
