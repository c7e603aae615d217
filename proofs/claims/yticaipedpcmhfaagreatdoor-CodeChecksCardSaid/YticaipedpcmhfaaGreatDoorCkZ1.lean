/- Layer 8: code put together out of lists that came in: append of a list that is read, to a list that is one's own. -/
import Derived.Test.YticaipedpcmhfaaGreatDoorCkQ2
import Derived.Test.YticaipedpcmhfaaGreatDoorCkQ3
import Derived.Laws.AppendOwnNone
import Derived.Maps.AppendAt
namespace Go.Proofs.YticaipedpcmhfaaGreatDoor
open Go.RowKit Hp
namespace Ck
variable {w w' : World}

theorem run_append_none0 {P : Program} (w : World) (base : Nat) (t ty e : TypeId) (i : TypeInfo) (size : Nat) (ht : P.underlying t = some (.slice e)) (hi : P.info? e = some i)
    (v : Value) (n : Nat) (xs : List Value) (hown : w.ownsRow base e size v n xs) (c : Nat) :
    (Builtin.append_ #[t, t] ty #[v, .slice none 0 c]).run P w = .ok v w := by
  rcases hown.2 with ⟨rfl, rfl⟩ | ⟨g, cap, cur, rfl, _, _, hnc, _⟩
  · simp [Builtin.append_, run_underlying ht, sizeOf, typeInfo, hi, Builtin.lenOf, Builtin.firstCells]
  · simp [Builtin.append_, run_underlying ht, sizeOf, typeInfo, hi, Builtin.lenOf, Builtin.firstCells, hnc, storeCells]

/-- 'append' of what is read to an own row. -/
theorem wpList_app_sq {P : Program} (w : World) {ops : Array Oper} {rest : List Oper} {o : Oper} {a : Act} {Q : Exit → Act → World → Prop}
    (hg : o.guard = none) (s x : Operand) (t : TypeId) (ho : o.op = Op.call { callee := Callee.builtin Builtin.append, args := #[s, x], argTypes := #[t, t] })
    (e : TypeId) (z : Value) (size bytes : Nat) (ht : P.underlying t = some (.slice e)) (hinfo : (P.info? e).map (fun i => (i.zero, i.size, i.bytes)) = some (some z, size, bytes)) (hzs : z.cells.size = size) (hsz : 0 < size)
    (B : Nat) (hB : B ≤ w.heap.size) (v : Value) (n : Nat) (xs : List Value) (hs : a.eval s = v) (hown : w.ownsRow B e size v n xs)
    (A : Option Addr) (m c : Nat) (news : List Value) (hx : a.eval x = .slice A m c) (hl : news.length = m * size) (hnone : A = none → m = 0) (hsrc : ∀ ad, A = some ad → ∀ j u, news[j]? = some u → w.cell? (ad.add j) = some u) (h1 : ∀ u ∈ news, u.oneCell' = true)
    (h63 : n + m ≤ maxLen) (hbytes : (n + m) * bytes ≤ 140737488355328)
    (h : ∀ A' C' w', w'.ownsRow B e size (.slice A' (n + m) C') (n + m) (xs ++ news) → Same v.ownBlock.toList w w' → wpList P ops Q rest (a.put o.dst (.slice A' (n + m) C')) w') :
    wpList P ops Q (o :: rest) a w := by
  obtain ⟨i, hi, h3, h4, h5⟩ := info_parts hinfo
  refine wpList_plain hg fun K hK' => ?_
  cases A with
  | none =>
    obtain rfl := hnone rfl
    have hnews : news = [] := List.eq_nil_of_length_eq_zero (by simpa using hl)
    subst hnews
    have hrun := run_append_none0 (P := P) w B t o.type e i size ht hi v n xs hown c
    unfold Oper.wp
    simp [execOp, ho, resolve, invoke, builtin, hs, hx, hrun, Result.andThen]
    obtain ⟨A', C', hv⟩ : ∃ A' C', v = .slice A' n C' := by
      rcases hown.2 with ⟨rfl, rfl⟩ | ⟨g, cap, cur, rfl, _⟩
      · exact ⟨none, 0, rfl⟩
      · exact ⟨_, cap, rfl⟩
    subst hv
    exact hK' _ _ (h A' C' w (by simpa using hown) (Same.refl _ _))
  | some ad =>
    obtain ⟨v', w', hrun, q2, q3, _, _⟩ := run_append_own_at (P := P) w B t o.type e i z size bytes ht hi h3 h4 h5 hzs hsz v n xs hown ad m c news hl (hsrc ad rfl) h1 h63 hbytes hB
    obtain ⟨A', C', hv⟩ : ∃ A' C', v' = .slice A' (n + m) C' := by
      rcases q2.2 with ⟨rfl, h0⟩ | ⟨g, cap, cur, rfl, _⟩
      · exact ⟨none, 0, by rw [h0]⟩
      · exact ⟨_, cap, rfl⟩
    subst hv
    unfold Oper.wp
    simp [execOp, ho, resolve, invoke, builtin, hs, hx, hrun, Result.andThen]
    exact hK' _ _ (h A' C' w' q2 (Same.of_grown q3))

/-- An own row from block B on, behind what leaves it alone. -/
theorem own_frame {B e size n : Nat} {v : Value} {xs : List Value} {F : List Nat} (h : w.ownsRow B e size v n xs) (hs : Same F w w') (hn : ∀ b, v.ownBlock = some b → b ∉ F) : w'.ownsRow B e size v n xs := by
  refine ⟨h.1, ?_⟩
  rcases h.2 with h0 | ⟨g, cap, cur, rfl, hg, hc, r⟩
  · exact .inl h0
  · exact .inr ⟨g, cap, cur, rfl, hg, (hs.block g (Array.getElem?_eq_some_iff.1 hc).1 (hn g rfl)).trans hc, r⟩
theorem own_zero {B e size n : Nat} {v : Value} {xs : List Value} (h : w.ownsRow B e size v n xs) : Ow w e size v n xs := by
  refine ⟨h.1, ?_⟩
  rcases h.2 with h0 | ⟨g, cap, cur, rfl, hg, r⟩
  · exact .inl h0
  · exact .inr ⟨g, cap, cur, rfl, Nat.zero_le _, r⟩
theorem own_above {B e size n b : Nat} {v : Value} {xs : List Value} (h : w.ownsRow B e size v n xs) (hb : v.ownBlock = some b) : B ≤ b := by
  rcases h.2 with ⟨rfl, _⟩ | ⟨g, cap, cur, rfl, hg, _⟩
  · cases hb
  · cases hb; exact hg

/-- Code that is put together: a box of its own; own lists of constants and globals (from block B on), of procedures (from block Bp on); procedures' instructions wherever they lay in the world W0. -/
structure RO (W0 w : World) (B Bp bx : Nat) (cv pv gv : Value) (kvs : List Value) (c : Cd.Co) : Prop where
  cr : w.ownsRow B 74 1 cv c.consts.length (c.consts.map (Value.int .u64))
  gr : w.ownsRow B 9 1 gv c.globals.length (c.globals.map Value.string)
  pr : w.ownsRow Bp 68 2 pv c.procs.length (flatP c.procs kvs)
  kl : kvs.length = c.procs.length
  ks : ∀ i, i < c.procs.length → RIs W0 (kvs.getD i undef) (c.procs.getD i ⟨0, []⟩).code
  box : Blk w bx 26 [cv, pv, gv]
  same : Same [] W0 w
  above : W0.heap.size ≤ B
  abovep : W0.heap.size ≤ Bp
  bxb : W0.heap.size ≤ bx

theorem fW_at (l : List Int) (i j : Nat) (hi : i < l.length) (hj : j < 1) : (l.map (Value.int .u64))[i * 1 + j]? = some (fW l i j) := by
  obtain rfl : j = 0 := by omega
  rw [Nat.mul_one, Nat.add_zero, List.getElem?_map, List.getElem?_eq_getElem hi, fW, List.getD, List.getElem?_eq_getElem hi]; rfl
theorem fS_at (l : List ByteArray) (i j : Nat) (hi : i < l.length) (hj : j < 1) : (l.map Value.string)[i * 1 + j]? = some (fS l i j) := by
  obtain rfl : j = 0 := by omega
  rw [Nat.mul_one, Nat.add_zero, List.getElem?_map, List.getElem?_eq_getElem hi, fS, List.getD, List.getElem?_eq_getElem hi]; rfl

/-- What is read, as a list to be appended. -/
theorem Sq.src {A : Option Addr} {n cap sz : Nat} {f : Nat → Nat → Value} {xs : List Value} (h : Sq w (.slice A n cap) n sz f) (hx : xs.length = n * sz) (hf : ∀ i j, i < n → j < sz → xs[i * sz + j]? = some (f i j)) :
    (A = none → n = 0) ∧ ∀ ad, A = some ad → ∀ j u, xs[j]? = some u → w.cell? (ad.add j) = some u := by
  obtain ⟨A', cap', he, h1, h2, h3⟩ := h
  injection he with he1 _ he3
  subst he1 he3
  refine ⟨fun hA => ?_, fun ad hA j u hj => ?_⟩
  · rcases Nat.eq_zero_or_pos n with h0 | h0
    · exact h0
    · obtain ⟨b, off, e, _⟩ := h3 h0
      rw [hA] at e; cases e
  · have hjl : j < n * sz := by rw [← hx]; exact (List.getElem?_eq_some_iff.1 hj).1
    have hs : 0 < sz := by
      rcases Nat.eq_zero_or_pos sz with h0 | h0
      · rw [h0] at hjl; omega
      · exact h0
    have hi : j / sz < n := by rw [Nat.div_lt_iff_lt_mul hs]; exact hjl
    obtain ⟨b, off, e, _, hc⟩ := h3 (Nat.lt_of_le_of_lt (Nat.zero_le _) hi)
    rw [hA] at e
    injection e with e
    subst e
    have e2 : j / sz * sz + j % sz = j := by rw [Nat.mul_comm]; exact Nat.div_add_mod j sz
    have h4 := hc (j / sz) (j % sz) hi (Nat.mod_lt _ hs)
    have h5 := hf (j / sz) (j % sz) hi (Nat.mod_lt _ hs)
    rw [e2, hj] at h5
    injection h5 with h5
    rw [Nat.add_assoc, e2, ← h5] at h4
    have : (⟨b, off, none⟩ : Addr).add j = ⟨b, off + j, none⟩ := by unfold Addr.add; split <;> simp_all
    rw [this]; exact h4

section
variable {W0 : World} {B Bp bx : Nat} {cv pv gv : Value} {kvs : List Value} {c : Cd.Co}
theorem RO.read (h : RO W0 w B Bp bx cv pv gv kvs c) : RCoAt w cv pv gv c :=
  ⟨(own_zero h.cr).sq (fW_at c.consts), ⟨fun i => kvs.getD i undef, (own_zero h.pr).sq (fun i j hi hj => flatP_at c.procs kvs i j h.kl hi hj), fun i hi => (h.ks i hi).frame h.same⟩, (own_zero h.gr).sq (fS_at c.globals)⟩
theorem RO.frameF {F : List Nat} (h : RO W0 w B Bp bx cv pv gv kvs c) (hs : Same F w w') (h1 : ∀ b, cv.ownBlock = some b → b ∉ F) (h2 : ∀ b, gv.ownBlock = some b → b ∉ F) (h3 : ∀ b, pv.ownBlock = some b → b ∉ F) (h4 : bx ∉ F) (h5 : ∀ b ∈ F, W0.heap.size ≤ b) : RO W0 w' B Bp bx cv pv gv kvs c :=
  ⟨own_frame h.cr hs h1, own_frame h.gr hs h2, own_frame h.pr hs h3, h.kl, h.ks, h.box.frame hs h4, h.same.trans' hs (fun b hb => .inr (h5 b hb)), h.above, h.abovep, h.bxb⟩
theorem RO.frame (h : RO W0 w B Bp bx cv pv gv kvs c) (hs : Same [] w w') : RO W0 w' B Bp bx cv pv gv kvs c :=
  h.frameF hs (by simp) (by simp) (by simp) (by simp) (by simp)
theorem RO.cells (h : RO W0 w B Bp bx cv pv gv kvs c) : w.cell? ⟨bx, 0, none⟩ = some cv ∧ w.cell? ⟨bx, 1, none⟩ = some pv ∧ w.cell? ⟨bx, 2, none⟩ = some gv ∧ bx < w.heap.size ∧ ∀ j, w.frozen? ⟨bx, j, none⟩ = false :=
  ⟨h.box.cell 0, h.box.cell 1, h.box.cell 2, h.box.lt, h.box.frozen⟩
theorem opt_mem {o : Option Nat} {b : Nat} (h : b ∈ o.toList) : o = some b := by simpa using h

/-- The constants are others. -/
theorem RO.setC {cs : List Int} {v2 : Value} (h : RO W0 w B Bp bx cv pv gv kvs c) (hs : Same cv.ownBlock.toList w w') (ho : w'.ownsRow B 74 1 v2 cs.length (cs.map (Value.int .u64))) : RO W0 (w'.setCell ⟨bx, 0, none⟩ v2) B Bp bx v2 pv gv kvs ⟨cs, c.globals, c.procs⟩ := by
  have hb : ∀ b, cv.ownBlock = some b → b ≠ bx := fun b hb e => (own_zero h.cr).ne_blk h.box (by decide) (e ▸ hb)
  have hbx : bx ∉ cv.ownBlock.toList := fun hm => hb bx (opt_mem hm) rfl
  have hb' := h.box.frame hs hbx
  have hset : ∀ {e n sz : Nat} {v : Value} {xs : List Value} {B' : Nat}, w'.ownsRow B' e sz v n xs → e ≠ 26 → (w'.setCell ⟨bx, 0, none⟩ v2).ownsRow B' e sz v n xs := fun {e n sz v xs B'} h0 hne =>
    own_frame h0 (F := [bx]) ((Same.refl _ _).setCell (.inl (by simp)) _) (fun b hb2 hm => (own_zero h0).ne_blk hb' hne (by rw [hb2, List.mem_singleton.1 hm]))
  refine ⟨hset ho (by decide), hset (own_frame h.gr hs fun b hb2 hm => (own_zero h.gr).ne (own_zero h.cr) (by decide) hb2 (opt_mem hm)) (by decide), hset (own_frame h.pr hs fun b hb2 hm => (own_zero h.pr).ne (own_zero h.cr) (by decide) hb2 (opt_mem hm)) (by decide), h.kl, h.ks, hb'.set 0 _, ?_, h.above, h.abovep, h.bxb⟩
  exact (h.same.trans' hs (fun b hb2 => .inr (Nat.le_trans h.above (own_above h.cr (opt_mem hb2))))).setCell (.inr h.bxb) _
/-- The globals are others. -/
theorem RO.setG {gs : List ByteArray} {v2 : Value} (h : RO W0 w B Bp bx cv pv gv kvs c) (hs : Same gv.ownBlock.toList w w') (ho : w'.ownsRow B 9 1 v2 gs.length (gs.map Value.string)) : RO W0 (w'.setCell ⟨bx, 2, none⟩ v2) B Bp bx cv pv v2 kvs ⟨c.consts, gs, c.procs⟩ := by
  have hb : ∀ b, gv.ownBlock = some b → b ≠ bx := fun b hb e => (own_zero h.gr).ne_blk h.box (by decide) (e ▸ hb)
  have hbx : bx ∉ gv.ownBlock.toList := fun hm => hb bx (opt_mem hm) rfl
  have hb' := h.box.frame hs hbx
  have hset : ∀ {e n sz : Nat} {v : Value} {xs : List Value} {B' : Nat}, w'.ownsRow B' e sz v n xs → e ≠ 26 → (w'.setCell ⟨bx, 2, none⟩ v2).ownsRow B' e sz v n xs := fun {e n sz v xs B'} h0 hne =>
    own_frame h0 (F := [bx]) ((Same.refl _ _).setCell (.inl (by simp)) _) (fun b hb2 hm => (own_zero h0).ne_blk hb' hne (by rw [hb2, List.mem_singleton.1 hm]))
  refine ⟨hset (own_frame h.cr hs fun b hb2 hm => (own_zero h.cr).ne (own_zero h.gr) (by decide) hb2 (opt_mem hm)) (by decide), hset ho (by decide), hset (own_frame h.pr hs fun b hb2 hm => (own_zero h.pr).ne (own_zero h.gr) (by decide) hb2 (opt_mem hm)) (by decide), h.kl, h.ks, hb'.set 2 _, ?_, h.above, h.abovep, h.bxb⟩
  exact (h.same.trans' hs (fun b hb2 => .inr (Nat.le_trans h.above (own_above h.gr (opt_mem hb2))))).setCell (.inr h.bxb) _
/-- The procedures are others. -/
theorem RO.setP {ps : List Cd.Pr} {ks : List Value} {v2 : Value} (h : RO W0 w B Bp bx cv pv gv kvs c) (hs : Same pv.ownBlock.toList w w') (ho : w'.ownsRow Bp 68 2 v2 ps.length (flatP ps ks)) (hkl : ks.length = ps.length) (hks : ∀ i, i < ps.length → RIs W0 (ks.getD i undef) (ps.getD i ⟨0, []⟩).code) : RO W0 (w'.setCell ⟨bx, 1, none⟩ v2) B Bp bx cv v2 gv ks ⟨c.consts, c.globals, ps⟩ := by
  have hb : ∀ b, pv.ownBlock = some b → b ≠ bx := fun b hb e => (own_zero h.pr).ne_blk h.box (by decide) (e ▸ hb)
  have hbx : bx ∉ pv.ownBlock.toList := fun hm => hb bx (opt_mem hm) rfl
  have hb' := h.box.frame hs hbx
  have hset : ∀ {e n sz : Nat} {v : Value} {xs : List Value} {B' : Nat}, w'.ownsRow B' e sz v n xs → e ≠ 26 → (w'.setCell ⟨bx, 1, none⟩ v2).ownsRow B' e sz v n xs := fun {e n sz v xs B'} h0 hne =>
    own_frame h0 (F := [bx]) ((Same.refl _ _).setCell (.inl (by simp)) _) (fun b hb2 hm => (own_zero h0).ne_blk hb' hne (by rw [hb2, List.mem_singleton.1 hm]))
  refine ⟨hset (own_frame h.cr hs fun b hb2 hm => (own_zero h.cr).ne (own_zero h.pr) (by decide) hb2 (opt_mem hm)) (by decide), hset (own_frame h.gr hs fun b hb2 hm => (own_zero h.gr).ne (own_zero h.pr) (by decide) hb2 (opt_mem hm)) (by decide), hset ho (by decide), hkl, hks, hb'.set 1 _, ?_, h.above, h.abovep, h.bxb⟩
  exact (h.same.trans' hs (fun b hb2 => .inr (Nat.le_trans h.abovep (own_above h.pr (opt_mem hb2))))).setCell (.inr h.bxb) _
/-- The box alone, behind an append to one of its lists. -/
theorem RO.boxAfter {v : Value} (h : RO W0 w B Bp bx cv pv gv kvs c) (hv : v = cv ∨ v = gv ∨ v = pv) (hs : Same v.ownBlock.toList w w') : w'.cell? ⟨bx, 0, none⟩ = some cv ∧ w'.cell? ⟨bx, 1, none⟩ = some pv ∧ w'.cell? ⟨bx, 2, none⟩ = some gv ∧ bx < w'.heap.size ∧ ∀ j, w'.frozen? ⟨bx, j, none⟩ = false := by
  have hn : bx ∉ v.ownBlock.toList := fun hm => by
    have hm := opt_mem hm
    rcases hv with rfl | rfl | rfl
    · exact (own_zero h.cr).ne_blk h.box (by decide) hm
    · exact (own_zero h.gr).ne_blk h.box (by decide) hm
    · exact (own_zero h.pr).ne_blk h.box (by decide) hm
  have hb := h.box.frame hs hn
  exact ⟨hb.cell 0, hb.cell 1, hb.cell 2, hb.lt, hb.frozen⟩
theorem RO.blkAfter {v : Value} (h : RO W0 w B Bp bx cv pv gv kvs c) (hv : v = cv ∨ v = gv ∨ v = pv) (hs : Same v.ownBlock.toList w w') : Blk w' bx 26 [cv, pv, gv] :=
  h.box.frame hs (fun hm => by
    have hm := opt_mem hm
    rcases hv with rfl | rfl | rfl
    · exact (own_zero h.cr).ne_blk h.box (by decide) hm
    · exact (own_zero h.gr).ne_blk h.box (by decide) hm
    · exact (own_zero h.pr).ne_blk h.box (by decide) hm)
/-- Other procedures' list grows: below this one's. -/
theorem RO.below {pv2 : Value} {n2 B2 : Nat} {xs2 : List Value} (h : RO W0 w B Bp bx cv pv gv kvs c) (hs : Same pv2.ownBlock.toList w w') (ho : w.ownsRow B2 68 2 pv2 n2 xs2) (hB2 : W0.heap.size ≤ B2) (hlt : ∀ b, pv2.ownBlock = some b → b < Bp) : RO W0 w' B Bp bx cv pv gv kvs c :=
  h.frameF hs (fun b hb hm => (own_zero h.cr).ne (own_zero ho) (by decide) hb (opt_mem hm)) (fun b hb hm => (own_zero h.gr).ne (own_zero ho) (by decide) hb (opt_mem hm)) (fun b hb hm => by
    have h1 := hlt b (opt_mem hm)
    have h2 := own_above h.pr hb
    omega) (fun hm => (own_zero ho).ne_blk h.box (by decide) (opt_mem hm)) (fun b hm => Nat.le_trans hB2 (own_above ho (opt_mem hm)))
/-- Another box is written. -/
theorem RO.setOther (h : RO W0 w B Bp bx cv pv gv kvs c) {b i : Nat} {cs : List Value} (hb : Blk w b 26 cs) (hne : bx ≠ b) (hb0 : W0.heap.size ≤ b) (v : Value) : RO W0 (w.setCell ⟨b, i, none⟩ v) B Bp bx cv pv gv kvs c :=
  h.frameF (F := [b]) ((Same.refl _ _).setCell (.inl (by simp)) _) (fun x hx hm => (own_zero h.cr).ne_blk hb (by decide) (by rw [hx, List.mem_singleton.1 hm])) (fun x hx hm => (own_zero h.gr).ne_blk hb (by decide) (by rw [hx, List.mem_singleton.1 hm])) (fun x hx hm => (own_zero h.pr).ne_blk hb (by decide) (by rw [hx, List.mem_singleton.1 hm])) (fun hm => hne (List.mem_singleton.1 hm)) (fun x hm => by rw [List.mem_singleton.1 hm]; exact hb0)
theorem RO.sameAfter {v : Value} (h : RO W0 w B Bp bx cv pv gv kvs c) (hv : v = cv ∨ v = gv ∨ v = pv) (hs : Same v.ownBlock.toList w w') : Same [] W0 w' :=
  h.same.trans' hs (fun b hm => .inr (by
    have hm := opt_mem hm
    rcases hv with rfl | rfl | rfl
    · exact Nat.le_trans h.above (own_above h.cr hm)
    · exact Nat.le_trans h.above (own_above h.gr hm)
    · exact Nat.le_trans h.abovep (own_above h.pr hm)))
end
end Ck
end Go.Proofs.YticaipedpcmhfaaGreatDoor
