/- Layer 19: how a book of package locks lies in memory, and the calls 'find', 'waits', 'goes'. -/
import Derived.Test.YtkfdoocmapjkbaaDoorProg
import Derived.Test.YtkfdoocmapjkbaaDoorHp
import Derived.Test.YtkfdoocmapjkbaaDoorLkM
import Derived.Outline
import Derived.RegionTactic
import Derived.ChangeAlike
import Derived.Deep.QuietTactic
import Derived.BigQuiet
import Derived.BigRegion
namespace Go.Proofs.YtkfdoocmapjkbaaDoor
open Go.RowKit Hp
namespace Lk

def thE (t : Th) : List Value := [.bool t.en, .int .u64 t.w, .int .i64 t.e, .int .i64 t.fin, .int .i64 t.lk]
def loE (p : Lo × Value) : List Value := [.int .i64 p.1.ho, p.2]
def nE (k : IntKind) (x : Int) : List Value := [.int k x]
theorem thE_len (t : Th) : (thE t).length = 5 := rfl
theorem loE_len (t : Lo × Value) : (loE t).length = 2 := rfl
theorem nE_len (k : IntKind) (x : Int) : (nE k x).length = 1 := rfl

structure RepI (w : World) (B : Nat) (m : Bk) (F : List Nat) (tv lv gv : Value) (rvs : List Value) : Prop where
  book : Blk w B 93 [tv, lv, gv]
  ths : Row w 98 5 tv m.ths.length (m.ths.flatMap thE)
  lks : Row w 107 2 lv m.lks.length ((m.lks.zip rvs).flatMap loE)
  gl : Row w 33 1 gv m.gl.length (m.gl.flatMap (nE .u64))
  rv : rvs.length = m.lks.length
  rows : ∀ i, i < rvs.length → Row w 3 1 (rvs.getD i undef) (m.lks.getD i l0).row.length ((m.lks.getD i l0).row.flatMap (nE .i64))
  apart : ∀ i j, i < rvs.length → j < rvs.length → i ≠ j → ∀ k ∈ blk (rvs.getD i undef), k ∉ blk (rvs.getD j undef)
  fB : B ∈ F
  fT : ∀ k ∈ blk tv, k ∈ F
  fL : ∀ k ∈ blk lv, k ∈ F
  fG : ∀ k ∈ blk gv, k ∈ F
  fR : ∀ i, i < rvs.length → ∀ k ∈ blk (rvs.getD i undef), k ∈ F
  lt : ∀ k ∈ F, k < w.heap.size

def Rep (w : World) (B : Nat) (m : Bk) (F : List Nat) : Prop := ∃ tv lv gv rvs, RepI w B m F tv lv gv rvs

section
variable {w w' : World} {B : Nat} {m : Bk} {F : List Nat} {tv lv gv : Value} {rvs : List Value}

theorem RepI.frame {G : List Nat} (h : RepI w B m F tv lv gv rvs) (hs : Same G w w') (hd : ∀ k ∈ F, k ∉ G) : RepI w' B m F tv lv gv rvs :=
  ⟨h.book.frame hs (hd B h.fB), h.ths.frame hs (fun k hk => hd k (h.fT k hk)), h.lks.frame hs (fun k hk => hd k (h.fL k hk)), h.gl.frame hs (fun k hk => hd k (h.fG k hk)), h.rv,
    fun i hi => (h.rows i hi).frame hs (fun k hk => hd k (h.fR i hi k hk)), h.apart, h.fB, h.fT, h.fL, h.fG, h.fR, fun k hk => Nat.lt_of_lt_of_le (h.lt k hk) hs.size⟩

theorem Rep.frame {G : List Nat} (h : Rep w B m F) (hs : Same G w w') (hd : ∀ k ∈ F, k ∉ G) : Rep w' B m F := by
  obtain ⟨tv, lv, gv, rvs, h⟩ := h
  exact ⟨tv, lv, gv, rvs, h.frame hs hd⟩

/-- A thread's cells, and how the book stands behind a store into one of them. -/
theorem RepI.thread (h : RepI w B m F tv lv gv rvs) (n : Int) (hn : m.is n = true) :
    ∃ g off cap, tv = .slice (some ⟨g, off, none⟩) m.ths.length cap ∧ g < w.heap.size ∧ g ∈ F ∧
      w.cell? ⟨g, off + (n.toNat - 1) * 5, none⟩ = some (.bool (m.th n).en) ∧ w.cell? ⟨g, off + (n.toNat - 1) * 5 + 1, none⟩ = some (.int .u64 (m.th n).w) ∧
      w.cell? ⟨g, off + (n.toNat - 1) * 5 + 2, none⟩ = some (.int .i64 (m.th n).e) ∧ w.cell? ⟨g, off + (n.toNat - 1) * 5 + 3, none⟩ = some (.int .i64 (m.th n).fin) ∧
      w.cell? ⟨g, off + (n.toNat - 1) * 5 + 4, none⟩ = some (.int .i64 (m.th n).lk) ∧ (∀ j, w.frozen? ⟨g, j, none⟩ = false) ∧
      (∀ j v t', j < 5 → (thE (m.th n)).set j v = thE t' → RepI (w.setCell ⟨g, off + (n.toNat - 1) * 5 + j, none⟩ v) B (m.setT n t') F tv lv gv rvs) := by
  simp only [Bk.is, decide_eq_true_eq] at hn
  obtain ⟨g, off, cap, htv, hcap, hlt, hc, hfr⟩ := h.ths.at_ (by omega)
  have hi : (n.toNat - 1) < m.ths.length := by omega
  have hth : m.th n = m.ths[(n.toNat - 1)] := by unfold Bk.th; rw [List.getD_eq_getElem?_getD, List.getElem?_eq_getElem hi]; rfl
  have hcell : ∀ j, j < 5 → w.cell? ⟨g, off + (n.toNat - 1) * 5 + j, none⟩ = (thE (m.th n))[j]? := fun j hj => by
    rw [Nat.add_assoc, hc _ (by omega), flat_get thE 5 thE_len _ _ _ hi hj, hth]
  have hgb : g ∈ blk tv := by rw [htv]; simp [blk]
  refine ⟨g, off, cap, htv, hlt, h.fT g hgb, hcell 0 (by omega), hcell 1 (by omega), hcell 2 (by omega), hcell 3 (by omega), hcell 4 (by omega), hfr, fun j v t' hj ht => ?_⟩
  have hs : Same [g] w (w.setCell ⟨g, off + (n.toNat - 1) * 5 + j, none⟩ v) := (Same.refl _ _).setCell (by simp) v
  have far : ∀ {e s n v' xs}, Row w e s v' n xs → 98 ≠ e → ∀ k ∈ blk v', k ∉ [g] := fun hr he k hk hm => by
    simp at hm; subst hm; exact h.ths.ne hr he _ hgb hk
  refine ⟨h.book.setOther (fun e => h.ths.ne_blk h.book (by decide) g hgb e.symm) v, ?_, h.lks.frame hs (far h.lks (by decide)), h.gl.frame hs (far h.gl (by decide)), h.rv,
    fun i hi => (h.rows i hi).frame hs (far (h.rows i hi) (by decide)), h.apart, h.fB, h.fT, h.fL, h.fG, h.fR, by simpa using h.lt⟩
  have hths := h.ths
  rw [htv] at hths ⊢
  have := hths.set ((n.toNat - 1) * 5 + j) (by omega) v
  rw [flat_set thE 5 thE_len t' j v hj _ _ hi (by rw [← hth]; exact ht), ← Nat.add_assoc] at this
  simpa [Bk.setT] using this

theorem zip_set {α β : Type} (l : List α) (r : List β) (i : Nat) (x : α) (y : β) : (l.zip r).set i (x, y) = (l.set i x).zip (r.set i y) := by
  induction l generalizing r i with
  | nil => simp
  | cons a l ih =>
    cases r with
    | nil => simp
    | cons b r => cases i <;> simp [ih]

theorem getD_set_ne {α : Type} (l : List α) (i j : Nat) (x d : α) (h : i ≠ j) : (l.set i x).getD j d = l.getD j d := by
  simp [List.getD, List.getElem?_set_ne h]
theorem getD_set_eq {α : Type} (l : List α) (i : Nat) (x d : α) (h : i < l.length) : (l.set i x).getD i d = x := by
  simp [List.getD, h]
theorem set_getD {α : Type} (l : List α) (i : Nat) (d : α) : l.set i (l.getD i d) = l := by
  apply List.ext_getElem?
  intro j
  by_cases h : i = j
  · subst h
    by_cases hi : i < l.length
    · simp [List.getElem?_set, hi, List.getD]
    · simp [List.getElem?_set, hi]
  · simp [List.getElem?_set, h]

/-- A lock's cells, and how the book stands behind a store of its holder, of its row. -/
theorem RepI.lock (h : RepI w B m F tv lv gv rvs) (l : Int) (hl : m.isL l = true) :
    ∃ g off cap, lv = .slice (some ⟨g, off, none⟩) m.lks.length cap ∧ g < w.heap.size ∧ g ∈ F ∧ (∀ k ∈ blk (rvs.getD l.toNat undef), k ∈ F ∧ k ≠ g) ∧
      w.cell? ⟨g, off + l.toNat * 2, none⟩ = some (.int .i64 (m.lo l).ho) ∧ w.cell? ⟨g, off + l.toNat * 2 + 1, none⟩ = some (rvs.getD l.toNat undef) ∧
      (∀ j, w.frozen? ⟨g, j, none⟩ = false) ∧ Row w 3 1 (rvs.getD l.toNat undef) (m.lo l).row.length ((m.lo l).row.flatMap (nE .i64)) ∧
      (∀ x, RepI (w.setCell ⟨g, off + l.toNat * 2, none⟩ (.int .i64 x)) B (m.setL l { m.lo l with ho := x }) F tv lv gv rvs) ∧
      (∀ w1 v row', Same (blk (rvs.getD l.toNat undef)) w w1 → (∀ k ∈ blk v, k ∈ blk (rvs.getD l.toNat undef) ∨ w.heap.size ≤ k) → Row w1 3 1 v row'.length (row'.flatMap (nE .i64)) →
        RepI (w1.setCell ⟨g, off + l.toNat * 2 + 1, none⟩ v) B (m.setL l { m.lo l with row := row' }) (F ++ blk v) tv lv gv (rvs.set l.toNat v)) := by
  simp only [Bk.isL, decide_eq_true_eq] at hl
  obtain ⟨g, off, cap, hlv, hcap, hlt, hc, hfr⟩ := h.lks.at_ (by omega)
  have hi : l.toNat < m.lks.length := by omega
  have hir : l.toNat < rvs.length := by rw [h.rv]; exact hi
  have hiz : l.toNat < (m.lks.zip rvs).length := by simp; omega
  have hlo : m.lo l = m.lks[l.toNat] := by simp [Bk.lo, List.getD, hi]
  have hrv : rvs.getD l.toNat undef = rvs[l.toNat] := by simp [List.getD, hir]
  have hcell : ∀ j, j < 2 → w.cell? ⟨g, off + l.toNat * 2 + j, none⟩ = (loE (m.lo l, rvs.getD l.toNat undef))[j]? := fun j hj => by
    rw [Nat.add_assoc, hc _ (by omega), flat_get loE 2 loE_len _ _ _ hiz hj, hlo, hrv]; simp
  have hgb : g ∈ blk lv := by rw [hlv]; simp [blk]
  have hrow := h.rows l.toNat hir
  rw [show m.lks.getD l.toNat l0 = m.lo l from rfl] at hrow
  have far : ∀ {e s n v' xs}, Row w e s v' n xs → 107 ≠ e → ∀ k ∈ blk v', k ≠ g := fun hr he k hk hm => by
    subst hm; exact h.lks.ne hr he _ hgb hk
  have far1 : ∀ {e s n v' xs}, Row w e s v' n xs → 107 ≠ e → ∀ k ∈ blk v', k ∉ [g] := fun hr he k hk hm => far hr he k hk (by simpa using hm)
  have hgB : B ≠ g := fun e => h.lks.ne_blk h.book (by decide) g hgb e.symm
  refine ⟨g, off, cap, hlv, hlt, h.fL g hgb, fun k hk => ⟨h.fR _ hir k hk, far hrow (by decide) k hk⟩, hcell 0 (by omega), hcell 1 (by omega), hfr, hrow, fun x => ?_, fun w1 v row' hs1 hv hr => ?_⟩
  · have hs : Same [g] w (w.setCell ⟨g, off + l.toNat * 2, none⟩ (.int .i64 x)) := (Same.refl _ _).setCell (by simp) _
    refine ⟨h.book.setOther hgB _, h.ths.frame hs (far1 h.ths (by decide)), ?_, h.gl.frame hs (far1 h.gl (by decide)),
      by simpa [Bk.setL] using h.rv, fun i hi' => ?_, h.apart, h.fB, h.fT, h.fL, h.fG, h.fR, by simpa using h.lt⟩
    · have hlks := h.lks
      rw [hlv] at hlks ⊢
      have := hlks.set (l.toNat * 2 + 0) (by omega) (.int .i64 x)
      rw [flat_set loE 2 loE_len ({ m.lo l with ho := x }, rvs.getD l.toNat undef) 0 (.int .i64 x) (by omega) _ _ hiz (by rw [List.getElem_zip, ← hlo, ← hrv]; rfl), zip_set, set_getD] at this
      simpa [Bk.setL] using this
    · have := (h.rows i hi').frame hs (far1 (h.rows i hi') (by decide))
      have e : ((m.setL l { m.lo l with ho := x }).lks.getD i l0).row = (m.lks.getD i l0).row := by
        by_cases hil : l.toNat = i
        · subst hil; simp [Bk.setL, List.getD, hi, hlo]
        · simp only [Bk.setL]; rw [getD_set_ne _ _ _ _ _ hil]
      rw [e]; exact this
  · have hsv : Same (g :: blk (rvs.getD l.toNat undef)) w (w1.setCell ⟨g, off + l.toNat * 2 + 1, none⟩ v) := (hs1.mono (fun x hx => .inl (List.mem_cons_of_mem _ hx))).setCell (by simp) v
    have hs1' : ∀ {e s n v' xs}, Row w e s v' n xs → 3 ≠ e → ∀ k ∈ blk v', k ∉ blk (rvs.getD l.toNat undef) := fun hr he k hk hm => hrow.ne hr he k hm hk
    have far2 : ∀ {e s n v' xs}, Row w e s v' n xs → 107 ≠ e → 3 ≠ e → ∀ k ∈ blk v', k ∉ g :: blk (rvs.getD l.toNat undef) := fun hr he he' k hk hm => by
      rcases List.mem_cons.1 hm with hm | hm
      · exact far hr he k hk hm
      · exact hs1' hr he' k hk hm
    have hvlt : ∀ k ∈ blk v, k < w1.heap.size := hr.lt
    refine ⟨?_, ?_, ?_, ?_, ?_, ?_, ?_, ?_, ?_, ?_, ?_, ?_, ?_⟩
    · exact h.book.frame hsv (fun hm => by
        rcases List.mem_cons.1 hm with hm | hm
        · exact hgB hm
        · exact hrow.ne_blk h.book (by decide) B hm rfl)
    · exact h.ths.frame hsv (far2 h.ths (by decide) (by decide))
    · have hlks := h.lks.frame hs1 (hs1' h.lks (by decide))
      rw [hlv] at hlks ⊢
      have := hlks.set (l.toNat * 2 + 1) (by omega) v
      rw [flat_set loE 2 loE_len ({ m.lo l with row := row' }, v) 1 v (by omega) _ _ hiz (by simp [hlo, loE]), zip_set, ← Nat.add_assoc] at this
      simpa [Bk.setL] using this
    · exact h.gl.frame hsv (far2 h.gl (by decide) (by decide))
    · simpa [Bk.setL] using h.rv
    · intro i hi'
      have hi2 : i < rvs.length := by simpa using hi'
      by_cases hil : l.toNat = i
      · subst hil
        rw [getD_set_eq _ _ _ _ hir]
        simp only [Bk.setL]
        rw [getD_set_eq _ _ _ _ hi]
        refine hr.setOther (fun hm => ?_) v
        rcases hv g hm with h1 | h1
        · exact far hrow (by decide) g h1 rfl
        · omega
      · rw [getD_set_ne _ _ _ _ _ hil]
        simp only [Bk.setL]
        rw [getD_set_ne _ _ _ _ _ hil]
        refine (h.rows i hi2).frame hsv (fun k hk hm => ?_)
        rcases List.mem_cons.1 hm with hm | hm
        · exact far (h.rows i hi2) (by decide) k hk hm
        · exact h.apart i l.toNat hi2 hir (fun e => hil e.symm) k hk hm
    · intro i j hi' hj' hij k hk hm
      have hi2 : i < rvs.length := by simpa using hi'
      have hj2 : j < rvs.length := by simpa using hj'
      by_cases hil : l.toNat = i
      · subst hil
        rw [getD_set_eq _ _ _ _ hir] at hk
        rw [getD_set_ne _ _ _ _ _ hij] at hm
        rcases hv k hk with h1 | h1
        · exact h.apart _ j hir hj2 hij k h1 hm
        · have := (h.rows j hj2).lt k hm; omega
      · rw [getD_set_ne _ _ _ _ _ hil] at hk
        by_cases hjl : l.toNat = j
        · subst hjl
          rw [getD_set_eq _ _ _ _ hir] at hm
          rcases hv k hm with h1 | h1
          · exact h.apart i _ hi2 hir hij k hk h1
          · have := (h.rows i hi2).lt k hk; omega
        · rw [getD_set_ne _ _ _ _ _ hjl] at hm
          exact h.apart i j hi2 hj2 hij k hk hm
    · simp [h.fB]
    · intro k hk; simp [h.fT k hk]
    · intro k hk; simp [h.fL k hk]
    · intro k hk; simp [h.fG k hk]
    · intro i hi' k hk
      have hi2 : i < rvs.length := by simpa using hi'
      by_cases hil : l.toNat = i
      · subst hil; rw [getD_set_eq _ _ _ _ hir] at hk; simp [hk]
      · rw [getD_set_ne _ _ _ _ _ hil] at hk; simp [h.fR i hi2 k hk]
    · intro k hk
      simp only [World.size_setCell]
      rcases List.mem_append.1 hk with hk | hk
      · exact Nat.lt_of_lt_of_le (h.lt k hk) hs1.size
      · exact hvlt k hk

theorem setT_len (m : Bk) (n : Int) (t : Th) : (m.setT n t).ths.length = m.ths.length := by simp [Bk.setT]
theorem setL_len (m : Bk) (l : Int) (x : Lo) : (m.setL l x).lks.length = m.lks.length := by simp [Bk.setL]

theorem RepI.tform (h : RepI w B m F tv lv gv rvs) : ∃ a c, tv = .slice a m.ths.length c := by
  obtain ⟨a, c, e, _⟩ := h.ths.form; exact ⟨a, c, e⟩
theorem RepI.lform (h : RepI w B m F tv lv gv rvs) : ∃ a c, lv = .slice a m.lks.length c := by
  obtain ⟨a, c, e, _⟩ := h.lks.form; exact ⟨a, c, e⟩
theorem RepI.gform (h : RepI w B m F tv lv gv rvs) : ∃ a c, gv = .slice a m.gl.length c := by
  obtain ⟨a, c, e, _⟩ := h.gl.form; exact ⟨a, c, e⟩

theorem RepI.b0 (h : RepI w B m F tv lv gv rvs) : w.cell? ⟨B, 0, none⟩ = some tv := by rw [h.book.cell]; rfl
theorem RepI.b1 (h : RepI w B m F tv lv gv rvs) : w.cell? ⟨B, 1, none⟩ = some lv := by rw [h.book.cell]; rfl
theorem RepI.b2 (h : RepI w B m F tv lv gv rvs) : w.cell? ⟨B, 2, none⟩ = some gv := by rw [h.book.cell]; rfl

/-- The thread's cells where the threads' slice is written out. -/
theorem RepI.thr {g off k cap : Nat} (h : RepI w B m F (.slice (some ⟨g, off, none⟩) k cap) lv gv rvs) (n : Int) (hn : m.is n = true) :
    g < w.heap.size ∧ g ∈ F ∧ B ≠ g ∧
      w.cell? ⟨g, off + (n.toNat - 1) * 5, none⟩ = some (.bool (m.th n).en) ∧ w.cell? ⟨g, off + (n.toNat - 1) * 5 + 1, none⟩ = some (.int .u64 (m.th n).w) ∧
      w.cell? ⟨g, off + (n.toNat - 1) * 5 + 2, none⟩ = some (.int .i64 (m.th n).e) ∧ w.cell? ⟨g, off + (n.toNat - 1) * 5 + 3, none⟩ = some (.int .i64 (m.th n).fin) ∧
      w.cell? ⟨g, off + (n.toNat - 1) * 5 + 4, none⟩ = some (.int .i64 (m.th n).lk) ∧ (∀ j, w.frozen? ⟨g, j, none⟩ = false) ∧
      (∀ j v t', j < 5 → (thE (m.th n)).set j v = thE t' → RepI (w.setCell ⟨g, off + (n.toNat - 1) * 5 + j, none⟩ v) B (m.setT n t') F (.slice (some ⟨g, off, none⟩) k cap) lv gv rvs) := by
  obtain ⟨g', off', cap', he, h1, h2, r⟩ := h.thread n hn
  injection he with e1 e2 e3
  injection e1 with e1
  injection e1 with e1 e4 _
  subst e1 e2 e3 e4
  exact ⟨h1, h2, fun e => h.ths.ne_blk h.book (by decide) _ (by simp [blk]) e.symm, r⟩

/-- The lock's cells where the locks' slice is written out. -/
theorem RepI.lok {g off k cap : Nat} (h : RepI w B m F tv (.slice (some ⟨g, off, none⟩) k cap) gv rvs) (l : Int) (hl : m.isL l = true) :
    g < w.heap.size ∧ g ∈ F ∧ B ≠ g ∧ (∀ x ∈ blk tv, x ≠ g) ∧ (∀ x ∈ blk (rvs.getD l.toNat undef), x ∈ F ∧ x ≠ g ∧ x ≠ B ∧ x ∉ blk tv) ∧
      w.cell? ⟨g, off + l.toNat * 2, none⟩ = some (.int .i64 (m.lo l).ho) ∧ w.cell? ⟨g, off + l.toNat * 2 + 1, none⟩ = some (rvs.getD l.toNat undef) ∧
      (∀ j, w.frozen? ⟨g, j, none⟩ = false) ∧ Row w 3 1 (rvs.getD l.toNat undef) (m.lo l).row.length ((m.lo l).row.flatMap (nE .i64)) ∧
      (∀ x, RepI (w.setCell ⟨g, off + l.toNat * 2, none⟩ (.int .i64 x)) B (m.setL l { m.lo l with ho := x }) F tv (.slice (some ⟨g, off, none⟩) k cap) gv rvs) ∧
      (∀ w1 v row', Same (blk (rvs.getD l.toNat undef)) w w1 → (∀ x ∈ blk v, x ∈ blk (rvs.getD l.toNat undef) ∨ w.heap.size ≤ x) → Row w1 3 1 v row'.length (row'.flatMap (nE .i64)) →
        RepI (w1.setCell ⟨g, off + l.toNat * 2 + 1, none⟩ v) B (m.setL l { m.lo l with row := row' }) (F ++ blk v) tv (.slice (some ⟨g, off, none⟩) k cap) gv (rvs.set l.toNat v)) := by
  obtain ⟨g', off', cap', he, h1, h2, h3, h4, h5, h6, h7, r⟩ := h.lock l hl
  injection he with e1 e2 e3
  injection e1 with e1
  injection e1 with e1 e4 _
  subst e1 e2 e3 e4
  exact ⟨h1, h2, fun e => h.lks.ne_blk h.book (by decide) _ (by simp [blk]) e.symm, fun x hx e => h.ths.ne h.lks (by decide) x hx (by simp [blk, e]),
    fun x hx => ⟨(h3 x hx).1, (h3 x hx).2, h7.ne_blk h.book (by decide) x hx, h7.ne h.ths (by decide) x hx⟩, h4, h5, h6, h7, r⟩

theorem RepI.shrink {F' : List Nat} (h : RepI w B m F tv lv gv rvs) (hF : ∀ k ∈ F, k ∈ F') (hlt : ∀ k ∈ F', k < w.heap.size) : RepI w B m F' tv lv gv rvs :=
  ⟨h.book, h.ths, h.lks, h.gl, h.rv, h.rows, h.apart, hF _ h.fB, fun k hk => hF k (h.fT k hk), fun k hk => hF k (h.fL k hk), fun k hk => hF k (h.fG k hk), fun i hi k hk => hF k (h.fR i hi k hk), hlt⟩

theorem RepI.tlit (h : RepI w B m F tv lv gv rvs) {n : Int} (hn : m.is n = true) : ∃ g o c, tv = .slice (some ⟨g, o, none⟩) m.ths.length c := by
  obtain ⟨g, o, c, he, _⟩ := h.thread n hn; exact ⟨g, o, c, he⟩
theorem RepI.llit (h : RepI w B m F tv lv gv rvs) {l : Int} (hl : m.isL l = true) : ∃ g o c, lv = .slice (some ⟨g, o, none⟩) m.lks.length c := by
  obtain ⟨g, o, c, he, _⟩ := h.lock l hl; exact ⟨g, o, c, he⟩
theorem RepI.tk {a : Option Addr} {k c : Nat} (h : RepI w B m F (.slice a k c) lv gv rvs) : k = m.ths.length := by
  obtain ⟨a', c', e⟩ := h.tform; injection e
theorem RepI.lk_ {a : Option Addr} {k c : Nat} (h : RepI w B m F tv (.slice a k c) gv rvs) : k = m.lks.length := by
  obtain ⟨a', c', e⟩ := h.lform; injection e
theorem RepI.drew (h : RepI w B m F tv lv gv rvs) : RepI w.drew B m F tv lv gv rvs := h.frame (G := []) ((Same.refl _ _).drew) (by simp)
end
end Lk
end Go.Proofs.YtkfdoocmapjkbaaDoor
