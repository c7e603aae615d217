/- The book of lists that came out, as it lies in memory; a list more in it. -/
import Derived.Test.YticaipedpcmhfaaGreatDoorHpVal
import Derived.Test.YticaipedpcmhfaaGreatDoorProg
import Derived.IntWalk
namespace Go.Proofs.YticaipedpcmhfaaGreatDoor
open Go.RowKit Hp
namespace Ck
variable {w w' W w1 : World} {D : Nat} {to_ wo io po : Value} {tl wl il pl : List (Value × List (List Value))}

theorem own_frame {w w' : World} {e size n : Nat} {v : Value} {xs : List Value} {F : List Nat} (h : w.ownsRow 0 e size v n xs) (hs : Same F w w') (hn : ∀ b ∈ blk v, b ∉ F) : w'.ownsRow 0 e size v n xs := by
  refine ⟨h.1, ?_⟩
  rcases h.2 with h0 | ⟨g, cap, cur, rfl, hg, hc, r⟩
  · exact .inl h0
  · exact .inr ⟨g, cap, cur, rfl, hg, (hs.block g (Array.getElem?_eq_some_iff.1 hc).1 (hn g (by simp [blk]))).trans hc, r⟩

/-- The book: texts, words, instructions, procedures; of the other kinds none. -/
structure BkAt (W : World) (D : Nat) (to_ wo io po : Value) (tl wl il pl : List (Value × List (List Value))) : Prop where
  b : Blk W D 59 [.slice none 0 0, to_, .slice none 0 0, .slice none 0 0, .slice none 0 0, wo, .slice none 0 0, io, .slice none 0 0, .slice none 0 0, .slice none 0 0, .slice none 0 0, .slice none 0 0, .slice none 0 0, po, .slice none 0 0, .slice none 0 0]
  ft : FamL 24 9 1 W to_ tl
  fw : FamL 22 74 1 W wo wl
  fi : FamL 66 82 2 W io il
  fp : FamL 23 68 2 W po pl
  op : W.ownsRow 0 23 1 po pl.length (pl.map (·.1))

theorem BkAt.frame {F : List Nat} (h : BkAt W D to_ wo io po tl wl il pl) (hs : Same F W w1) (hd : D ∉ F) (h1 : ∀ x ∈ famB to_ tl, x ∉ F) (h2 : ∀ x ∈ famB wo wl, x ∉ F) (h3 : ∀ x ∈ famB io il, x ∉ F) (h4 : ∀ x ∈ famB po pl, x ∉ F) : BkAt w1 D to_ wo io po tl wl il pl :=
  ⟨h.b.frame hs hd, h.ft.frame hs h1, h.fw.frame hs h2, h.fi.frame hs h3, h.fp.frame hs h4, own_frame h.op hs (fun x hx => h4 x (List.mem_append_left _ hx))⟩
theorem BkAt.frame0 (h : BkAt W D to_ wo io po tl wl il pl) (hs : Same [] W w1) : BkAt w1 D to_ wo io po tl wl il pl := h.frame hs (by simp) (by simp) (by simp) (by simp) (by simp)

/-- A family past a list more in another one. -/
theorem FamL.past {te ti te' t : TypeId} {sz s k : Nat} {ro v : Value} {ls : List (Value × List (List Value))} {m : Nat} {xs cs : List Value} (f : FamL te ti sz W ro ls) (hr : Row W te' s v m xs) (n1 : te ≠ te') (n2 : ti ≠ te') (hb : Blk w1 D t cs) (n3 : te ≠ t) (n4 : ti ≠ t) (hs : Same (blk v) W w1) (u : Value) : FamL te ti sz (w1.setCell ⟨D, k, none⟩ u) ro ls := by
  have f1 := f.frame hs (f.off_row hr n1 n2)
  exact f1.frame (F := [D]) ((Same.refl _ _).setCell (by simp) u) (fun x hx hm => f1.off_blk hb n3 n4 (by rw [← List.mem_singleton.1 hm]; exact hx))

theorem BkAt.addW (h : BkAt W D to_ wo io po tl wl il pl) (p : Value × List (List Value)) (hp : Row W 74 1 p.1 p.2.length p.2.flatten) (hc : ∀ x ∈ p.2, x.length = 1) (ha : ∀ q ∈ wl, ∀ x ∈ blk q.1, x ∉ blk p.1) (v' : Value)
    (h1 : Row w1 22 1 v' (wl.length + 1) (wl.map (·.1) ++ [p.1])) (h2 : Same (blk wo) W w1) : BkAt (w1.setCell ⟨D, 5, none⟩ v') D to_ v' io po tl (wl ++ [p]) il pl := by
  have hDo : D ∉ blk wo := fun hm => h.fw.top.ne_blk h.b (by decide) D hm rfl
  have hb1 := h.b.frame h2 hDo
  have q := h.fw.add (by decide) p h2 h1 hp hc ha
  exact ⟨hb1.set 5 v', FamL.past h.ft h.fw.top (by decide) (by decide) hb1 (by decide) (by decide) h2 v', q.frame (F := [D]) ((Same.refl _ _).setCell (by simp) v') (fun x hx hm => q.off_blk hb1 (by decide) (by decide) (by rw [← List.mem_singleton.1 hm]; exact hx)), FamL.past h.fi h.fw.top (by decide) (by decide) hb1 (by decide) (by decide) h2 v', FamL.past h.fp h.fw.top (by decide) (by decide) hb1 (by decide) (by decide) h2 v', by first | exact own_frame (own_frame h.op h2 (h.fp.top.ne h.fw.top (by decide))) ((Same.refl [D] w1).setCell (by simp) v') (fun x hx hm => h.fp.top.ne_blk h.b (by decide) x hx (List.mem_singleton.1 hm)) | simpa using own_frame (own_frame h.op h2 (h.fp.top.ne h.fw.top (by decide))) ((Same.refl [D] w1).setCell (by simp) v') (fun x hx hm => h.fp.top.ne_blk h.b (by decide) x hx (List.mem_singleton.1 hm))⟩

theorem infoB_W : (Tryz.prog.info? 22).map (fun i => (i.zero, i.size, i.bytes)) = some (some (.slice none 0 0), 1, 24) := by kernel_rfl

set_option maxHeartbeats 800000 in
set_option maxRecDepth 100000 in
theorem bkWords (h : BkAt W D to_ wo io po tl wl il pl) (p : Value × List (List Value)) (hp : Row W 74 1 p.1 p.2.length p.2.flatten) (hc : ∀ x ∈ p.2, x.length = 1) (ha : ∀ q ∈ wl, ∀ x ∈ blk q.1, x ∉ blk p.1) (hn : wl.length ≤ 1000000) :
    Calls Tryz.prog 59 #[.pointer (some ⟨D, 0, none⟩), p.1] W fun e w' => e = .returned (.tuple #[]) ∧ ∃ v', BkAt w' D to_ v' io po tl (wl ++ [p]) il pl ∧ Same (D :: blk wo) W w' ∧ ∀ x ∈ blk v', x ∈ blk wo ∨ W.heap.size ≤ x := by
  obtain ⟨oa, oc, rfl, -, -, -⟩ := h.fw.top.form
  obtain ⟨pv, pe⟩ := p
  obtain ⟨va, vc, hv, -, -, -⟩ := hp.form
  simp only at hv hp hc ha ⊢
  subst hv
  have cf : W.cell? ⟨D, 5, none⟩ = some (.slice oa wl.length oc) := h.b.cell 5
  have hDl := h.b.lt
  have hfz := h.b.frozen
  have hDt : Hid (D ∉ blk (.slice oa wl.length oc)) := Lib.hid (fun hm => h.fw.top.ne_blk h.b (by decide) D hm rfl)
  have H := Lib.hid h
  have HP := Lib.hid hp
  have HC := Lib.hid hc
  have HA := Lib.hid ha
  clear h hp hc ha
  go_enter Tryz.func59, Tryz.ntmps59
  go_wp2_with (at_builtin; refine wpList_append_row _ rfl (.tmp 8) (.tmp 10) 46 rfl 22 (.slice none 0 0) 1 24 Tryz.underlying46 infoB_W rfl (by decide) (.slice oa wl.length oc) wl.length (wl.map (·.1)) rfl ?hrow1 ⟨W.heap.size, 0, none⟩ 1 1 [.slice va pe.length vc] rfl rfl ?c1 ?c2 ?b1 ?b2 ?K)
  case hrow1 => exact H.out.fw.top.alloc _
  case c1 => exact cells1_new _ _ _
  case c2 => intro u hu; simp at hu; subst hu; rfl
  case b1 => unfold maxLen; omega
  case b2 => omega
  case K =>
    intro v' w1 hrow' hsm hbk
    have hs1 : Same (blk (.slice oa wl.length oc)) W w1 := ((Same.refl _ _).alloc _).trans hsm
    have HF := Lib.hid (H.out.addW (.slice va pe.length vc, pe) HP.out HC.out HA.out v' hrow' hs1)
    have HS := Lib.hid (Same.setCell (F := D :: blk (.slice oa wl.length oc)) (hs1.mono (fun x hx => .inl (List.mem_cons_of_mem _ hx))) (p := ⟨D, 5, none⟩) (by simp) v')
    have HB : Hid (∀ x ∈ blk v', x ∈ blk (.slice oa wl.length oc) ∨ W.heap.size ≤ x) := Lib.hid (fun k hk => by
      rcases hbk k hk with h | h
      · exact .inl h
      · right; (try simp at h); omega)
    have c3 := (hs1.cell (b := D) (o := 5) hDl hDt.out).trans cf
    have f3 := (hs1.frozen (b := D) (o := 5) hDl hDt.out).trans (hfz 5)
    obtain ⟨a5, c5, rfl, -, -, -⟩ := hrow'.form
    clear hrow' hsm hbk hs1
    go_wp2
    go_end0
    exact ⟨rfl, _, HF.out, HS.out, HB.out⟩

theorem BkAt.addT (h : BkAt W D to_ wo io po tl wl il pl) (p : Value × List (List Value)) (hp : Row W 9 1 p.1 p.2.length p.2.flatten) (hc : ∀ x ∈ p.2, x.length = 1) (ha : ∀ q ∈ tl, ∀ x ∈ blk q.1, x ∉ blk p.1) (v' : Value)
    (h1 : Row w1 24 1 v' (tl.length + 1) (tl.map (·.1) ++ [p.1])) (h2 : Same (blk to_) W w1) : BkAt (w1.setCell ⟨D, 1, none⟩ v') D v' wo io po (tl ++ [p]) wl il pl := by
  have hDo : D ∉ blk to_ := fun hm => h.ft.top.ne_blk h.b (by decide) D hm rfl
  have hb1 := h.b.frame h2 hDo
  have q := h.ft.add (by decide) p h2 h1 hp hc ha
  exact ⟨hb1.set 1 v', q.frame (F := [D]) ((Same.refl _ _).setCell (by simp) v') (fun x hx hm => q.off_blk hb1 (by decide) (by decide) (by rw [← List.mem_singleton.1 hm]; exact hx)), FamL.past h.fw h.ft.top (by decide) (by decide) hb1 (by decide) (by decide) h2 v', FamL.past h.fi h.ft.top (by decide) (by decide) hb1 (by decide) (by decide) h2 v', FamL.past h.fp h.ft.top (by decide) (by decide) hb1 (by decide) (by decide) h2 v', by first | exact own_frame (own_frame h.op h2 (h.fp.top.ne h.ft.top (by decide))) ((Same.refl [D] w1).setCell (by simp) v') (fun x hx hm => h.fp.top.ne_blk h.b (by decide) x hx (List.mem_singleton.1 hm)) | simpa using own_frame (own_frame h.op h2 (h.fp.top.ne h.ft.top (by decide))) ((Same.refl [D] w1).setCell (by simp) v') (fun x hx hm => h.fp.top.ne_blk h.b (by decide) x hx (List.mem_singleton.1 hm))⟩

theorem infoB_T : (Tryz.prog.info? 24).map (fun i => (i.zero, i.size, i.bytes)) = some (some (.slice none 0 0), 1, 24) := by kernel_rfl

set_option maxHeartbeats 800000 in
set_option maxRecDepth 100000 in
theorem bkTexts (h : BkAt W D to_ wo io po tl wl il pl) (p : Value × List (List Value)) (hp : Row W 9 1 p.1 p.2.length p.2.flatten) (hc : ∀ x ∈ p.2, x.length = 1) (ha : ∀ q ∈ tl, ∀ x ∈ blk q.1, x ∉ blk p.1) (hn : tl.length ≤ 1000000) :
    Calls Tryz.prog 60 #[.pointer (some ⟨D, 0, none⟩), p.1] W fun e w' => e = .returned (.tuple #[]) ∧ ∃ v', BkAt w' D v' wo io po (tl ++ [p]) wl il pl ∧ Same (D :: blk to_) W w' ∧ ∀ x ∈ blk v', x ∈ blk to_ ∨ W.heap.size ≤ x := by
  obtain ⟨oa, oc, rfl, -, -, -⟩ := h.ft.top.form
  obtain ⟨pv, pe⟩ := p
  obtain ⟨va, vc, hv, -, -, -⟩ := hp.form
  simp only at hv hp hc ha ⊢
  subst hv
  have cf : W.cell? ⟨D, 1, none⟩ = some (.slice oa tl.length oc) := h.b.cell 1
  have hDl := h.b.lt
  have hfz := h.b.frozen
  have hDt : Hid (D ∉ blk (.slice oa tl.length oc)) := Lib.hid (fun hm => h.ft.top.ne_blk h.b (by decide) D hm rfl)
  have H := Lib.hid h
  have HP := Lib.hid hp
  have HC := Lib.hid hc
  have HA := Lib.hid ha
  clear h hp hc ha
  go_enter Tryz.func60, Tryz.ntmps60
  go_wp2_with (at_builtin; refine wpList_append_row _ rfl (.tmp 8) (.tmp 10) 42 rfl 24 (.slice none 0 0) 1 24 Tryz.underlying42 infoB_T rfl (by decide) (.slice oa tl.length oc) tl.length (tl.map (·.1)) rfl ?hrow1 ⟨W.heap.size, 0, none⟩ 1 1 [.slice va pe.length vc] rfl rfl ?c1 ?c2 ?b1 ?b2 ?K)
  case hrow1 => exact H.out.ft.top.alloc _
  case c1 => exact cells1_new _ _ _
  case c2 => intro u hu; simp at hu; subst hu; rfl
  case b1 => unfold maxLen; omega
  case b2 => omega
  case K =>
    intro v' w1 hrow' hsm hbk
    have hs1 : Same (blk (.slice oa tl.length oc)) W w1 := ((Same.refl _ _).alloc _).trans hsm
    have HF := Lib.hid (H.out.addT (.slice va pe.length vc, pe) HP.out HC.out HA.out v' hrow' hs1)
    have HS := Lib.hid (Same.setCell (F := D :: blk (.slice oa tl.length oc)) (hs1.mono (fun x hx => .inl (List.mem_cons_of_mem _ hx))) (p := ⟨D, 1, none⟩) (by simp) v')
    have HB : Hid (∀ x ∈ blk v', x ∈ blk (.slice oa tl.length oc) ∨ W.heap.size ≤ x) := Lib.hid (fun k hk => by
      rcases hbk k hk with h | h
      · exact .inl h
      · right; (try simp at h); omega)
    have c3 := (hs1.cell (b := D) (o := 1) hDl hDt.out).trans cf
    have f3 := (hs1.frozen (b := D) (o := 1) hDl hDt.out).trans (hfz 1)
    obtain ⟨a5, c5, rfl, -, -, -⟩ := hrow'.form
    clear hrow' hsm hbk hs1
    go_wp2
    go_end0
    exact ⟨rfl, _, HF.out, HS.out, HB.out⟩

theorem BkAt.addI (h : BkAt W D to_ wo io po tl wl il pl) (p : Value × List (List Value)) (hp : Row W 82 2 p.1 p.2.length p.2.flatten) (hc : ∀ x ∈ p.2, x.length = 2) (ha : ∀ q ∈ il, ∀ x ∈ blk q.1, x ∉ blk p.1) (v' : Value)
    (h1 : Row w1 66 1 v' (il.length + 1) (il.map (·.1) ++ [p.1])) (h2 : Same (blk io) W w1) : BkAt (w1.setCell ⟨D, 7, none⟩ v') D to_ wo v' po tl wl (il ++ [p]) pl := by
  have hDo : D ∉ blk io := fun hm => h.fi.top.ne_blk h.b (by decide) D hm rfl
  have hb1 := h.b.frame h2 hDo
  have q := h.fi.add (by decide) p h2 h1 hp hc ha
  exact ⟨hb1.set 7 v', FamL.past h.ft h.fi.top (by decide) (by decide) hb1 (by decide) (by decide) h2 v', FamL.past h.fw h.fi.top (by decide) (by decide) hb1 (by decide) (by decide) h2 v', q.frame (F := [D]) ((Same.refl _ _).setCell (by simp) v') (fun x hx hm => q.off_blk hb1 (by decide) (by decide) (by rw [← List.mem_singleton.1 hm]; exact hx)), FamL.past h.fp h.fi.top (by decide) (by decide) hb1 (by decide) (by decide) h2 v', by first | exact own_frame (own_frame h.op h2 (h.fp.top.ne h.fi.top (by decide))) ((Same.refl [D] w1).setCell (by simp) v') (fun x hx hm => h.fp.top.ne_blk h.b (by decide) x hx (List.mem_singleton.1 hm)) | simpa using own_frame (own_frame h.op h2 (h.fp.top.ne h.fi.top (by decide))) ((Same.refl [D] w1).setCell (by simp) v') (fun x hx hm => h.fp.top.ne_blk h.b (by decide) x hx (List.mem_singleton.1 hm))⟩

theorem infoB_I : (Tryz.prog.info? 66).map (fun i => (i.zero, i.size, i.bytes)) = some (some (.slice none 0 0), 1, 24) := by kernel_rfl

set_option maxHeartbeats 800000 in
set_option maxRecDepth 100000 in
theorem bkInstrs (h : BkAt W D to_ wo io po tl wl il pl) (p : Value × List (List Value)) (hp : Row W 82 2 p.1 p.2.length p.2.flatten) (hc : ∀ x ∈ p.2, x.length = 2) (ha : ∀ q ∈ il, ∀ x ∈ blk q.1, x ∉ blk p.1) (hn : il.length ≤ 1000000) :
    Calls Tryz.prog 61 #[.pointer (some ⟨D, 0, none⟩), p.1] W fun e w' => e = .returned (.tuple #[]) ∧ ∃ v', BkAt w' D to_ wo v' po tl wl (il ++ [p]) pl ∧ Same (D :: blk io) W w' ∧ ∀ x ∈ blk v', x ∈ blk io ∨ W.heap.size ≤ x := by
  obtain ⟨oa, oc, rfl, -, -, -⟩ := h.fi.top.form
  obtain ⟨pv, pe⟩ := p
  obtain ⟨va, vc, hv, -, -, -⟩ := hp.form
  simp only at hv hp hc ha ⊢
  subst hv
  have cf : W.cell? ⟨D, 7, none⟩ = some (.slice oa il.length oc) := h.b.cell 7
  have hDl := h.b.lt
  have hfz := h.b.frozen
  have hDt : Hid (D ∉ blk (.slice oa il.length oc)) := Lib.hid (fun hm => h.fi.top.ne_blk h.b (by decide) D hm rfl)
  have H := Lib.hid h
  have HP := Lib.hid hp
  have HC := Lib.hid hc
  have HA := Lib.hid ha
  clear h hp hc ha
  go_enter Tryz.func61, Tryz.ntmps61
  go_wp2_with (at_builtin; refine wpList_append_row _ rfl (.tmp 8) (.tmp 10) 48 rfl 66 (.slice none 0 0) 1 24 Tryz.underlying48 infoB_I rfl (by decide) (.slice oa il.length oc) il.length (il.map (·.1)) rfl ?hrow1 ⟨W.heap.size, 0, none⟩ 1 1 [.slice va pe.length vc] rfl rfl ?c1 ?c2 ?b1 ?b2 ?K)
  case hrow1 => exact H.out.fi.top.alloc _
  case c1 => exact cells1_new _ _ _
  case c2 => intro u hu; simp at hu; subst hu; rfl
  case b1 => unfold maxLen; omega
  case b2 => omega
  case K =>
    intro v' w1 hrow' hsm hbk
    have hs1 : Same (blk (.slice oa il.length oc)) W w1 := ((Same.refl _ _).alloc _).trans hsm
    have HF := Lib.hid (H.out.addI (.slice va pe.length vc, pe) HP.out HC.out HA.out v' hrow' hs1)
    have HS := Lib.hid (Same.setCell (F := D :: blk (.slice oa il.length oc)) (hs1.mono (fun x hx => .inl (List.mem_cons_of_mem _ hx))) (p := ⟨D, 7, none⟩) (by simp) v')
    have HB : Hid (∀ x ∈ blk v', x ∈ blk (.slice oa il.length oc) ∨ W.heap.size ≤ x) := Lib.hid (fun k hk => by
      rcases hbk k hk with h | h
      · exact .inl h
      · right; (try simp at h); omega)
    have c3 := (hs1.cell (b := D) (o := 7) hDl hDt.out).trans cf
    have f3 := (hs1.frozen (b := D) (o := 7) hDl hDt.out).trans (hfz 7)
    obtain ⟨a5, c5, rfl, -, -, -⟩ := hrow'.form
    clear hrow' hsm hbk hs1
    go_wp2
    go_end0
    exact ⟨rfl, _, HF.out, HS.out, HB.out⟩

theorem BkAt.addP (h : BkAt W D to_ wo io po tl wl il pl) (p : Value × List (List Value)) (hp : Row W 68 2 p.1 p.2.length p.2.flatten) (hc : ∀ x ∈ p.2, x.length = 2) (ha : ∀ q ∈ pl, ∀ x ∈ blk q.1, x ∉ blk p.1) (v' : Value)
    (h1 : w1.ownsRow 0 23 1 v' (pl.length + 1) (pl.map (·.1) ++ [p.1])) (h2 : Same (blk po) W w1) : BkAt (w1.setCell ⟨D, 14, none⟩ v') D to_ wo io v' tl wl il (pl ++ [p]) := by
  have hDo : D ∉ blk po := fun hm => h.fp.top.ne_blk h.b (by decide) D hm rfl
  have hb1 := h.b.frame h2 hDo
  have q := h.fp.add (by decide) p h2 (Row.of_own h1) hp hc ha
  exact ⟨hb1.set 14 v', FamL.past h.ft h.fp.top (by decide) (by decide) hb1 (by decide) (by decide) h2 v', FamL.past h.fw h.fp.top (by decide) (by decide) hb1 (by decide) (by decide) h2 v', FamL.past h.fi h.fp.top (by decide) (by decide) hb1 (by decide) (by decide) h2 v', q.frame (F := [D]) ((Same.refl _ _).setCell (by simp) v') (fun x hx hm => q.off_blk hb1 (by decide) (by decide) (by rw [← List.mem_singleton.1 hm]; exact hx)), by first | exact own_frame h1 ((Same.refl [D] w1).setCell (by simp) v') (fun x hx hm => (Row.of_own h1).ne_blk hb1 (by decide) x hx (List.mem_singleton.1 hm)) | simpa using own_frame h1 ((Same.refl [D] w1).setCell (by simp) v') (fun x hx hm => (Row.of_own h1).ne_blk hb1 (by decide) x hx (List.mem_singleton.1 hm))⟩
end Ck
end Go.Proofs.YticaipedpcmhfaaGreatDoor
