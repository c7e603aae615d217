/- Layer 19, LocksInOrder: asked, handed. -/
import Derived.Test.YtkfdoocmapjkbaaDoorLkK
import Derived.Test.YtkfdoocmapjkbaaDoorHpLL
namespace Go.Proofs.YtkfdoocmapjkbaaDoor
open Go.RowKit Hp
namespace Lk
variable {w w' W : World} {B : Nat} {m m' : Bk} {F G : List Nat} {ro : Value} {rvs : List Value}

def rowsOf (m : Bk) : List (List Int) := m.lks.map Lo.row

theorem rowsOf_len (m : Bk) : (rowsOf m).length = m.lks.length := by simp [rowsOf]
theorem rowsOf_get (m : Bk) (i : Nat) (hi : i < m.lks.length) : (rowsOf m).getD i [] = (m.lo (i : Int)).row := by
  simp only [rowsOf, Bk.lo, List.getD_eq_getElem?_getD, List.getElem?_map, Int.toNat_natCast]
  rw [List.getElem?_eq_getElem hi]; rfl
theorem rowsOf_set (m : Bk) (l : Int) (x : Lo) : rowsOf (m.setL l x) = (rowsOf m).set l.toNat x.row := by
  simp only [rowsOf, Bk.setL, List.map_set]
theorem rowsOf_same (m : Bk) (l : Int) (x : Lo) (hl : m.isL l = true) (hx : x.row = (m.lo l).row) : rowsOf (m.setL l x) = rowsOf m := by
  rw [rowsOf_set, hx]
  rw [isL_iff] at hl
  have : (rowsOf m).getD l.toNat [] = (m.lo l).row := by
    have := rowsOf_get m l.toNat (by omega)
    rw [this]; congr 2; omega
  rw [← this]
  exact set_getD _ _ _
theorem rowsOf_setT (m : Bk) (n : Int) (x : Th) : rowsOf (m.setT n x) = rowsOf m := rfl

/-- The book, and beside it the rows of who waits, told by the answers alone. -/
structure St (w W : World) (B : Nat) (m : Bk) (F : List Nat) (ro : Value) (rvs : List Value) (G : List Nat) : Prop where
  own : Own w W B m F
  ll : LL (nE .i64) 29 3 1 W ro rvs (rowsOf m) G
  gf : ∀ k ∈ G, k ∉ F
  gn : ∀ k ∈ G, w.heap.size ≤ k
  nt : m.ths.length = 5
  nl : m.lks.length = 3
  hw : w.heap.size ≤ W.heap.size

theorem St.upd {F' : List Nat} {W' : World} (s : St w W B m F ro rvs G) (ho : Own w W' B m' F') (u : Upd F F' W W') (hr : rowsOf m' = rowsOf m) (h5 : m'.ths.length = 5) (h3 : m'.lks.length = 3) : St w W' B m' F' ro rvs G :=
  ⟨ho, by rw [hr]; exact s.ll.frame u.same s.gf, u.apart s.gf s.ll.lt, s.gn, h5, h3, Nat.le_trans s.hw u.same.size⟩

theorem St.drew (s : St w W B m F ro rvs G) : St w W.drew B m F ro rvs G :=
  ⟨s.own.frame (G := []) ((Same.refl _ _).drew) (by simp), s.ll.frame (F := []) ((Same.refl _ _).drew) (by simp), s.gf, s.gn, s.nt, s.nl, s.hw⟩

theorem St.same {W' : World} {T : List Nat} (s : St w W B m F ro rvs G) (h : Same T W W') (hF : ∀ k ∈ F, k ∉ T) (hG : ∀ k ∈ G, k ∉ T) : St w W' B m F ro rvs G :=
  ⟨s.own.frame h hF, s.ll.frame h hG, s.gf, s.gn, s.nt, s.nl, Nat.le_trans s.hw h.size⟩

/-- What a step does to both together. -/
structure Both (F G F' G' : List Nat) (W W' : World) : Prop where
  same : Same (F ++ G) W W'
  new : ∀ k ∈ F' ++ G', k ∈ F ++ G ∨ W.heap.size ≤ k

theorem Both.of_upd {F' : List Nat} {W' : World} (u : Upd F F' W W') (G : List Nat) : Both F G F' G W W' :=
  ⟨u.same.mono (fun x hx => .inl (by simp [hx])), fun k hk => by
    rcases List.mem_append.1 hk with hk | hk
    · rcases u.new k hk with h | h
      · exact .inl (by simp [h])
      · exact .inr h
    · exact .inl (by simp [hk])⟩

theorem Both.trans {F' G' F2 G2 : List Nat} {W' W2 : World} (a : Both F G F' G' W W') (b : Both F' G' F2 G2 W' W2) : Both F G F2 G2 W W2 :=
  ⟨a.same.trans' b.same a.new, fun k hk => by
    rcases b.new k hk with h | h
    · exact a.new k h
    · have := a.same.size; exact .inr (by omega)⟩
theorem Both.drew {F' G' : List Nat} {W' : World} (a : Both F G F' G' W W') : Both F G F' G' W W'.drew := ⟨a.same.drew, a.new⟩

theorem lockF_len (m : Bk) (n l : Int) : (lockF m n l).2.2.ths.length = m.ths.length ∧ (lockF m n l).2.2.lks.length = m.lks.length := by
  unfold lockF
  split
  · exact ⟨rfl, rfl⟩
  · split
    · exact ⟨rfl, rfl⟩
    · split <;> simp [Bk.setL, Bk.setT]

set_option maxHeartbeats 800000 in
set_option maxRecDepth 100000 in
theorem asked_any (t n : Int) (s : St w W B m F ro rvs G) (ht : m.is t = true) (hn : m.isL n = true) (hg : (m.th t).goes = true) :
    Calls Tryd.prog 14 #[.pointer (some ⟨B, 0, none⟩), .int .i64 t, .int .i64 n, ro] W fun e w' =>
      e = .returned (.tuple #[ro, .bool true]) ∧ ∃ F' rvs' G', St w w' B (lockF m t n).2.2 F' ro rvs' G' ∧ Both F G F' G' W w' := by
  have hask : askF m t n = 0 := by simp [askF, ht, hn, hg]
  obtain ⟨hlt5, hlt3⟩ := lockF_len m t n
  rw [s.nt] at hlt5
  rw [s.nl] at hlt3
  have hh : holderF m n = (m.lo n).ho := by simp [holderF, hn]
  have H1 := Lib.hid (own_holder s.own n _ hh)
  have hlk := own_lock s.own s.hw t n (lockF m t n).1 (lockF m t n).2.1 (lockF m t n).2.2 rfl
  have HLK := Lib.hid hlk
  have HS := Lib.hid s
  clear hlk
  have hn' := (isL_iff m n).1 hn
  rw [s.nl] at hn'
  obtain ⟨hn1, hn2⟩ := hn'
  by_cases h1 : (m.lo n).ho = t
  · -- it holds it already
    have e1 : lockF m t n = (false, 191, m) := by unfold lockF; rw [if_neg (by simp [hask]), if_pos h1]
    rw [e1] at HLK hlt5 hlt3 ⊢
    rw [h1] at H1 hh
    have HH := Lib.hid hh
    have et : (t == t) = true := by simp
    clear s hh h1 e1 hask ht hn hg
    go_enter Tryd.func14, Tryd.ntmps14
    go_wp2_with fail
    refine H1.out.mono ?_
    rintro e w1 ⟨rfl, rfl⟩
    go_wp2_with fail
    refine HLK.out.mono ?_
    rintro e w2 ⟨rfl, F', ho, u⟩
    have s2 := HS.out.upd ho u rfl HS.out.nt HS.out.nl
    have H2 := Lib.hid (own_holder ho n _ HH.out)
    have S2 := Lib.hid s2
    have U2 := Lib.hid (Both.of_upd u G)
    clear ho u s2
    go_wp2_with fail
    refine H2.out.mono ?_
    rintro e w3 ⟨rfl, rfl⟩
    go_wp2
    go_ret2
    exact ⟨rfl, F', rvs, G, S2.out, U2.out⟩
  · by_cases h0 : (m.lo n).ho = 0
    · -- it is free
      have e1 : lockF m t n = (true, 0, m.setL n { m.lo n with ho := t }) := by unfold lockF; rw [if_neg (by simp [hask]), if_neg h1, if_pos h0]
      rw [e1] at HLK hlt5 hlt3 ⊢
      have e2 : ((m.lo n).ho == t) = false := by simpa using h1
      rw [h0] at H1 e2
      have hh2 : holderF (m.setL n { m.lo n with ho := t }) n = t := by simp [holderF, isL_setL, hn, lo_setL _ _ _ hn]
      have hr2 : rowsOf (m.setL n { m.lo n with ho := t }) = rowsOf m := rowsOf_same _ _ _ hn rfl
      have HH := Lib.hid hh2
      have HR := Lib.hid hr2
      have et : (t == t) = true := by simp
      have L5 := Lib.hid hlt5
      have L3 := Lib.hid hlt3
      clear s hh h1 h0 e1 hask ht hn hg hh2 hr2 hlt5 hlt3
      go_enter Tryd.func14, Tryd.ntmps14
      go_wp2_with fail
      refine H1.out.mono ?_
      rintro e w1 ⟨rfl, rfl⟩
      go_wp2_with fail
      refine HLK.out.mono ?_
      rintro e w2 ⟨rfl, F', ho, u⟩
      have S2 := Lib.hid (HS.out.upd ho u HR.out L5.out L3.out)
      have H2 := Lib.hid (own_holder ho n _ HH.out)
      have U2 := Lib.hid (Both.of_upd u G)
      clear ho u
      go_wp2_with fail
      refine H2.out.mono ?_
      rintro e w3 ⟨rfl, rfl⟩
      go_wp2
      go_ret2
      exact ⟨rfl, F', rvs, G, S2.out, U2.out⟩
    · -- it waits
      have e1 : lockF m t n = (false, 0, (m.setL n { m.lo n with row := (m.lo n).row ++ [t] }).setT t { m.th t with lk := n + 1 }) := by
        unfold lockF; rw [if_neg (by simp [hask]), if_neg h1, if_neg h0]
      rw [e1] at HLK hlt5 hlt3 ⊢
      have e2 : ((m.lo n).ho == t) = false := by simpa using h1
      have e3 : ((m.lo n).ho == 0) = false := by simpa using h0
      have hh2 : holderF ((m.setL n { m.lo n with row := (m.lo n).row ++ [t] }).setT t { m.th t with lk := n + 1 }) n = (m.lo n).ho := by
        have : ((m.setL n { m.lo n with row := (m.lo n).row ++ [t] }).setT t { m.th t with lk := n + 1 }).lo n = { m.lo n with row := (m.lo n).row ++ [t] } := lo_setL _ _ _ hn
        have h2 : ((m.setL n { m.lo n with row := (m.lo n).row ++ [t] }).setT t { m.th t with lk := n + 1 }).isL n = true := by simpa [Bk.isL, Bk.setT, Bk.setL] using hn
        simp [holderF, h2, this]
      have hr2 : rowsOf ((m.setL n { m.lo n with row := (m.lo n).row ++ [t] }).setT t { m.th t with lk := n + 1 }) = (rowsOf m).set n.toNat ((m.lo n).row ++ [t]) := by rw [rowsOf_setT, rowsOf_set]
      have hgr : (rowsOf m).getD n.toNat [] = (m.lo n).row := by
        have := rowsOf_get m n.toNat (by rw [s.nl]; omega)
        rw [this]; congr 2; omega
      have hin : n.toNat < (rowsOf m).length := by rw [rowsOf_len, s.nl]; omega
      have hlen8 := row_len8 s.own.ok hn
      have HH := Lib.hid hh2
      have HR := Lib.hid hr2
      have HGR := Lib.hid hgr
      have HIN := Lib.hid hin
      have hl3 : (rowsOf m).length = 3 := by rw [rowsOf_len, s.nl]
      have HL3 := Lib.hid hl3
      have eo : ((m.lo n).ho == (m.lo n).ho) = true := by simp
      have L5 := Lib.hid hlt5
      have L3 := Lib.hid hlt3
      clear s hh h1 h0 e1 hask ht hn hg hh2 hr2 hlt5 hlt3 hgr hin hl3
      generalize (m.lo n).ho = ho0 at *
      go_enter Tryd.func14, Tryd.ntmps14
      go_wp2_with fail
      refine H1.out.mono ?_
      rintro e w1 ⟨rfl, rfl⟩
      go_wp2_with fail
      refine HLK.out.mono ?_
      rintro e w2 ⟨rfl, F', ho, u⟩
      have ll2 := HS.out.ll.frame u.same HS.out.gf
      have gf2 := u.apart HS.out.gf HS.out.ll.lt
      obtain ⟨g, off, cap, hro, hglt, hgG, hcell, hfr, hfar, hset⟩ := ll2.at_ n.toNat HIN.out (by decide)
      have hrow := ll2.rows n.toNat HIN.out
      rw [HGR.out] at hrow
      obtain ⟨ra, rc, hra, -, -, -⟩ := hrow.form
      rw [hra] at hcell
      rw [HL3.out] at hro
      subst hro
      have HO := Lib.hid ho
      have HU := Lib.hid u
      have HLL := Lib.hid ll2
      have HGF := Lib.hid gf2
      have HSET := Lib.hid hset
      have HROW := Lib.hid hrow
      have HRA := Lib.hid hra
      have HFAR := Lib.hid (hfar n.toNat HIN.out)
      have HGG := Lib.hid hgG
      clear ho u ll2 gf2 hset hrow hra hfar hgG
      go_wp2_with (at_builtin; refine wpList_append_row _ rfl (.tmp 60) (.tmp 62) 29 rfl 3 (.int .i64 0) 1 8 Tryd.underlying29 info3 rfl (by decide) (.slice ra (m.lo n).row.length rc) (m.lo n).row.length ((m.lo n).row.flatMap (nE .i64)) rfl ?hrow1 ⟨w2.heap.size, 0, none⟩ 1 1 [.int .i64 t] rfl rfl ?c1 ?c2 ?b1 ?b2 ?K)
      case hrow1 => have := HROW.out; rw [HRA.out] at this; exact this.alloc _
      case c1 => exact cell_one_new w2 (.int .i64 t) 3
      case c2 => intro u hu; simp at hu; subst hu; rfl
      case b1 => unfold maxLen; omega
      case b2 => omega
      case K =>
        intro v' w3 hrow' hsm hbk
        have hs3 : Same (blk (rvs.getD n.toNat undef)) w2 w3 := by rw [HRA.out]; exact ((Same.refl _ _).alloc _).trans hsm
        have hb3 : ∀ k ∈ blk v', k ∈ blk (rvs.getD n.toNat undef) ∨ w2.heap.size ≤ k := fun k hk => by
          rcases hbk k hk with h1 | h1
          · exact .inl (by rw [HRA.out]; exact h1)
          · exact .inr (by have : (w2.alloc (.cells #[.int .i64 t] 3)).heap.size = w2.heap.size + 1 := by simp
                           omega)
        have hnew := HSET.out w3 v' ((m.lo n).row ++ [t]) hs3 hb3 (by simpa [nE] using hrow')
        have hrowG : ∀ k ∈ blk (rvs.getD n.toNat undef), k ∈ G := HLL.out.rowIn n.toNat HIN.out
        have hT : Same G w2 (w3.setCell ⟨g, off + n.toNat, none⟩ v') := (hs3.mono (fun x hx => .inl (hrowG x hx))).setCell (.inl HGG.out) _
        have hst : St w (w3.setCell ⟨g, off + n.toNat, none⟩ v') B ((m.setL n { m.lo n with row := (m.lo n).row ++ [t] }).setT t { m.th t with lk := n + 1 }) F' (.slice (some ⟨g, off, none⟩) 3 cap) (rvs.set n.toNat v') (G ++ blk v') := by
          refine ⟨HO.out.frame hT (fun k hk hm => HGF.out k hm hk), by rw [HR.out]; exact hnew, fun k hk hm => ?_, fun k hk => ?_, L5.out, L3.out, ?_⟩
          · rcases List.mem_append.1 hk with hk | hk
            · exact HGF.out k hk hm
            · rcases hb3 k hk with h1 | h1
              · exact HGF.out k (hrowG k h1) hm
              · have := HO.out.rep.lt k hm; omega
          · rcases List.mem_append.1 hk with hk | hk
            · exact HS.out.gn k hk
            · rcases hb3 k hk with h1 | h1
              · exact HS.out.gn k (hrowG k h1)
              · have := HS.out.hw; have := HU.out.same.size; omega
          · have := HS.out.hw; have := HU.out.same.size; have := hT.size; omega
        have hbo : Both F G F' (G ++ blk v') W (w3.setCell ⟨g, off + n.toNat, none⟩ v') := by
          refine (Both.of_upd HU.out G).trans ⟨hT.mono (fun x hx => .inl (by simp [hx])), fun k hk => ?_⟩
          simp only [List.mem_append] at hk
          rcases hk with hk | hk | hk
          · exact .inl (by simp [hk])
          · exact .inl (by simp [hk])
          · rcases hb3 k hk with h1 | h1
            · exact .inl (by simp [hrowG k h1])
            · exact .inr h1
        have k1 := (hs3.cell (b := g) (o := off + n.toNat) hglt (fun hm => HFAR.out _ hm rfl)).trans hcell
        have f1 : w3.frozen? ⟨g, off + n.toNat, none⟩ = false := (hs3.frozen hglt (fun hm => HFAR.out _ hm rfl)).trans (hfr _)
        obtain ⟨a', c', rfl, -, -, -⟩ := hrow'.form
        have HST := Lib.hid hst
        have HBO := Lib.hid hbo
        have H2 := Lib.hid (own_holder hst.own n _ HH.out)
        clear hrow' hsm hbk hs3 hb3 hnew hrowG hT hst hbo
        go_wp2_with fail
        refine H2.out.mono ?_
        rintro e w4 ⟨rfl, rfl⟩
        go_wp2
        go_ret2
        exact ⟨rfl, F', _, _, HST.out, HBO.out⟩
end Lk
end Go.Proofs.YtkfdoocmapjkbaaDoor
