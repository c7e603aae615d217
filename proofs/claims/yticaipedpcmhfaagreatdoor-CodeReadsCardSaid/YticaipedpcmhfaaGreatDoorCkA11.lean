/- Layer 8, the document's answer: digits; has; names. -/
import Derived.Test.YticaipedpcmhfaaGreatDoorCkT1
import Derived.Test.YticaipedpcmhfaaGreatDoorCkT3
import Derived.Test.YticaipedpcmhfaaGreatDoorCkW3
import Derived.Laws.IdiomStrings
import Derived.Test.YticaipedpcmhfaaGreatDoorCkA8
import Derived.Lib.AppendStr
namespace Go.Proofs.YticaipedpcmhfaaGreatDoor
open Go.RowKit Hp
namespace Ck
variable {w w' : World}

theorem dec_len (n : Nat) (h : n ≤ 9223372036854775807) : (Lib.decDigits n).length ≤ 20 := by
  rw [Lib.decDigits_length]
  exact Lib.nDigits_le20 n (by omega)

set_option maxHeartbeats 4000000 in
set_option maxRecDepth 100000 in
theorem digits_pos : ∀ (n : Nat) (w : World), n ≤ 9223372036854775807 → Calls Tryz.prog 31 #[.int .i64 n] w fun e w' => e = .returned (.string (bs (Lib.decDigits n))) ∧ Same [] w w' := by
  intro n
  induction n using Nat.strongRecOn with
  | _ n ih =>
    intro w hn
    have hb : ((n : Int) % 10 + 48) % 256 = (n : Int) % 10 + 48 := by omega
    have hb2 : (48 + (n : Int) % 10) % 256 = 48 + (n : Int) % 10 := by omega
    have HCC : Hid (∀ W : World, W.cell? ⟨w.heap.size, 0, none⟩ = some (.int .u8 (48 + (n : Int) % 10)) → ∀ cap, (convert 62 9 (.slice (some ⟨w.heap.size, 0, none⟩) 1 cap)).run Tryz.prog W = .ok (.string (bs [UInt8.ofNat (48 + n % 10)])) W) := Lib.hid (fun W hc cap => by
      have := run_convert_bytes_back (P := Tryz.prog) W 62 9 5 ⟨w.heap.size, 0, none⟩ cap [UInt8.ofNat (48 + n % 10)] Tryz.underlying62 Tryz.underlying5 Tryz.underlying9 (fun j hj => by
        have : j = 0 := by simpa using hj
        subst this
        show W.cell? ⟨w.heap.size, 0, none⟩ = _
        rw [hc]
        congr 2
        simp
        omega)
      exact this)
    by_cases h10 : n < 10
    · have hD : Lib.decDigits n = [UInt8.ofNat (48 + n % 10)] := by rw [Lib.decDigits, dif_pos h10, Nat.mod_eq_of_lt h10]
      have hcv := HCC.out (w.alloc (.cells #[.int .u8 (48 + (n : Int) % 10)] 5)) (World.cell?_alloc_new w _ _ _) 1
      rw [hD]
      obtain ⟨S, hS⟩ : ∃ S, bs [UInt8.ofNat (48 + n % 10)] = S := ⟨_, rfl⟩
      rw [hS] at hcv ⊢
      clear hD ih hS HCC
      go_enter Tryz.func31, Tryz.ntmps31
      go_wp2_with fail
      go_ret
      exact ⟨rfl, (Same.refl _ _).alloc _⟩
    · have hD : Lib.decDigits n = Lib.decDigits (n / 10) ++ [UInt8.ofNat (48 + n % 10)] := by rw [Lib.decDigits, dif_neg h10]
      have hcv := HCC.out (w.alloc (.cells #[.int .u8 (48 + (n : Int) % 10)] 5)) (World.cell?_alloc_new w _ _ _) 1
      have h11 : 10 ≤ n := by omega
      obtain ⟨S, hS⟩ : ∃ S, bs [UInt8.ofNat (48 + n % 10)] = S := ⟨_, rfl⟩
      obtain ⟨R, hR⟩ : ∃ R, bs (Lib.decDigits (n / 10)) = R := ⟨_, rfl⟩
      have hS1 : S.size = 1 := by rw [← hS, bs_size]; rfl
      have hR1 : R.size ≤ 20 := by rw [← hR, bs_size]; exact dec_len _ (by omega)
      have hDS : bs (Lib.decDigits n) = R ++ S := by rw [hD, bs_app, ← hS, ← hR, bs_list, bs_list]
      have HIH : Hid (∀ W, Calls Tryz.prog 31 #[.int .i64 ((n / 10 : Nat) : Int)] W fun e w' => e = .returned (.string R) ∧ Same [] W w') := Lib.hid (fun W => by rw [← hR]; exact ih (n / 10) (by omega) W (by omega))
      have hsz : ¬ 9223372036854775807 < R.size + S.size := by omega
      rw [hS] at hcv
      rw [hDS]
      clear hD ih hS hR hDS HCC h10 hS1 hR1
      go_enter Tryz.func31, Tryz.ntmps31
      go_wp2_with fail
      rw [show ((n : Int) / 10) = ((n / 10 : Nat) : Int) from by omega]
      refine (HIH.out _).mono ?_
      rintro e w2 ⟨rfl, hs2⟩
      have HS2 := Lib.hid hs2
      clear hs2
      go_wp2_with fail
      go_ret
      exact ⟨rfl, ((Same.refl _ _).alloc _).trans HS2.out⟩

/-- digits: a number as strconv writes it. -/
theorem digitsR_any (n : Int) (h1 : -9223372036854775807 ≤ n) (h2 : n ≤ 9223372036854775807) (t : ByteArray) (ht : bs (Lib.itoa n) = t) : Calls Tryz.prog 31 #[.int .i64 n] w fun e w' => e = .returned (.string t) ∧ Same [] w w' := by
  by_cases hneg : n < 0
  · obtain ⟨u, hu⟩ : ∃ u : Nat, n = -(u : Int) := ⟨n.natAbs, by omega⟩
    have hI : Lib.itoa n = 45 :: Lib.decDigits u := by rw [hu, Lib.itoa_neg u (by omega)]
    obtain ⟨R, hR⟩ : ∃ R, bs (Lib.decDigits u) = R := ⟨_, rfl⟩
    have HIH : Hid (∀ W, Calls Tryz.prog 31 #[.int .i64 (u : Int)] W fun e w' => e = .returned (.string R) ∧ Same [] W w') := Lib.hid (fun W => by rw [← hR]; exact digits_pos u W (by omega))
    have hR1 : R.size ≤ 20 := by rw [← hR, bs_size]; exact dec_len _ (by omega)
    have HT : Hid (t = (⟨#[45]⟩ : ByteArray) ++ R) := Lib.hid (by rw [← ht, hI, bs_app, ← hR, bs_list]; rfl)
    have hsz : ¬ 9223372036854775807 < 1 + R.size := by omega
    rw [HT.out]
    have HU := Lib.hid hu
    clear hu hI hR ht HT hR1
    go_enter Tryz.func31, Tryz.ntmps31
    go_wp2_with fail
    rw [show -n = (u : Int) from by rw [HU.out]; omega]
    refine (HIH.out _).mono ?_
    rintro e w2 ⟨rfl, hs2⟩
    have HS2 := Lib.hid hs2
    clear hs2
    go_wp2_with fail
    go_ret
    exact ⟨rfl, HS2.out⟩
  · obtain ⟨u, rfl⟩ : ∃ u : Nat, n = u := ⟨n.toNat, by omega⟩
    rw [← ht, Lib.itoa_nonneg]
    exact digits_pos u w (by omega)

theorem hasR_any (op : Int) (hop : 1 ≤ op ∧ op ≤ 18) : Calls Tryz.prog 32 #[.int .u8 op] w fun e w' => e = .returned (.bool (Cd.sp (Cd.nameI op))) ∧ w = w' := by
  rcases ops18 hop with rfl | rfl | rfl | rfl | rfl | rfl | rfl | rfl | rfl | rfl | rfl | rfl | rfl | rfl | rfl | rfl | rfl | rfl
  all_goals
    clear hop
    go_enter Tryz.func32, Tryz.ntmps32
    go_wp2_with fail
    go_ret
    exact ⟨rfl, rfl⟩

/-- An instruction's name without the blank behind. -/
def nameR (o : Nat) : List UInt8 := if Cd.sp (Cd.calledL.getD o []) then (Cd.calledL.getD o []).dropLast else Cd.calledL.getD o []
set_option maxRecDepth 100000 in
theorem namesR_any : Calls Tryz.prog 30 #[] w fun e w' => e = .returned (.slice (some ⟨w.heap.size, 0, none⟩) 19 19) ∧ Blk w' w.heap.size 9 ((List.range 19).map (fun o => Value.string (bs (nameR o)))) ∧ Same [] w w' := by
  go_enter Tryz.func30, Tryz.ntmps30
  go_wp2_with fail
  go_ret
  refine ⟨rfl, ?_, (Same.refl _ _).alloc _⟩
  have e : (List.range 19).map (fun o => Value.string (bs (nameR o))) = (List.range 19).map (fun o => Value.string (bs (nameR o))) := rfl
  exact Blk.new w 9 ((List.range 19).map (fun o => Value.string (bs (nameR o))))
end Ck
end Go.Proofs.YticaipedpcmhfaaGreatDoor
/- Layer 8, the document's answer: a constant's line; Text. -/
namespace Go.Proofs.YticaipedpcmhfaaGreatDoor
open Go.RowKit Hp
namespace Ck
variable {w w' : World}

set_option maxHeartbeats 4000000 in
set_option maxRecDepth 100000 in
theorem constR_any (x : Int) (hx : 0 ≤ x ∧ x < 18446744073709551616) (hw : Cd.isWord x = true) (h8 : Cd.wordT x ≠ 8) : Calls Tryz.prog 29 #[.int .u64 x] w fun e w' => e = .returned (.string (bs (Cd.constT x ++ [10]))) ∧ Same [] w w' := by
  have hof := fun W => ofR_any (w := W) x hx
  rw [hw, if_pos rfl] at hof
  have hb : 1 ≤ Cd.wordT x ∧ Cd.wordT x ≤ 8 := by
    unfold Cd.isWord at hw
    exact of_decide_eq_true (Bool.and_eq_true_iff.1 hw).1
  obtain ⟨hn1, hn2⟩ := Cd.wordN_in x hx
  have hn3 : -9223372036854775807 ≤ Cd.wordN x := by unfold Cd.wordN Cd.signed; split <;> omega
  obtain ⟨t, ht⟩ : ∃ t, Cd.wordT x = t := ⟨_, rfl⟩
  obtain ⟨n, hn⟩ : ∃ n, Cd.wordN x = n := ⟨_, rfl⟩
  have hC : Cd.constT x = Cd.numd (Cd.constB ++ Cd.nameT t) n := by unfold Cd.constT; rw [ht, hn]
  rw [hC]
  rw [ht] at h8 hb hof
  rw [hn] at hof hn1 hn2 hn3
  obtain ⟨d, hd⟩ : ∃ d, bs (Lib.itoa n) = d := ⟨_, rfl⟩
  have HDG : Hid (∀ W, Calls Tryz.prog 31 #[.int .i64 n] W fun e w' => e = .returned (.string d) ∧ Same [] W w') := Lib.hid (fun W => digitsR_any n hn3 hn2 d hd)
  have hds : d.size ≤ 21 := by rw [← hd, bs_size]; exact Lib.itoa_length_le n hn1 hn2
  have HI : Hid (Lib.itoa n = d.data.toList) := Lib.hid (by rw [← hd, bs_list])
  have hcase : t = 1 ∨ t = 2 ∨ t = 3 ∨ t = 4 ∨ t = 5 ∨ t = 6 ∨ t = 7 := by omega
  have s1 : ¬ 9223372036854775807 < 10 + d.size := by omega
  have s2 : ¬ 9223372036854775807 < 13 + d.size := by omega
  have s3 : ¬ 9223372036854775807 < 11 + d.size := by omega
  clear hC ht hn hx hw h8 hb hd
  rcases hcase with rfl | rfl | rfl | rfl | rfl | rfl | rfl
  · go_enter Tryz.func29, Tryz.ntmps29
    go_wp2_with (go_at_call 26; refine (hof _).mono ?_; rintro e w' ⟨rfl, rfl⟩)
    go_ret
    exact ⟨rfl, Same.refl _ _⟩
  · go_enter Tryz.func29, Tryz.ntmps29
    go_wp2_with (go_at_call 26; refine (hof _).mono ?_; rintro e w' ⟨rfl, rfl⟩)
    go_ret
    exact ⟨rfl, Same.refl _ _⟩
  · go_enter Tryz.func29, Tryz.ntmps29
    go_wp2_with (go_at_call 26; refine (hof _).mono ?_; rintro e w' ⟨rfl, rfl⟩)
    go_ret
    exact ⟨rfl, Same.refl _ _⟩
  · go_enter Tryz.func29, Tryz.ntmps29
    go_wp2_with (go_at_call 26; refine (hof _).mono ?_; rintro e w' ⟨rfl, rfl⟩)
    go_ret
    exact ⟨rfl, Same.refl _ _⟩
  all_goals
    go_enter Tryz.func29, Tryz.ntmps29
    go_wp2_with (go_at_call 26; refine (hof _).mono ?_; rintro e w' ⟨rfl, rfl⟩)
    refine (HDG.out _).mono ?_
    rintro e w2 ⟨rfl, hs2⟩
    have HS2 := Lib.hid hs2
    clear hs2
    have s4 : ∀ k : Nat, k ≤ 100 → ¬ 9223372036854775807 < (k + d.size) + 1 := fun k hk => by omega
    go_wp2_with fail
    all_goals
      go_ret
      refine ⟨ret_str ?_, HS2.out⟩
      rw [bs_list, Joins.data_append, Joins.data_append]
      show _ = ((Cd.constB ++ Cd.nameT _) ++ Lib.itoa n) ++ [10]
      rw [HI.out]
      rfl

/-- Bytes that are gathered, in a slice of the call's own. -/
def Buf (B : Nat) (w : World) (v : Value) (l : List UInt8) : Prop := w.ownsRow B 5 1 v l.length (Lib.byteCells l)
theorem Buf.nil (B : Nat) (w : World) : Buf B w (.slice none 0 0) [] := World.ownsRow_nil w _ _ _
theorem Buf.lit {B : Nat} {v : Value} {l : List UInt8} (h : Buf B w v l) : ∃ A C, v = .slice A l.length C := by
  rcases h.2 with ⟨hv, hn⟩ | ⟨g, cap, cur, hv, _⟩
  · exact ⟨none, 0, by rw [hv, hn]⟩
  · exact ⟨_, _, hv⟩
theorem Buf.frame {B : Nat} {v : Value} {l : List UInt8} (h : Buf B w v l) (hs : Same [] w w') : Buf B w' v l := by
  refine ⟨h.1, ?_⟩
  rcases h.2 with h0 | ⟨g, cap, cur, hv, hg, hc, r⟩
  · exact .inl h0
  · exact .inr ⟨g, cap, cur, hv, hg, (hs.block g (Array.getElem?_eq_some_iff.1 hc).1 (by simp)).trans hc, r⟩
/-- Behind an append of a string. -/
theorem Buf.put {B : Nat} {v v' : Value} {l : List UInt8} {s : ByteArray} {t : List UInt8} (h : Buf B w v l) (ht : s.data.toList = t) (hB : B ≤ w.heap.size) (ho : w'.ownsRow B 5 1 v' (l.length + s.size) (Lib.byteCells l ++ Lib.strCells s)) (hg : w.grownBy w' v.ownBlock) :
    Buf B w' v' (l ++ t) ∧ Below B w w' ∧ ∀ b ty cs, ty ≠ 5 → Blk w b ty cs → Blk w' b ty cs := by
  have hsl : s.size = t.length := list_size s ht
  refine ⟨?_, ?_, fun b ty cs hne hb => ?_⟩
  · unfold Buf
    have e : Lib.byteCells (l ++ t) = Lib.byteCells l ++ Lib.strCells s := by rw [← ht]; simp [Lib.byteCells, Lib.strCells]
    rw [e, List.length_append, ← hsl]; exact ho
  · refine (Same.of_grown hg).belowF hB (fun x hx => ?_)
    have hx' : v.ownBlock = some x := by simpa using hx
    rcases h.2 with ⟨hv, _⟩ | ⟨g, cap, cur, hv, hgB, _⟩
    · rw [hv] at hx'; cases hx'
    · rw [hv] at hx'; cases hx'; exact hgB
  · refine hb.frame (Same.of_grown hg) (fun hx => ?_)
    have hx' : v.ownBlock = some b := by simpa using hx
    rcases h.2 with ⟨hv, _⟩ | ⟨g, cap, cur, hv, hgB, hc, _⟩
    · rw [hv] at hx'; cases hx'
    · rw [hv] at hx'
      cases hx'
      unfold Blk at hb
      rw [hb] at hc
      injection hc with hc
      injection hc with _ hc _
      exact hne hc

theorem name_line (o : Nat) (ho : o < 19) : (Cd.sp (Cd.calledL.getD o []) = true → [32] ++ nameR o ++ [32] = 32 :: Cd.calledL.getD o []) ∧ (Cd.sp (Cd.calledL.getD o []) = false → [32] ++ nameR o = 32 :: Cd.calledL.getD o []) ∧ (nameR o).length ≤ 11 := by
  have : ∀ o : Fin 19, (Cd.sp (Cd.calledL.getD o.1 []) = true → [32] ++ nameR o.1 ++ [32] = 32 :: Cd.calledL.getD o.1 []) ∧ (Cd.sp (Cd.calledL.getD o.1 []) = false → [32] ++ nameR o.1 = 32 :: Cd.calledL.getD o.1 []) ∧ (nameR o.1).length ≤ 11 := by decide +kernel
  exact this ⟨o, ho⟩
theorem sp_line (o : Nat) (ho : o < 19) : Cd.sp (32 :: Cd.calledL.getD o []) = Cd.sp (Cd.calledL.getD o []) ∨ o = 0 := by
  have : ∀ o : Fin 19, Cd.sp (32 :: Cd.calledL.getD o.1 []) = Cd.sp (Cd.calledL.getD o.1 []) ∨ o.1 = 0 := by decide +kernel
  exact this ⟨o, ho⟩
end Ck
end Go.Proofs.YticaipedpcmhfaaGreatDoor
/- Layer 8, the document's answer: Text. -/
namespace Go.Proofs.YticaipedpcmhfaaGreatDoor
open Go.RowKit Hp
namespace Ck
variable {w w' : World}

set_option maxHeartbeats 8000000 in
set_option maxRecDepth 100000 in
theorem textRef_any (v : Value) (c : Cd.Co) (hr : RCo w v c) (hw : WCo c) : Calls Tryz.prog 11 #[v] w (Txt (textR c) w) := by
  have hchk := fun w hr => checkR_any (w := w) v c hr hw
  obtain ⟨cv, pv, gv, rfl, hr⟩ := hr
  obtain ⟨A1, c1, hcv, hc1, hc1'⟩ := hr.consts.form
  obtain ⟨kv2, hps, hks⟩ := hr.procs
  obtain ⟨A2, c2, hpv, hc2, hc2'⟩ := hps.form
  obtain ⟨A3, c3, hgv, hc3, hc3'⟩ := hr.globals.form
  subst hcv hpv hgv
  have HR := Lib.hid hr
  have HPS := Lib.hid hps
  have HKS := Lib.hid hks
  have HW := Lib.hid hw
  have HCHK := Lib.hid (hchk (w.alloc (.cells #[.slice A1 c.consts.length c1, .slice A2 c.procs.length c2, .slice A3 c.globals.length c3] 26)) ⟨_, _, _, rfl, hr.frame ((Same.refl [] w).alloc _)⟩)
  unfold Chk at HCHK
  unfold maxLen at hc1' hc2' hc3'
  obtain ⟨i0, hi, hz0, hz1, hz2⟩ := info_parts infoByte
  have HI0 := Lib.hid (And.intro hi (And.intro hz0 (And.intro hz1 hz2)))
  clear hr hps hks hw hchk hi hz0 hz1 hz2
  by_cases hz : (Cd.check Cd.sym c).1 = 0
  · have hR : textR c = (Cd.textT c, 0) := by unfold textR; rw [if_pos hz]
    have hG := Cd.goodC_of hz
    rw [hz] at HCHK
    rw [hR]
    have HG := Lib.hid hG
    obtain ⟨l1, l2, l3⟩ := hG.lens
    clear hz hR hG
    go_enter Tryz.func11, Tryz.ntmps11
    go_wp2_with fail
    refine HCHK.out.mono ?_
    rintro e w2 ⟨rfl, hs2⟩
    have hb1 := (Blk.new w 26 [.slice A1 c.consts.length c1, .slice A2 c.procs.length c2, .slice A3 c.globals.length c3]).frame hs2 (by simp)
    have b10 := hb1.cell 0
    have b11 := hb1.cell 1
    have b12 := hb1.cell 2
    have b1z := hb1.lt
    have HB1 := Lib.hid hb1
    have HS2 := Lib.hid (((Same.refl [] w).alloc _).trans hs2)
    clear hs2 hb1
    go_wp2_with fail
    go_loopg [7, 8] c.consts.length (fun gk bv i wr => ∃ k : Nat, k ≤ c.consts.length ∧ gk = c.consts.length - k ∧ i = .int .i64 k ∧ Buf w2.heap.size wr bv (Cd.joinL ((c.consts.take k).map Cd.constT)) ∧ Below w2.heap.size w2 wr)
    case atStart => exact ⟨0, Nat.zero_le _, rfl, rfl, Buf.nil _ _, Below.refl _ _⟩
    case round =>
      obtain ⟨k, hk, rfl, rfl, hbb, hbel⟩ := hrel
      have HBB := Lib.hid hbb
      have HBEL := Lib.hid hbel
      have HSW := Lib.hid (HS2.out.trans (Same.of_below hbel))
      have hBw : w2.heap.size ≤ wr.heap.size := hbel.size
      obtain ⟨BA, bc, rfl⟩ := hbb.lit
      have q0 : wr.cell? ⟨w.heap.size, 0, none⟩ = some (.slice A1 c.consts.length c1) := by rw [HBEL.out.cell (p := ⟨w.heap.size, _, none⟩) b1z]; exact b10
      have q1 : wr.cell? ⟨w.heap.size, 1, none⟩ = some (.slice A2 c.procs.length c2) := by rw [HBEL.out.cell (p := ⟨w.heap.size, _, none⟩) b1z]; exact b11
      have q2 : wr.cell? ⟨w.heap.size, 2, none⟩ = some (.slice A3 c.globals.length c3) := by rw [HBEL.out.cell (p := ⟨w.heap.size, _, none⟩) b1z]; exact b12
      have qz : w.heap.size < wr.heap.size := Nat.lt_of_lt_of_le b1z HBEL.out.size
      clear hbb hbel
      by_cases hlt : k < c.consts.length
      · obtain ⟨b, off, cap, he, _, _, hb, hcell⟩ := HR.out.consts.lit (by omega)
        injection he with he1 _ he3
        subst he1 he3
        obtain ⟨x, hx⟩ : ∃ x, c.consts.getD k 0 = x := ⟨_, rfl⟩
        have hck : wr.cell? ⟨b, off + k, none⟩ = some (.int .u64 x) := by
          have := hcell k 0 hlt (by omega)
          rw [Nat.mul_one, Nat.add_zero] at this
          rw [HSW.out.cell hb (by simp), this, fW, hx]
        have hmem : x ∈ c.consts := by rw [← hx, List.getD, List.getElem?_eq_getElem hlt]; exact List.getElem_mem _
        have hxr := HW.out.consts x hmem
        have hgx := HG.out.consts x hmem
        obtain ⟨ls, hls⟩ : ∃ ls, bs (Cd.constT x ++ [10]) = ls := ⟨_, rfl⟩
        have HLS : Hid (ls.data.toList = Cd.constT x ++ [10]) := Lib.hid (by rw [← hls, bs_list])
        have HCT := Lib.hid (constR_any (w := wr) x hxr hgx.1 hgx.2)
        rw [hls] at HCT
        have hsn := take_map_snoc Cd.constT c.consts k 0 hlt
        rw [hx] at hsn
        have HSN := Lib.hid hsn
        have hlen : (Cd.joinL ((c.consts.take k).map Cd.constT)).length ≤ 40 * c.consts.length := take_map_le Cd.constT c.consts k 39 (fun y hy => Cd.constT_le y (HW.out.consts y hy))
        have hlen2 := Cd.constT_le x hxr
        have hlsz : ls.size ≤ 40 := by rw [list_size ls HLS.out, List.length_append]; simp; omega
        obtain ⟨Z, hZ⟩ : ∃ Z, Cd.joinL ((c.consts.take k).map Cd.constT) = Z := ⟨_, rfl⟩
        rw [hZ] at HBB HSN hlen ⊢
        clear hcell hx hmem hxr hgx hsn hlen2 hls hZ
        go_wp2_with fail
        refine HCT.out.mono ?_
        rintro e w3 ⟨rfl, hs3⟩
        have HB3 := Lib.hid (HBB.out.frame hs3)
        have HS3 := Lib.hid hs3
        have hBw3 : w2.heap.size ≤ w3.heap.size := Nat.le_trans hBw hs3.size
        clear hs3
        go_wp2_with (at_builtin; refine Lib.wpList_append_own_string _ rfl (.tmp 31) (.tmp 37) 62 9 rfl w2.heap.size 5 i0 Tryz.underlying62 Tryz.underlying9 HI0.out.1 HI0.out.2.1 HI0.out.2.2.1 HI0.out.2.2.2 (.slice BA Z.length bc) Z.length (Lib.byteCells Z) rfl HB3.out ls rfl (by unfold maxLen; omega) (by omega) hBw3 ?_)
        intro v' w4 hown hgrow _
        obtain ⟨p1, p2, -⟩ := HB3.out.put HLS.out hBw3 hown hgrow
        have HP1 := Lib.hid p1
        have HP2 := Lib.hid ((HBEL.out.trans (HS3.out.belowF hBw (by simp))).trans p2)
        clear p1 p2 hown hgrow
        go_wp2_with fail
        go_roundg (c.consts.length - (k + 1))
        case measure => omega
        case rel => exact ⟨k + 1, by omega, rfl, by go_num, by rw [HSN.out]; exact HP1.out, HP2.out⟩
      · have hfin : (c.consts.take k).map Cd.constT = c.consts.map Cd.constT := by rw [List.take_of_length_le (by omega)]
        have hA0 : (Cd.joinL (c.consts.map Cd.constT)).length ≤ 40 * c.consts.length := by
          have := Cd.joinL_le (c.consts.map Cd.constT) 39 (fun y hy => by obtain ⟨z, hz, rfl⟩ := List.mem_map.1 hy; exact Cd.constT_le z (HW.out.consts z hz))
          rwa [List.length_map] at this
        rw [hfin] at HBB ⊢
        obtain ⟨J0, hJ0⟩ : ∃ J0, Cd.joinL (c.consts.map Cd.constT) = J0 := ⟨_, rfl⟩
        rw [hJ0] at HBB hA0 ⊢
        have HJ0 := Lib.hid hJ0
        have ek : decide (k < c.consts.length) = false := decide_eq_false hlt
        have hge : c.consts.length ≤ k := by omega
        clear hfin hJ0 hlt
        go_wp2_with fail
        go_loopg [7, 9] c.globals.length (fun gk bv i wr => ∃ k : Nat, k ≤ c.globals.length ∧ gk = c.globals.length - k ∧ i = .int .i64 k ∧ Buf w2.heap.size wr bv (J0 ++ Cd.joinL ((c.globals.take k).map Cd.globalT)) ∧ Below w2.heap.size w2 wr)
        case atStart => exact ⟨0, Nat.zero_le _, rfl, rfl, by simpa [Cd.joinL] using HBB.out, HBEL.out⟩
        case round =>
          clear q0 q1 q2 qz
          obtain ⟨k2, hk2, rfl, rfl, hbb, hbel⟩ := hrel
          have HBB2 := Lib.hid hbb
          have HBEL2 := Lib.hid hbel
          have HSW2 := Lib.hid (HS2.out.trans (Same.of_below hbel))
          have hBw2 : w2.heap.size ≤ wr.heap.size := hbel.size
          obtain ⟨BA, bc, rfl⟩ := hbb.lit
          have q02 : wr.cell? ⟨w.heap.size, 0, none⟩ = some (.slice A1 c.consts.length c1) := by rw [HBEL2.out.cell (p := ⟨w.heap.size, _, none⟩) b1z]; exact b10
          have q12 : wr.cell? ⟨w.heap.size, 1, none⟩ = some (.slice A2 c.procs.length c2) := by rw [HBEL2.out.cell (p := ⟨w.heap.size, _, none⟩) b1z]; exact b11
          have q22 : wr.cell? ⟨w.heap.size, 2, none⟩ = some (.slice A3 c.globals.length c3) := by rw [HBEL2.out.cell (p := ⟨w.heap.size, _, none⟩) b1z]; exact b12
          have qz2 : w.heap.size < wr.heap.size := Nat.lt_of_lt_of_le b1z HBEL2.out.size
          clear hbb hbel
          by_cases hlt : k2 < c.globals.length
          · obtain ⟨b, off, cap, he, _, _, hb, hcell⟩ := HR.out.globals.lit (by omega)
            injection he with he1 _ he3
            subst he1 he3
            obtain ⟨x, hx⟩ : ∃ x, c.globals.getD k2 ByteArray.empty = x := ⟨_, rfl⟩
            have hck : wr.cell? ⟨b, off + k2, none⟩ = some (.string x) := by
              have := hcell k2 0 hlt (by omega)
              rw [Nat.mul_one, Nat.add_zero] at this
              rw [HSW2.out.cell hb (by simp), this, fS, hx]
            have hmem : x ∈ c.globals := by rw [← hx, List.getD, List.getElem?_eq_getElem hlt]; exact List.getElem_mem _
            have hgx := HG.out.globals x hmem
            have hxs : x.size ≤ 32 := by have := Cd.sym_short hgx; rwa [← list_size x rfl] at this
            have hq : ¬ 9223372036854775807 < 7 + x.size := by omega
            obtain ⟨g, hg⟩ : ∃ g : ByteArray, (⟨#[103, 108, 111, 98, 97, 108, 32]⟩ : ByteArray) ++ x = g := ⟨_, rfl⟩
            have hgl : g.data.toList = Cd.globalT x := by rw [← hg, Joins.data_append]; rfl
            have hgs : g.size ≤ 39 := by have := Cd.globalT_le hgx; rw [← hgl, ← list_size g rfl] at this; exact this
            have hq2 : ¬ 9223372036854775807 < g.size + 1 := by omega
            obtain ⟨ls, hls⟩ : ∃ ls : ByteArray, g ++ (⟨#[10]⟩ : ByteArray) = ls := ⟨_, rfl⟩
            have hll : ls.data.toList = Cd.globalT x ++ [10] := by rw [← hls, Joins.data_append, hgl]
            have hlsz : ls.size ≤ 40 := by rw [list_size ls hll, List.length_append, ← hgl, ← list_size g rfl]; simp; omega
            have hsn := take_map_snoc Cd.globalT c.globals k2 ByteArray.empty hlt
            rw [hx] at hsn
            have hlen : (Cd.joinL ((c.globals.take k2).map Cd.globalT)).length ≤ 40 * c.globals.length := take_map_le Cd.globalT c.globals k2 39 (fun y hy => Cd.globalT_le (HG.out.globals y hy))
            obtain ⟨Z, hZ⟩ : ∃ Z, J0 ++ Cd.joinL ((c.globals.take k2).map Cd.globalT) = Z := ⟨_, rfl⟩
            have hZl : Z.length ≤ 50000 := by rw [← hZ, List.length_append]; omega
            have hsn2 : J0 ++ Cd.joinL ((c.globals.take (k2 + 1)).map Cd.globalT) = Z ++ (Cd.globalT x ++ [10]) := by rw [hsn, ← hZ, List.append_assoc]
            have HSN := Lib.hid hsn2
            have HLL := Lib.hid hll
            rw [hZ] at HBB2 ⊢
            clear hcell hx hmem hgx hsn hlen hgl hll hZ hsn2
            go_upto_region 12 with fail
            go_wp2_with (at_builtin; refine Lib.wpList_append_own_string _ rfl (.tmp 46) (.tmp 53) 62 9 rfl w2.heap.size 5 i0 Tryz.underlying62 Tryz.underlying9 HI0.out.1 HI0.out.2.1 HI0.out.2.2.1 HI0.out.2.2.2 (.slice BA Z.length bc) Z.length (Lib.byteCells Z) rfl HBB2.out ls rfl (by unfold maxLen; omega) (by omega) hBw2 ?_)
            intro v' w4 hown hgrow _
            obtain ⟨p1, p2, -⟩ := HBB2.out.put HLL.out hBw2 hown hgrow
            have HP1 := Lib.hid p1
            have HP2 := Lib.hid (HBEL2.out.trans p2)
            clear p1 p2 hown hgrow
            go_wp2_with fail
            go_roundg (c.globals.length - (k2 + 1))
            case measure => omega
            case rel => exact ⟨k2 + 1, by omega, rfl, by go_num, by rw [HSN.out]; exact HP1.out, HP2.out⟩
          · have hfin : (c.globals.take k2).map Cd.globalT = c.globals.map Cd.globalT := by rw [List.take_of_length_le (by omega)]
            have hA1 : (Cd.joinL (c.globals.map Cd.globalT)).length ≤ 40 * c.globals.length := by
              have := Cd.joinL_le (c.globals.map Cd.globalT) 39 (fun y hy => by obtain ⟨z, hz, rfl⟩ := List.mem_map.1 hy; exact Cd.globalT_le (HG.out.globals z hz))
              rwa [List.length_map] at this
            rw [hfin] at HBB2 ⊢
            obtain ⟨J1, hJ1⟩ : ∃ J1, J0 ++ Cd.joinL (c.globals.map Cd.globalT) = J1 := ⟨_, rfl⟩
            have hJ1l : J1.length ≤ 50000 := by rw [← hJ1, List.length_append]; omega
            rw [hJ1] at HBB2 ⊢
            have HJ1 := Lib.hid hJ1
            have ek2 : decide (k2 < c.globals.length) = false := decide_eq_false hlt
            have hge2 : c.globals.length ≤ k2 := by omega
            clear hfin hJ1 hlt hA1
            go_wp2_with fail
            refine namesR_any.mono ?_
            rintro e w5 ⟨rfl, hnb, hs5⟩
            obtain ⟨NB, hNB⟩ : ∃ NB, NB = wr.heap.size := ⟨_, rfl⟩
            rw [← hNB] at hnb ⊢
            have HNB := Lib.hid hnb
            have HBB5 := Lib.hid (HBB2.out.frame hs5)
            have HBEL5 := Lib.hid (HBEL2.out.trans (hs5.belowF hBw2 (by simp)))
            clear hnb hs5 hNB q02 q12 q22 qz2
            have q05 : w5.cell? ⟨w.heap.size, 0, none⟩ = some (.slice A1 c.consts.length c1) := by rw [HBEL5.out.cell (p := ⟨w.heap.size, _, none⟩) b1z]; exact b10
            have q15 : w5.cell? ⟨w.heap.size, 1, none⟩ = some (.slice A2 c.procs.length c2) := by rw [HBEL5.out.cell (p := ⟨w.heap.size, _, none⟩) b1z]; exact b11
            have q25 : w5.cell? ⟨w.heap.size, 2, none⟩ = some (.slice A3 c.globals.length c3) := by rw [HBEL5.out.cell (p := ⟨w.heap.size, _, none⟩) b1z]; exact b12
            have qz5 : w.heap.size < w5.heap.size := Nat.lt_of_lt_of_le b1z HBEL5.out.size
            go_wp2_with fail
            go_loopg [7, 11] c.procs.length (fun gk bv i wr => ∃ k : Nat, k ≤ c.procs.length ∧ gk = c.procs.length - k ∧ i = .int .i64 k ∧ (J1 ++ (c.procs.take k).flatMap Cd.procT).length ≤ 50000 + 140000 * k ∧ Buf w2.heap.size wr bv (J1 ++ (c.procs.take k).flatMap Cd.procT) ∧ Below w2.heap.size w2 wr ∧ Blk wr NB 9 ((List.range 19).map (fun o => Value.string (bs (nameR o)))))
            case atStart => exact ⟨0, Nat.zero_le _, rfl, rfl, by simpa using hJ1l, by simpa using HBB5.out, HBEL5.out, HNB.out⟩
            case round =>
              clear q05 q15 q25 qz5
              obtain ⟨k3, hk3, rfl, rfl, hacc, hbb, hbel, hnb⟩ := hrel
              have HBB3 := Lib.hid hbb
              have HBEL3 := Lib.hid hbel
              have HNB3 := Lib.hid hnb
              have HSW3 := Lib.hid (HS2.out.trans (Same.of_below hbel))
              have hBw3 : w2.heap.size ≤ wr.heap.size := hbel.size
              obtain ⟨BA, bc, rfl⟩ := hbb.lit
              have q03 : wr.cell? ⟨w.heap.size, 0, none⟩ = some (.slice A1 c.consts.length c1) := by rw [HBEL3.out.cell (p := ⟨w.heap.size, _, none⟩) b1z]; exact b10
              have q13 : wr.cell? ⟨w.heap.size, 1, none⟩ = some (.slice A2 c.procs.length c2) := by rw [HBEL3.out.cell (p := ⟨w.heap.size, _, none⟩) b1z]; exact b11
              have q23 : wr.cell? ⟨w.heap.size, 2, none⟩ = some (.slice A3 c.globals.length c3) := by rw [HBEL3.out.cell (p := ⟨w.heap.size, _, none⟩) b1z]; exact b12
              have qz3 : w.heap.size < wr.heap.size := Nat.lt_of_lt_of_le b1z HBEL3.out.size
              clear hbb hbel hnb
              by_cases hlt : k3 < c.procs.length
              · obtain ⟨b, off, cap, he, _, _, hb, hcell⟩ := HPS.out.lit (by omega)
                injection he with he1 _ he3
                subst he1 he3
                obtain ⟨p, hp⟩ : ∃ p, c.procs.getD k3 ⟨0, []⟩ = p := ⟨_, rfl⟩
                have hki := HKS.out k3 hlt
                rw [hp] at hki
                obtain ⟨Ak, ck, hkv, hck1, hck2⟩ := hki.form
                rw [hkv] at hki
                have HPC : Hid (∀ W, Same [] w W → W.cell? ⟨b, off + k3 * 2, none⟩ = some (.int .i64 p.params) ∧ W.cell? ⟨b, off + k3 * 2 + 1, none⟩ = some (.slice Ak p.code.length ck) ∧ b < W.heap.size) := Lib.hid (fun W hs => by
                  have h0 := hcell k3 0 hlt (by omega)
                  have h1 := hcell k3 1 hlt (by omega)
                  refine ⟨?_, ?_, Nat.lt_of_lt_of_le hb hs.size⟩
                  · rw [hs.cell hb (by simp), ← Nat.add_zero (off + k3 * 2), h0, fP, hp]; rfl
                  · rw [hs.cell hb (by simp), h1, fP, hkv]; rfl)
                obtain ⟨p0, p1, hbw⟩ := HPC.out wr HSW3.out
                have hmem : p ∈ c.procs := by rw [← hp, List.getD, List.getElem?_eq_getElem hlt]; exact List.getElem_mem _
                have hwp : WPr p := HW.out.procs p hmem
                have hgp := HG.out.procs p hmem
                have hfits := hgp.fitAll HG.out.lens
                obtain ⟨t, ht⟩ : ∃ t, bs (Lib.itoa p.params) = t := ⟨_, rfl⟩
                have htl : t.data.toList = Lib.itoa p.params := by rw [← ht]; rfl
                have htz : t.size ≤ 21 := by rw [list_size t htl]; exact Lib.itoa_length_le p.params hwp.params.1 hwp.params.2
                have hpb := hgp.params
                have HIT : Hid (∀ W, Calls Tryz.prog 31 #[.int .i64 p.params] W fun e w' => e = .returned (.string t) ∧ Same [] W w') := Lib.hid (fun W => digitsR_any p.params (by omega) (by omega) t ht)
                have hq : ¬ 9223372036854775807 < 5 + t.size := by omega
                obtain ⟨g, hg⟩ : ∃ g : ByteArray, (⟨#[112, 114, 111, 99, 32]⟩ : ByteArray) ++ t = g := ⟨_, rfl⟩
                have hgl : g.data.toList = Cd.headT p := by rw [← hg, Joins.data_append, htl]; rfl
                have hgs : g.size ≤ 26 := by have := Cd.headT_le p hwp.params; rwa [← hgl, ← list_size g rfl] at this
                have hq2 : ¬ 9223372036854775807 < g.size + 1 := by omega
                obtain ⟨ls, hls⟩ : ∃ ls : ByteArray, g ++ (⟨#[10]⟩ : ByteArray) = ls := ⟨_, rfl⟩
                have hll : ls.data.toList = Cd.joinL [Cd.headT p] := by rw [← hls, Joins.data_append, hgl, Cd.joinL_one]
                have hlsz : ls.size ≤ 27 := by rw [list_size ls hll, Cd.joinL_one, List.length_append, ← hgl, ← list_size g rfl]; simp; omega
                have HKI := Lib.hid hki
                have HWP := Lib.hid hwp
                have HFITS := Lib.hid hfits
                have HP := Lib.hid hp
                have HPL := Lib.hid hgp.len
                have HLL := Lib.hid hll
                obtain ⟨pm, hpm⟩ : ∃ pm, p.params = pm := ⟨_, rfl⟩
                rw [hpm] at p0 HIT HPC
                obtain ⟨Z, hZ⟩ : ∃ Z, J1 ++ (c.procs.take k3).flatMap Cd.procT = Z := ⟨_, rfl⟩
                rw [hZ] at HBB3 hacc ⊢
                have HZ := Lib.hid hZ
                clear hcell hp hki hkv hmem hwp hgp hfits ht htl hgl hll hpb hpm hZ
                unfold maxLen at hck2
                go_wp2_with fail
                refine (HIT.out _).mono ?_
                rintro e w6 ⟨rfl, hs6⟩
                have HBB6 := Lib.hid (HBB3.out.frame hs6)
                have HNB6 := Lib.hid (HNB3.out.frame hs6 (by simp))
                have HBEL6 := Lib.hid (HBEL3.out.trans (hs6.belowF hBw3 (by simp)))
                have hBw6 : w2.heap.size ≤ w6.heap.size := HBEL6.out.size
                clear hs6 q03 q13 q23 qz3 p0 p1 hbw
                go_wp2_with (at_builtin; refine Lib.wpList_append_own_string _ rfl (.tmp 63) (.tmp 72) 62 9 rfl w2.heap.size 5 i0 Tryz.underlying62 Tryz.underlying9 HI0.out.1 HI0.out.2.1 HI0.out.2.2.1 HI0.out.2.2.2 (.slice BA Z.length bc) Z.length (Lib.byteCells Z) rfl HBB6.out ls rfl (by unfold maxLen; omega) (by omega) hBw6 ?_)
                intro v' w7 hown hgrow _
                obtain ⟨p1, p2, p3⟩ := HBB6.out.put HLL.out hBw6 hown hgrow
                obtain ⟨base, hbase⟩ : ∃ base, Z ++ Cd.joinL [Cd.headT p] = base := ⟨_, rfl⟩
                rw [hbase] at p1
                have hbl : base.length ≤ 50000 + 140000 * k3 + 27 := by rw [← hbase, List.length_append, ← HLL.out, ← list_size ls rfl]; omega
                obtain ⟨BA, bc, rfl⟩ := p1.lit
                have HP1 := Lib.hid p1
                have HBEL7 := Lib.hid (HBEL6.out.trans p2)
                have HNB7 := Lib.hid (p3 NB 9 _ (by decide) HNB6.out)
                have HBASE := Lib.hid hbase
                clear p1 p2 p3 hown hgrow hbase
                go_wp2_with fail
                go_loopg [7, 12] p.code.length (fun gj bv i wq => ∃ j : Nat, j ≤ p.code.length ∧ gj = p.code.length - j ∧ i = .int .i64 j ∧ (Cd.joinL ((p.code.take j).map Cd.instrT)).length ≤ 34 * p.code.length ∧ Buf w2.heap.size wq bv (base ++ Cd.joinL ((p.code.take j).map Cd.instrT)) ∧ Below w2.heap.size w2 wq ∧ Blk wq NB 9 ((List.range 19).map (fun o => Value.string (bs (nameR o)))))
                case atStart => exact ⟨0, Nat.zero_le _, rfl, rfl, by simp [Cd.joinL], by simpa [Cd.joinL] using HP1.out, HBEL7.out, HNB7.out⟩
                case round =>
                  obtain ⟨j, hj, rfl, rfl, hjl, hbb, hbel, hnb⟩ := hrel
                  have HBBj := Lib.hid hbb
                  have HBELj := Lib.hid hbel
                  have HNBj := Lib.hid hnb
                  have HSWj := Lib.hid (HS2.out.trans (Same.of_below hbel))
                  have hBwj : w2.heap.size ≤ wr.heap.size := hbel.size
                  obtain ⟨BA, bc, rfl⟩ := hbb.lit
                  obtain ⟨p0, p1, hbw⟩ := HPC.out wr HSWj.out
                  have q0j : wr.cell? ⟨w.heap.size, 0, none⟩ = some (.slice A1 c.consts.length c1) := by rw [HBELj.out.cell (p := ⟨w.heap.size, _, none⟩) b1z]; exact b10
                  have q1j : wr.cell? ⟨w.heap.size, 1, none⟩ = some (.slice (some ⟨b, off, none⟩) c.procs.length c2) := by rw [HBELj.out.cell (p := ⟨w.heap.size, _, none⟩) b1z]; exact b11
                  have q2j : wr.cell? ⟨w.heap.size, 2, none⟩ = some (.slice A3 c.globals.length c3) := by rw [HBELj.out.cell (p := ⟨w.heap.size, _, none⟩) b1z]; exact b12
                  have qzj : w.heap.size < wr.heap.size := Nat.lt_of_lt_of_le b1z HBELj.out.size
                  by_cases hltj : j < p.code.length
                  · obtain ⟨bk, ok, ck', hek, _, _, hbk, hcellk⟩ := HKI.out.lit (by omega)
                    injection hek with hek1 _ hek3
                    subst hek1 hek3
                    obtain ⟨ix, hix⟩ : ∃ ix, p.code.getD j ⟨0, 0⟩ = ix := ⟨_, rfl⟩
                    have himem : ix ∈ p.code := by rw [← hix]; exact Cd.getD_mem _ _ hltj
                    have hfi := HFITS.out ix himem
                    have hwi := HWP.out.code ix himem
                    obtain ⟨o, ho⟩ : ∃ o : Nat, ix.op = o := ⟨ix.op.toNat, by have := hfi.op; omega⟩
                    obtain ⟨ax, hax⟩ : ∃ ax, ix.a = ax := ⟨_, rfl⟩
                    have ho18 : 1 ≤ o ∧ o ≤ 18 := by have := hfi.op; omega
                    have hab : 0 ≤ ax ∧ ax ≤ 4096 := by have := hfi.a; omega
                    have ic0 : wr.cell? ⟨bk, ok + j * 2, none⟩ = some (.int .u8 o) := by
                      have := hcellk j 0 hltj (by omega)
                      rw [HSWj.out.cell hbk (by simp), ← Nat.add_zero (ok + j * 2), this, fI, hix, ← ho]; rfl
                    have ic1 : wr.cell? ⟨bk, ok + j * 2 + 1, none⟩ = some (.int .i64 ax) := by
                      have := hcellk j 1 hltj (by omega)
                      rw [HSWj.out.cell hbk (by simp), this, fI, hix, ← hax]; rfl
                    have hbkw : bk < wr.heap.size := Nat.lt_of_lt_of_le hbk HSWj.out.size
                    have hnz := hnb.lt
                    obtain ⟨nm, hnm⟩ : ∃ nm, bs (nameR o) = nm := ⟨_, rfl⟩
                    have hnc : wr.cell? ⟨NB, o, none⟩ = some (.string nm) := by
                      rw [hnb.cell, List.getElem?_map, List.getElem?_range (by omega), ← hnm]; rfl
                    have hnl : nm.data.toList = nameR o := by rw [← hnm, bs_list]
                    obtain ⟨nl1, nl2, nl3⟩ := name_line o (by omega)
                    have hns : nm.size ≤ 11 := by rw [list_size nm hnl]; exact nl3
                    have hsp := sp_line o (by omega)
                    have hsp' : Cd.sp (32 :: Cd.calledL.getD o []) = Cd.sp (Cd.calledL.getD o []) := by
                      rcases hsp with h | h
                      · exact h
                      · omega
                    have hIT : Cd.instrT ix = if Cd.sp (Cd.calledL.getD o []) = true then (32 :: Cd.calledL.getD o []) ++ Lib.itoa ax else 32 :: Cd.calledL.getD o [] := by
                      unfold Cd.instrT Cd.numd Cd.nameI
                      rw [ho, hax, Int.toNat_natCast, hsp']
                    have HHAS : Hid (∀ W, Calls Tryz.prog 32 #[.int .u8 o] W fun e w' => e = .returned (.bool (Cd.sp (Cd.calledL.getD o []))) ∧ W = w') := Lib.hid (fun W => by
                      have := hasR_any (w := W) (o : Int) (by omega)
                      unfold Cd.nameI at this
                      rwa [Int.toNat_natCast] at this)
                    have hsn := take_map_snoc Cd.instrT p.code j ⟨0, 0⟩ hltj
                    rw [hix] at hsn
                    have hle2 : (Cd.joinL ((p.code.take (j + 1)).map Cd.instrT)).length ≤ 34 * p.code.length := take_map_le Cd.instrT p.code (j + 1) 33 (fun y hy => Cd.instrT_le y (HWP.out.code y hy).a)
                    have HLE2 := Lib.hid hle2
                    have hpl := HPL.out
                    obtain ⟨Y, hY⟩ : ∃ Y, base ++ Cd.joinL ((p.code.take j).map Cd.instrT) = Y := ⟨_, rfl⟩
                    have hYl : Y.length ≤ 100000000 := by rw [← hY, List.length_append]; omega
                    have HSN : Hid (base ++ Cd.joinL ((p.code.take (j + 1)).map Cd.instrT) = Y ++ (Cd.instrT ix ++ [10])) := Lib.hid (by rw [hsn, ← hY, List.append_assoc])
                    rw [hY] at HBBj hbb ⊢
                    have HY := Lib.hid hY
                    have HNL := Lib.hid hnl
                    have HIT2 := Lib.hid hIT
                    have HN1 := Lib.hid nl1
                    have HN2 := Lib.hid nl2
                    have hBwa : w2.heap.size ≤ (wr.alloc (.cells #[.int .u8 o, .int .i64 ax] 82)).heap.size := by simp; omega
                    have s1 : ¬ 9223372036854775807 < 1 + nm.size := by omega
                    obtain ⟨a1, ha1⟩ : ∃ a1 : ByteArray, (⟨#[32]⟩ : ByteArray) ++ nm = a1 := ⟨_, rfl⟩
                    have hl1 : a1.data.toList = [32] ++ nameR o := by rw [← ha1, Joins.data_append, hnl]
                    have hz1 : a1.size ≤ 12 := by rw [list_size a1 hl1, List.length_append]; have := nl3; simp; omega
                    have HL1 := Lib.hid hl1
                    have hab1 := hab.1
                    have hab2 := hab.2
                    have i02 := HI0.out
                    clear hbb hbel hnb hix himem hfi hwi ho hax hnm hnl nl1 nl2 nl3 hsp hsp' hIT hsn hle2 hY hjl hcellk hl1 hab i02
                    cases hb : Cd.sp (Cd.calledL.getD o [])
                    · rw [hb] at HHAS HIT2 HN2
                      obtain ⟨ls, hls⟩ : ∃ ls : ByteArray, a1 ++ (⟨#[10]⟩ : ByteArray) = ls := ⟨_, rfl⟩
                      have HLL2 : Hid (ls.data.toList = Cd.instrT ix ++ [10]) := Lib.hid (by rw [← hls, Joins.data_append, HL1.out, HN2.out rfl, HIT2.out]; rfl)
                      have hlz : ls.size ≤ 13 := by rw [← hls, list_size (a1 ++ _) (Joins.data_append _ _), List.length_append, ← list_size a1 rfl]; simp; omega
                      have s4 : ¬ 9223372036854775807 < a1.size + 1 := by omega
                      clear hb
                      go_wp2_with fail
                      refine (HHAS.out _).mono ?_
                      rintro e wz ⟨rfl, rfl⟩
                      have HBBa := Lib.hid (HBBj.out.frame ((Same.refl [] wr).alloc (.cells #[.int .u8 o, .int .i64 ax] 82)))
                      go_wp2_with (at_builtin; refine Lib.wpList_append_own_string _ rfl (.tmp 109) (.tmp 111) 62 9 rfl w2.heap.size 5 i0 Tryz.underlying62 Tryz.underlying9 HI0.out.1 HI0.out.2.1 HI0.out.2.2.1 HI0.out.2.2.2 (.slice BA Y.length bc) Y.length (Lib.byteCells Y) rfl HBBa.out ls rfl (by unfold maxLen; omega) (by omega) hBwa ?_)
                      intro v' w9 hown hgrow _
                      obtain ⟨p1, p2, p3⟩ := HBBa.out.put HLL2.out hBwa hown hgrow
                      have HP9 := Lib.hid p1
                      have HBEL9 := Lib.hid ((HBELj.out.alloc hBwj _).trans p2)
                      have HNB9 := Lib.hid (p3 NB 9 _ (by decide) (HNBj.out.alloc _))
                      clear p1 p2 p3 hown hgrow
                      go_wp2_with fail
                      go_roundg (p.code.length - (j + 1))
                      case measure => omega
                      case rel => exact ⟨j + 1, by omega, rfl, by go_num, HLE2.out, by rw [HSN.out]; exact HP9.out, HBEL9.out, HNB9.out⟩
                    · rw [hb] at HHAS HIT2 HN1
                      obtain ⟨d, hd⟩ : ∃ d, bs (Lib.itoa ax) = d := ⟨_, rfl⟩
                      have hdl : d.data.toList = Lib.itoa ax := by rw [← hd, bs_list]
                      have hdz : d.size ≤ 21 := by rw [list_size d hdl]; exact Lib.itoa_length_le ax (by omega) (by omega)
                      have HDG : Hid (∀ W, Calls Tryz.prog 31 #[.int .i64 ax] W fun e w' => e = .returned (.string d) ∧ Same [] W w') := Lib.hid (fun W => digitsR_any ax (by omega) (by omega) d hd)
                      have s2 : ¬ 9223372036854775807 < a1.size + 1 := by omega
                      obtain ⟨a2, ha2⟩ : ∃ a2 : ByteArray, a1 ++ (⟨#[32]⟩ : ByteArray) = a2 := ⟨_, rfl⟩
                      have hl2' : a2.data.toList = [32] ++ nameR o ++ [32] := by rw [← ha2, Joins.data_append, HL1.out]
                      have hz2' : a2.size ≤ 13 := by rw [← ha2, list_size (a1 ++ _) (Joins.data_append _ _), List.length_append, ← list_size a1 rfl]; simp; omega
                      have s3 : ¬ 9223372036854775807 < a2.size + d.size := by omega
                      obtain ⟨a3, ha3⟩ : ∃ a3 : ByteArray, a2 ++ d = a3 := ⟨_, rfl⟩
                      have hz3' : a3.size ≤ 34 := by rw [← ha3, list_size (a2 ++ _) (Joins.data_append _ _), List.length_append, ← list_size a2 rfl, ← list_size d rfl]; omega
                      have s4 : ¬ 9223372036854775807 < a3.size + 1 := by omega
                      obtain ⟨ls, hls⟩ : ∃ ls : ByteArray, a3 ++ (⟨#[10]⟩ : ByteArray) = ls := ⟨_, rfl⟩
                      have HLL2 : Hid (ls.data.toList = Cd.instrT ix ++ [10]) := Lib.hid (by rw [← hls, Joins.data_append, ← ha3, Joins.data_append, hl2', HN1.out rfl, hdl, HIT2.out]; rfl)
                      have hlz : ls.size ≤ 35 := by rw [← hls, list_size (a3 ++ _) (Joins.data_append _ _), List.length_append, ← list_size a3 rfl]; simp; omega
                      clear hb hd hdl hl2'
                      go_wp2_with fail
                      refine (HHAS.out _).mono ?_
                      rintro e wz ⟨rfl, rfl⟩
                      go_wp2_with fail
                      refine (HDG.out _).mono ?_
                      rintro e w8 ⟨rfl, hs8⟩
                      have hs8' := ((Same.refl [] wr).alloc (.cells #[.int .u8 o, .int .i64 ax] 82)).trans hs8
                      have HBBa := Lib.hid (HBBj.out.frame hs8')
                      have HNBa := Lib.hid (HNBj.out.frame hs8' (by simp))
                      have HBELa := Lib.hid (HBELj.out.trans (hs8'.belowF hBwj (by simp)))
                      have hBwb : w2.heap.size ≤ w8.heap.size := HBELa.out.size
                      clear hs8 hs8'
                      go_wp2_with (at_builtin; refine Lib.wpList_append_own_string _ rfl (.tmp 109) (.tmp 111) 62 9 rfl w2.heap.size 5 i0 Tryz.underlying62 Tryz.underlying9 HI0.out.1 HI0.out.2.1 HI0.out.2.2.1 HI0.out.2.2.2 (.slice BA Y.length bc) Y.length (Lib.byteCells Y) rfl HBBa.out ls rfl (by unfold maxLen; omega) (by omega) hBwb ?_)
                      intro v' w9 hown hgrow _
                      obtain ⟨p1, p2, p3⟩ := HBBa.out.put HLL2.out hBwb hown hgrow
                      have HP9 := Lib.hid p1
                      have HBEL9 := Lib.hid (HBELa.out.trans p2)
                      have HNB9 := Lib.hid (p3 NB 9 _ (by decide) HNBa.out)
                      clear p1 p2 p3 hown hgrow
                      go_wp2_with fail
                      go_roundg (p.code.length - (j + 1))
                      case measure => omega
                      case rel => exact ⟨j + 1, by omega, rfl, by go_num, HLE2.out, by rw [HSN.out]; exact HP9.out, HBEL9.out, HNB9.out⟩
                  · have hlast : J1 ++ (c.procs.take (k3 + 1)).flatMap Cd.procT = base ++ Cd.joinL ((p.code.take j).map Cd.instrT) := by
                      rw [List.take_of_length_le (show p.code.length ≤ j by omega), List.take_succ_eq_append_getElem hlt, List.flatMap_append, ← HBASE.out, ← HZ.out]
                      have hpk : c.procs[k3] = p := by have := HP.out; rwa [List.getD, List.getElem?_eq_getElem hlt] at this
                      rw [hpk]
                      simp only [List.flatMap_cons, List.flatMap_nil, List.append_nil, Cd.procT, List.append_assoc]
                    have HLAST := Lib.hid hlast
                    have hpl := HPL.out
                    have hgej : p.code.length ≤ j := by omega
                    have HJL := Lib.hid hjl
                    clear hlast hbb hbel hnb hltj hjl
                    go_wp2_with fail
                    go_roundg (c.procs.length - (k3 + 1))
                    case measure => omega
                    case rel =>
                      refine ⟨k3 + 1, by omega, rfl, by go_num, ?_, by rw [HLAST.out]; exact HBBj.out, HBELj.out, HNBj.out⟩
                      rw [HLAST.out, List.length_append]
                      have h1 := HJL.out
                      omega
              · have hfin : J1 ++ (c.procs.take k3).flatMap Cd.procT = Cd.textT c := by
                  rw [List.take_of_length_le (by omega), ← HJ1.out, ← HJ0.out]
                  unfold Cd.textT
                  rw [List.append_assoc]
                obtain ⟨TX, hTX⟩ : ∃ TX, Cd.textT c = TX := ⟨_, rfl⟩
                rw [hfin, hTX] at HBB3 ⊢
                have hge3 : c.procs.length ≤ k3 := by omega
                have HCV : Hid ((convert 62 9 (.slice BA TX.length bc)).run Tryz.prog wr = .ok (.string (bs TX)) wr) := Lib.hid (by
                  rcases HBB3.out.2 with ⟨hv, hn⟩ | ⟨g, cap, cur, hv, hgB, hgc, hn1, hn2, hsz, htk⟩
                  · injection hv with e1 e2 e3
                    subst e1 e3
                    have : TX = [] := List.eq_nil_of_length_eq_zero hn
                    subst this
                    rfl
                  · injection hv with e1 e2 e3
                    subst e1 e3
                    refine run_convert_bytes_back (P := Tryz.prog) wr 62 9 5 ⟨g, 0, none⟩ bc TX Tryz.underlying62 Tryz.underlying5 Tryz.underlying9 (fun j hj => ?_)
                    have ea : (⟨g, 0, none⟩ : Addr).add j = ⟨g, j, none⟩ := by simp [Addr.add]; exact fun h => h.symm
                    rw [ea, cell_of_row wr g j cur 5 (0, 0) hgc]
                    have h1 : (Lib.byteCells TX)[j]? = some (.int .u8 (TX[j].toNat : Int)) := by
                      unfold Lib.byteCells; rw [List.getElem?_map, List.getElem?_eq_getElem hj]; rfl
                    rw [← htk, List.getElem?_take_of_lt (by omega)] at h1
                    simpa using h1)
                have hcv := HCV.out
                have HTX := Lib.hid hTX
                clear hacc hfin hTX hlt HBB3
                go_wp2_with fail
                go_ret2
                refine ⟨?_, HSW3.out⟩
                show _ = Ending.returned (.tuple #[.string (bs (Cd.textT c)), .int .i64 0])
                rw [HTX.out]
                rfl
  · have hR : textR c = ([], (Cd.check Cd.sym c).1) := by unfold textR; rw [if_neg hz]
    rw [hR]
    obtain ⟨e1, he1⟩ : ∃ e1, (Cd.check Cd.sym c).1 = e1 := ⟨_, rfl⟩
    rw [he1] at HCHK hz ⊢
    have hz' : (e1 != 0) = true := by rw [bne_iff_ne]; exact hz
    clear he1 hR hz
    go_enter Tryz.func11, Tryz.ntmps11
    go_wp2_with fail
    refine HCHK.out.mono ?_
    rintro e w2 ⟨rfl, hs2⟩
    have HS2 := Lib.hid (((Same.refl [] w).alloc _).trans hs2)
    clear hs2
    go_wp2_with fail
    go_ret2
    exact ⟨rfl, HS2.out⟩
end Ck
end Go.Proofs.YticaipedpcmhfaaGreatDoor
