/- Layer 0, the document's lent lists: LentWords, LentTexts, LentInstrs: a copy, with two of room behind that have marks. -/
import Derived.Test.YticaipedpcmhfaaGreatDoorCkZ1
import Derived.Test.YticaipedpcmhfaaGreatDoorCkW6
import Derived.Test.YticaipedpcmhfaaGreatDoorHpLent
namespace Go.Proofs.YticaipedpcmhfaaGreatDoor
open Go.RowKit Hp
namespace Ck
variable {w w' : World}

/-- A list lent: its cells, the marks' cells behind, nothing else. -/
def Lent (w : World) (b e n : Nat) (xs marks : List Value) (v : Value) : Prop := v = .slice (some ⟨b, 0, none⟩) n (n + 2) ∧ Blk w b e (xs ++ marks)
theorem oneI (l : List Cd.In) : ∀ u ∈ flatI l, u.oneCell' = true := fun u hu => by
  unfold flatI at hu
  obtain ⟨i, _, hi⟩ := List.mem_flatMap.1 hu
  rcases List.mem_cons.1 hi with rfl | hi
  · rfl
  · rw [List.mem_singleton.1 hi]; rfl
theorem oneWs (l : List Int) : ∀ u ∈ l.map (Value.int .u64), u.oneCell' = true := fun u hu => by obtain ⟨x, _, rfl⟩ := List.mem_map.1 hu; rfl
theorem oneSs (l : List ByteArray) : ∀ u ∈ l.map Value.string, u.oneCell' = true := fun u hu => by obtain ⟨x, _, rfl⟩ := List.mem_map.1 hu; rfl
def ownerS : ByteArray := ⟨#[116, 104, 101, 32, 111, 119, 110, 101, 114, 39, 115]⟩
def markW : List Value := [.int .u64 77777771, .int .u64 77777772]
def markS : List Value := [.string ownerS, .string ownerS]
def markI : List Value := [.int .u8 0, .int .i64 (-71), .int .u8 0, .int .i64 (-72)]
theorem news_blk {W : World} {b e : Nat} {cs : List Value} (hb : Blk W b e cs) : ∀ ad, some (⟨b, 0, none⟩ : Addr) = some ad → ∀ j u, cs[j]? = some u → W.cell? (ad.add j) = some u := fun ad h => by
  injection h with h
  subst h
  exact World.news_of_block hb

set_option maxHeartbeats 4000000 in
set_option maxRecDepth 100000 in
theorem lentW_any (v : Value) (l : List Int) (h : Sq w v l.length 1 (fW l)) (hl : l.length ≤ 100000000000) : Calls Tryz.prog 34 #[v] w fun e w' => ∃ b, e = .returned (.slice (some ⟨b, 0, none⟩) l.length (l.length + 2)) ∧ Blk w' b 74 (l.map (Value.int .u64) ++ markW) ∧ w.heap.size ≤ b ∧ Same [] w w' := by
  obtain ⟨A, cap, rfl, hc1, hc2⟩ := h.form
  have HR := Lib.hid h
  unfold maxLen at hc2
  clear h
  go_enter Tryz.func34, Tryz.ntmps34
  go_wp2_with (first
    | (refine wpList_make_cap _ rfl _ (.tmp 7) 22 rfl 74 (.int .u64 0) 1 8 Tryz.underlying22 infoW _ (l.length + 2) rfl rfl ?a1 ?a2 ?a3 ?mk))
  case a1 => omega
  case a2 => omega
  case a3 => unfold maxLen; omega
  case mk =>
    intro w1 hown hs1
    have HO := Lib.hid hown
    have HS1 := Lib.hid hs1
    clear hown hs1
    go_wp2_with (first
      | (at_builtin; refine wpList_fits_sq _ rfl (.tmp 8) (.tmp 9) 22 rfl w.heap.size 74 (.int .u64 0) 1 8 Tryz.underlying22 infoW w.heap.size 0 (l.length + 2) [] rfl ?b0 A l.length cap (l.map (Value.int .u64)) rfl ?b1 ?b2 ?b3 ?b4 ?b5 ?ap))
    case b0 => exact HO.out
    case b1 => simp
    case b2 => exact (HR.out.src (by simp) (fW_at l)).1
    case b3 => exact ((HR.out.frame HS1.out).src (by simp) (fW_at l)).2
    case b4 => exact oneWs l
    case b5 => omega
    case ap =>
      intro w2 hown hs2
      have HO2 := Lib.hid hown
      have HS2 : Hid (Same [] w w2) := Lib.hid (HS1.out.trans' hs2 (fun x hx => .inr (by rw [List.mem_singleton.1 hx]; exact Nat.le_refl _)))
      have hz2 := HS2.out.size
      clear hown hs2
      go_wp2_with (first
        | (at_builtin; refine wpList_fits_sq _ rfl (.tmp 11) (.tmp 12) 22 rfl w.heap.size 74 (.int .u64 0) 1 8 Tryz.underlying22 infoW w.heap.size l.length (l.length + 2) (l.map (Value.int .u64)) rfl ?c0 (some _) 2 2 markW rfl rfl ?c2 ?c3 ?c4 ?c5 ?ap2))
      case c0 => exact own_frame (by simpa using HO2.out) ((Same.refl [] _).alloc _) (by simp)
      case c2 => exact fun h => by cases h
      case c3 => exact news_blk (blk_at (by simp))
      case c4 => decide
      case c5 => omega
      case ap2 =>
        intro w3 hown hs3
        have HO3 := Lib.hid hown
        have HS3 : Hid (Same [] w w3) := Lib.hid ((HS2.out.alloc _).trans' hs3 (fun x hx => .inr (by rw [List.mem_singleton.1 hx]; exact Nat.le_refl _)))
        clear hown hs3
        go_wp2_with fail
        go_ret
        exact ⟨w.heap.size, rfl, Blk.of_own HO3.out, Nat.le_refl _, HS3.out⟩

set_option maxHeartbeats 4000000 in
set_option maxRecDepth 100000 in
theorem lentT_any (v : Value) (l : List ByteArray) (h : Sq w v l.length 1 (fS l)) (hl : l.length ≤ 100000000000) : Calls Tryz.prog 35 #[v] w fun e w' => ∃ b, e = .returned (.slice (some ⟨b, 0, none⟩) l.length (l.length + 2)) ∧ Blk w' b 9 (l.map Value.string ++ markS) ∧ w.heap.size ≤ b ∧ Same [] w w' := by
  obtain ⟨A, cap, rfl, hc1, hc2⟩ := h.form
  have HR := Lib.hid h
  unfold maxLen at hc2
  clear h
  go_enter Tryz.func35, Tryz.ntmps35
  go_wp2_with (first
    | (refine wpList_make_cap _ rfl _ (.tmp 7) 24 rfl 9 (.string ⟨#[]⟩) 1 16 Tryz.underlying24 infoS _ (l.length + 2) rfl rfl ?a1 ?a2 ?a3 ?mk))
  case a1 => omega
  case a2 => omega
  case a3 => unfold maxLen; omega
  case mk =>
    intro w1 hown hs1
    have HO := Lib.hid hown
    have HS1 := Lib.hid hs1
    clear hown hs1
    go_wp2_with (first
      | (at_builtin; refine wpList_fits_sq _ rfl (.tmp 8) (.tmp 9) 24 rfl w.heap.size 9 (.string ⟨#[]⟩) 1 16 Tryz.underlying24 infoS w.heap.size 0 (l.length + 2) [] rfl ?b0 A l.length cap (l.map Value.string) rfl ?b1 ?b2 ?b3 ?b4 ?b5 ?ap))
    case b0 => exact HO.out
    case b1 => simp
    case b2 => exact (HR.out.src (by simp) (fS_at l)).1
    case b3 => exact ((HR.out.frame HS1.out).src (by simp) (fS_at l)).2
    case b4 => exact oneSs l
    case b5 => omega
    case ap =>
      intro w2 hown hs2
      have HO2 := Lib.hid hown
      have HS2 : Hid (Same [] w w2) := Lib.hid (HS1.out.trans' hs2 (fun x hx => .inr (by rw [List.mem_singleton.1 hx]; exact Nat.le_refl _)))
      have hz2 := HS2.out.size
      clear hown hs2
      go_wp2_with (first
        | (at_builtin; refine wpList_fits_sq _ rfl (.tmp 11) (.tmp 12) 24 rfl w.heap.size 9 (.string ⟨#[]⟩) 1 16 Tryz.underlying24 infoS w.heap.size l.length (l.length + 2) (l.map Value.string) rfl ?c0 (some _) 2 2 markS rfl rfl ?c2 ?c3 ?c4 ?c5 ?ap2))
      case c0 => exact own_frame (by simpa using HO2.out) ((Same.refl [] _).alloc _) (by simp)
      case c2 => exact fun h => by cases h
      case c3 => exact news_blk (blk_at (by simp))
      case c4 => decide
      case c5 => omega
      case ap2 =>
        intro w3 hown hs3
        have HO3 := Lib.hid hown
        have HS3 : Hid (Same [] w w3) := Lib.hid ((HS2.out.alloc _).trans' hs3 (fun x hx => .inr (by rw [List.mem_singleton.1 hx]; exact Nat.le_refl _)))
        clear hown hs3
        go_wp2_with fail
        go_ret
        exact ⟨w.heap.size, rfl, Blk.of_own HO3.out, Nat.le_refl _, HS3.out⟩

set_option maxHeartbeats 4000000 in
set_option maxRecDepth 100000 in
theorem lentI_any (v : Value) (l : List Cd.In) (h : Sq w v l.length 2 (fI l)) (hl : l.length ≤ 100000000000) : Calls Tryz.prog 33 #[v] w fun e w' => ∃ b, e = .returned (.slice (some ⟨b, 0, none⟩) l.length (l.length + 2)) ∧ Blk w' b 82 (flatI l ++ markI) ∧ w.heap.size ≤ b ∧ Same [] w w' := by
  obtain ⟨A, cap, rfl, hc1, hc2⟩ := h.form
  have HR := Lib.hid h
  unfold maxLen at hc2
  clear h
  go_enter Tryz.func33, Tryz.ntmps33
  go_wp2_with (first
    | (refine wpList_make_cap _ rfl _ (.tmp 7) 66 rfl 82 (.agg #[.int .u8 0, .int .i64 0]) 2 16 Tryz.underlying66 infoI _ (l.length + 2) rfl rfl ?a1 ?a2 ?a3 ?mk))
  case a1 => omega
  case a2 => omega
  case a3 => unfold maxLen; omega
  case mk =>
    intro w1 hown hs1
    have HO := Lib.hid hown
    have HS1 := Lib.hid hs1
    clear hown hs1
    go_wp2_with (first
      | (at_builtin; refine wpList_fits_sq _ rfl (.tmp 8) (.tmp 9) 66 rfl w.heap.size 82 (.agg #[.int .u8 0, .int .i64 0]) 2 16 Tryz.underlying66 infoI w.heap.size 0 (l.length + 2) [] rfl ?b0 A l.length cap (flatI l) rfl ?b1 ?b2 ?b3 ?b4 ?b5 ?ap))
    case b0 => exact HO.out
    case b1 => rw [flatI_len]
    case b2 => exact (HR.out.src (by rw [flatI_len]) (flatI_at l)).1
    case b3 => exact ((HR.out.frame HS1.out).src (by rw [flatI_len]) (flatI_at l)).2
    case b4 => exact oneI l
    case b5 => omega
    case ap =>
      intro w2 hown hs2
      have HO2 := Lib.hid hown
      have HS2 : Hid (Same [] w w2) := Lib.hid (HS1.out.trans' hs2 (fun x hx => .inr (by rw [List.mem_singleton.1 hx]; exact Nat.le_refl _)))
      have hz2 := HS2.out.size
      clear hown hs2
      go_wp2_with (first
        | (at_builtin; refine wpList_fits_sq _ rfl (.tmp 11) (.tmp 14) 66 rfl w.heap.size 82 (.agg #[.int .u8 0, .int .i64 0]) 2 16 Tryz.underlying66 infoI w.heap.size l.length (l.length + 2) (flatI l) rfl ?c0 (some _) 2 2 markI rfl rfl ?c2 ?c3 ?c4 ?c5 ?ap2))
      case c0 => exact own_frame (by simpa using HO2.out) ((Same.refl [] _).alloc _) (by simp)
      case c2 => exact fun h => by cases h
      case c3 => exact news_blk (blk_at (by simp))
      case c4 => decide
      case c5 => omega
      case ap2 =>
        intro w3 hown hs3
        have HO3 := Lib.hid hown
        have HS3 : Hid (Same [] w w3) := Lib.hid ((HS2.out.alloc _).trans' hs3 (fun x hx => .inr (by rw [List.mem_singleton.1 hx]; exact Nat.le_refl _)))
        clear hown hs3
        go_wp2_with fail
        go_ret
        exact ⟨w.heap.size, rfl, Blk.of_own HO3.out, Nat.le_refl _, HS3.out⟩
end Ck
end Go.Proofs.YticaipedpcmhfaaGreatDoor

