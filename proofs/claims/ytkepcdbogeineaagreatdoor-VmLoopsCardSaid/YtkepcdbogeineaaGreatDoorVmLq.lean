/- The law's loops: their code in memory. -/
import Derived.Test.YtkepcdbogeineaaGreatDoorVmLp
import Derived.Test.YtkepcdbogeineaaGreatDoorCkPick
namespace Go.Proofs.YtkepcdbogeineaaGreatDoor
open Go.RowKit Hp Ck
namespace Vm
variable {w w' w1 W W' : World}

theorem sq_blk {b n sz ty C : Nat} {cs : List Value} {f : Nat → Nat → Value} (hb : Blk W b ty cs) (hC : n ≤ C ∧ C ≤ 1000000) (hf : ∀ i j, i < n → j < sz → cs[i * sz + j]? = some (f i j)) : Sq W (.slice (some ⟨b, 0, none⟩) n C) n sz f :=
  ⟨_, C, rfl, hC.1, by unfold maxLen; omega, fun _ => ⟨b, 0, rfl, hb.lt, fun i j hi hj => by rw [Nat.zero_add, hb.cell]; exact hf i j hi hj⟩⟩
theorem sq_nil {sz : Nat} {f : Nat → Nat → Value} : Sq W (.slice none 0 0) 0 sz f := ⟨none, 0, rfl, Nat.le_refl _, by unfold maxLen; omega, fun h => absurd h (by decide)⟩

theorem cellsI (l : List Cd.In) (i j : Nat) (hi : i < l.length) (hj : j < 2) : (flatI l)[i * 2 + j]? = some (fI l i j) := flatI_at l i j hi hj

def code1 (b : Bool) : List Cd.In := if b then [⟨4, 0⟩, ⟨11, 0⟩] else [⟨4, 0⟩, ⟨10, 0⟩, ⟨12, 0⟩]
theorem loop_read {b : Bool} {b0 bp bg : Nat} {va : Value} (h0 : Blk W b0 53 [.int .u8 6, .int .i64 1, .int .u8 5, .int .i64 0, .int .u8 7, .int .i64 0, .int .u8 4, .int .i64 0, .int .u8 10, .int .i64 0, .int .u8 12, .int .i64 0]) (h1 : RIs W va (code1 b))
    (hp : Blk W bp 56 [.int .i64 0, .slice (some ⟨b0, 0, none⟩) 6 6, .int .i64 0, va]) (hg : Blk W bg 9 [.string ⟨#[102]⟩]) :
    RCoAt W (.slice none 0 0) (.slice (some ⟨bp, 0, none⟩) 2 2) (.slice (some ⟨bg, 0, none⟩) 1 1) (loopC b) := by
  refine ⟨sq_nil, ⟨fun i => if i = 0 then .slice (some ⟨b0, 0, none⟩) 6 6 else va, sq_blk hp (by decide) (fun i j hi hj => ?_), fun i hi => ?_⟩, sq_blk hg (by decide) (fun i j hi hj => ?_)⟩
  · obtain rfl | rfl : i = 0 ∨ i = 1 := by omega
    · obtain rfl | rfl : j = 0 ∨ j = 1 := by omega
      · rfl
      · rfl
    · obtain rfl | rfl : j = 0 ∨ j = 1 := by omega
      · rfl
      · rfl
  · have hi' : i < 2 := hi
    obtain rfl | rfl : i = 0 ∨ i = 1 := by omega
    · exact sq_blk h0 (by decide) (fun i j hi hj => cellsI [⟨6, 1⟩, ⟨5, 0⟩, ⟨7, 0⟩, ⟨4, 0⟩, ⟨10, 0⟩, ⟨12, 0⟩] i j hi hj)
    · exact h1
  · have hi' : i < 1 := hi
    obtain rfl : i = 0 := by omega
    obtain rfl : j = 0 := by omega
    rfl
theorem jump_read {b0 bp : Nat} (h0 : Blk W b0 53 [.int .u8 8, .int .i64 0]) (hp : Blk W bp 56 [.int .i64 0, .slice (some ⟨b0, 0, none⟩) 1 1]) :
    RCoAt W (.slice none 0 0) (.slice (some ⟨bp, 0, none⟩) 1 1) (.slice none 0 0) jumpC := by
  refine ⟨sq_nil, ⟨fun _ => .slice (some ⟨b0, 0, none⟩) 1 1, sq_blk hp (by decide) (fun i j hi hj => ?_), fun i hi => ?_⟩, sq_nil⟩
  · obtain rfl : i = 0 := by omega
    obtain rfl | rfl : j = 0 ∨ j = 1 := by omega
    · rfl
    · rfl
  · have hi' : i < 1 := hi
    obtain rfl : i = 0 := by omega
    exact sq_blk h0 (by decide) (fun i j hi hj => cellsI [⟨8, 0⟩] i j hi hj)
theorem loop_w (b : Bool) : WCo (loopC b) := by
  refine ⟨(fun x hx => by cases hx), fun s hs => ?_, fun p hp => ?_⟩
  · simp only [loopC, List.mem_cons, List.not_mem_nil, or_false] at hs
    subst hs
    decide
  · simp only [loopC, List.mem_cons, List.not_mem_nil, or_false] at hp
    rcases hp with rfl | rfl
    · refine ⟨by unfold in64; simp only; omega, fun i hi => ?_⟩
      simp only [List.mem_cons, List.not_mem_nil, or_false] at hi
      rcases hi with rfl | rfl | rfl | rfl | rfl | rfl <;> (constructor <;> simp [in64])
    · refine ⟨by unfold in64; simp only; omega, fun i hi => ?_⟩
      cases b
      · simp only [Bool.false_eq_true, if_false, List.mem_cons, List.not_mem_nil, or_false] at hi
        rcases hi with rfl | rfl | rfl <;> (constructor <;> simp [in64])
      · simp only [if_true, List.mem_cons, List.not_mem_nil, or_false] at hi
        rcases hi with rfl | rfl <;> (constructor <;> simp [in64])
theorem jump_w : WCo jumpC := by
  refine ⟨(fun x hx => by cases hx), (fun s hs => by cases hs), fun p hp => ?_⟩
  simp only [jumpC, List.mem_cons, List.not_mem_nil, or_false] at hp
  subst hp
  refine ⟨by unfold in64; simp only; omega, fun i hi => ?_⟩
  simp only [List.mem_cons, List.not_mem_nil, or_false] at hi
  subst hi
  constructor <;> simp [in64]

/-- A loop without an access breathes. -/
def jth : Th := begins jumpC 0 nil1
theorem runs_loop {R : Th → Toy → Out → Prop} {th : Th} {t : Toy} (h : R th t (.quiet th t)) : ∀ n, Runs R n th t (.did { what := 15 } [] th t)
  | 0 => .zero th t
  | n + 1 => .more h (runs_loop h n)
theorem step_jump {k : Kx} {t : Toy} {FT G : List Nat} (h : Sit k w jth t FT G) : Calls Tryz.prog 13 #[.pointer (some ⟨k.T, 0, none⟩), toyV k.H] w fun e w' => ∃ v, e = .returned (.agg (evC { what := 15 } v).toArray) ∧ Lf k w FT G jth t [] v w' := by
  refine step_any h rfl rfl (.did { what := 15 } [] jth t) (runs_loop ?_ 1000)
  refine Meets.of (op := 8) (a := 0) (by decide) (by decide) (by decide) rfl (by decide) rfl (fun w FT G hs => ?_)
  have h := jump_any hs (by decide) (toyV k.H) 0
  rw [show jumpM 0 jth t = .quiet jth t from by kernel_rfl] at h
  exact h
/-- How the law's first thread stands behind so many steps. -/
theorem Is.stands {b : Bool} {i : Nat} {th : Th} {t : Toy} (h : Is b i th t) (hi : 200 ≤ i) : (b = true → th.ended = false) ∧ (b = false → th.ended = true ∧ th.word = 0 ∧ th.err = 181 ∧ t.calls = 192) := by
  cases h with
  | s0 => omega
  | s1 => omega
  | s2 => omega
  | s3 => omega
  | s4 => omega
  | c0 j l κ hj hl hk => exact ⟨fun _ => rfl, fun hb => by have := hj hb; omega⟩
  | c1 j l κ hj hl hk => exact ⟨fun _ => rfl, fun hb => by have := hj hb; omega⟩
  | c2 j l κ hj hl hk => exact ⟨fun _ => rfl, fun hb => by have := hj hb; omega⟩
  | over _ _ κ hb h193 h1 h2 h3 => exact ⟨(fun h => by rw [h] at hb; cases hb), fun _ => ⟨h1, h2, h3, rfl⟩⟩
end Vm
end Go.Proofs.YtkepcdbogeineaaGreatDoor
