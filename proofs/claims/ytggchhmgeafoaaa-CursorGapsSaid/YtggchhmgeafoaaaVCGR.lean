/-
 The gaps of the gaps of a row in a window are what it has in that window: what the law's function answers over data.
-/
import Derived.Test.YtggchhmgeafoaaaVC
import Derived.Test.YtggchhmgeafoaaaVi33
set_option linter.unusedVariables false
set_option linter.unusedSimpArgs false
set_option linter.unnecessarySimpa false
namespace Go.Proofs.Ytggchhmgeafoaaa.cursorGaps
open Go Go.Vi
theorem fitM {d : D} (h : Fits (.int .i64) d) : ∃ n, d = .int .i64 n ∧ Fit n := by
 simp only [Fits] at h
 obtain ⟨n, h, h1, h2⟩ := h
 simp only [IntKind.min, IntKind.max, IntKind.bits, IntKind.signed] at h1 h2
 exact ⟨n, h, by unfold Fit; simp at h1 h2; omega⟩
theorem fitSp {d : D} (h : Fits (.slice 16 [.int .i64, .int .i64]) d) : ∃ l : List Sp, d = LS l ∧ l.length ≤ 140737488351232 ∧ FitS l := by
 simp only [Fits] at h
 obtain ⟨rows, rfl, hl, hr⟩ := h
 have key : ∀ rows : List (List D), (∀ r ∈ rows, FitsAll [.int .i64, .int .i64] r) → ∃ l : List Sp, rows = rowsS l ∧ FitS l := by
  intro rows
  induction rows with
  | nil => exact fun _ => ⟨[], rfl, by simp [FitS]⟩
  | cons r rows ih =>
   intro hr
   obtain ⟨l, hl, hf⟩ := ih fun r hr' => hr r (by simp [hr'])
   have h1 := hr r (by simp)
   simp only [FitsAll] at h1
   obtain ⟨_, _, rfl, h1, _, _, rfl, h2, rfl⟩ := h1
   obtain ⟨x, rfl, hx⟩ := fitM h1
   obtain ⟨y, rfl, hy⟩ := fitM h2
   refine ⟨(x, y) :: l, by rw [hl]; rfl, fun s hs => ?_⟩
   rcases List.mem_cons.1 hs with rfl | hs
   ·exact ⟨hx, hy⟩
   ·exact hf s hs
 obtain ⟨l, rfl, hf⟩ := key rows hr
 exact ⟨l, rfl, by rw [rowsS_len] at hl; omega, hf⟩
def law_shapes : List (Bool × List Sh) := [(false, [.slice 16 [.int .i64, .int .i64]]), (true, [.int .i64, .int .i64])]
theorem law_pure (es : List D) (h : ShapesOf law_shapes es) : PureD Try.prog 3 es (.bool true) := by
 simp only [law_shapes, ShapesOf] at h
 obtain ⟨_, _, rfl, h1, _, _, rfl, h2, rfl⟩ := h
 simp only [FitsAll] at h1 h2
 obtain ⟨_, _, rfl, h1, rfl⟩ := h1
 obtain ⟨_, _, rfl, h2, _, _, rfl, h3, rfl⟩ := h2
 obtain ⟨l, rfl, hl, fl⟩ := fitSp h1
 obtain ⟨x, rfl, hx⟩ := fitM h2
 obtain ⟨y, rfl, hy⟩ := fitM h3
 exact hgaps_p l (x, y) hl fl ⟨hx, hy⟩
end Go.Proofs.Ytggchhmgeafoaaa.cursorGaps
