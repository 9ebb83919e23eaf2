/-
  Starts on a wider grid, or for more minutes, are among those on one that divides it, for fewer: what the law's function answers over data.
-/
import Derived.Test.YtfpohilhapaiiaaUE10
set_option linter.unusedVariables false
set_option linter.unusedSimpArgs false
set_option linter.unnecessarySimpa false
namespace Go.Proofs.Ytfpohilhapaiiaa.erodeFiner
open Go Go.Vi
def law_shapes : List (Bool × List Sh) := [(false, [.slice 16 [.int .i64, .int .i64]]), (false, [.int .u8]), (false, [.int .u8]), (false, [.int .u8]), (false, [.int .u8])]
theorem law_pure (es : List D) (h : ShapesOf law_shapes es) : PureD Try.prog 6 es (.bool true) := by
  simp only [law_shapes, ShapesOf] at h
  obtain ⟨_, _, rfl, h1, _, _, rfl, h2, _, _, rfl, h3, _, _, rfl, h4, _, _, rfl, h5, rfl⟩ := h
  simp only [FitsAll] at h1 h2 h3 h4 h5
  obtain ⟨_, _, rfl, h1, rfl⟩ := h1
  obtain ⟨_, _, rfl, h2, rfl⟩ := h2
  obtain ⟨_, _, rfl, h3, rfl⟩ := h3
  obtain ⟨_, _, rfl, h4, rfl⟩ := h4
  obtain ⟨_, _, rfl, h5, rfl⟩ := h5
  obtain ⟨l, rfl, f1, f2⟩ := fitSp h1
  obtain ⟨n, rfl, f3⟩ := fit8 h2
  obtain ⟨g, rfl, f4⟩ := fit8 h3
  obtain ⟨m, rfl, f5⟩ := fit8 h4
  obtain ⟨k, rfl, f6⟩ := fit8 h5
  exact efiner_p l n g m k f1 f2 f3 f4 f5 f6
end Go.Proofs.Ytfpohilhapaiiaa.erodeFiner
