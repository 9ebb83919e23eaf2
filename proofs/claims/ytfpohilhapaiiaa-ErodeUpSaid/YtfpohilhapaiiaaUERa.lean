/-
  The least minute on any grid, not ahead of any minute: what the law's function answers over data.
-/
import Derived.Test.YtfpohilhapaiiaaUE10
set_option linter.unusedVariables false
set_option linter.unusedSimpArgs false
set_option linter.unnecessarySimpa false
namespace Go.Proofs.Ytfpohilhapaiiaa.erodeUp
open Go Go.Vi
def law_shapes : List (Bool × List Sh) := [(false, [.int .i64]), (false, [.int .i64])]
theorem law_pure (es : List D) (h : ShapesOf law_shapes es) : PureD Try.prog 3 es (.bool true) := by
  simp only [law_shapes, ShapesOf] at h
  obtain ⟨_, _, rfl, h1, _, _, rfl, h2, rfl⟩ := h
  simp only [FitsAll] at h1 h2
  obtain ⟨_, _, rfl, h1, rfl⟩ := h1
  obtain ⟨_, _, rfl, h2, rfl⟩ := h2
  obtain ⟨m, rfl, f1⟩ := fitM h1
  obtain ⟨g, rfl, f2⟩ := fitM h2
  exact eup_p m g f1 f2
end Go.Proofs.Ytfpohilhapaiiaa.erodeUp
