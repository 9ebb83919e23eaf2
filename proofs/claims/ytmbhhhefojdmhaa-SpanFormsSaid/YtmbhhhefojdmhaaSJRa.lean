/-
  Any row's form is the document's: what the law's function answers over data.
-/
import Derived.Test.YtmbhhhefojdmhaaSJ11
set_option linter.unusedVariables false
set_option linter.unusedSimpArgs false
set_option linter.unnecessarySimpa false
namespace Go.Proofs.Ytmbhhhefojdmhaa.spanForms
open Go Go.Vi
def law_shapes : List (Bool × List Sh) := [(false, [.slice 16 [.int .i64, .int .i64]]), (false, [.int .i64])]
theorem law_pure (es : List D) (h : ShapesOf law_shapes es) : PureD Try.prog 3 es (.bool true) := by
  simp only [law_shapes, ShapesOf] at h
  obtain ⟨_, _, rfl, h1, _, _, rfl, h2, rfl⟩ := h
  simp only [FitsAll] at h1 h2
  obtain ⟨_, _, rfl, h1, rfl⟩ := h1
  obtain ⟨_, _, rfl, h2, rfl⟩ := h2
  obtain ⟨l, rfl, hl, _⟩ := fitSp h1
  obtain ⟨m, rfl, _⟩ := fitM h2
  exact forms_p l m hl
end Go.Proofs.Ytmbhhhefojdmhaa.spanForms
