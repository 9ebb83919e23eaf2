/-
  What any two rows make is the document's: what the law's function answers over data.
-/
import Derived.Test.YtmbhhhefojdmhaaSJ11
set_option linter.unusedVariables false
set_option linter.unusedSimpArgs false
set_option linter.unnecessarySimpa false
namespace Go.Proofs.Ytmbhhhefojdmhaa.spanPairs
open Go Go.Vi
def law_shapes : List (Bool × List Sh) := [(false, [.slice 16 [.int .i64, .int .i64]]), (false, [.slice 16 [.int .i64, .int .i64]]), (false, [.int .i64])]
theorem law_pure (es : List D) (h : ShapesOf law_shapes es) : PureD Try.prog 6 es (.bool true) := by
  simp only [law_shapes, ShapesOf] at h
  obtain ⟨_, _, rfl, h1, _, _, rfl, h2, _, _, rfl, h3, rfl⟩ := h
  simp only [FitsAll] at h1 h2 h3
  obtain ⟨_, _, rfl, h1, rfl⟩ := h1
  obtain ⟨_, _, rfl, h2, rfl⟩ := h2
  obtain ⟨_, _, rfl, h3, rfl⟩ := h3
  obtain ⟨a, rfl, ha, fa⟩ := fitSp h1
  obtain ⟨b, rfl, hb, fb⟩ := fitSp h2
  obtain ⟨m, rfl, _⟩ := fitM h3
  exact pairs_p a b m ha hb fa fb
end Go.Proofs.Ytmbhhhefojdmhaa.spanPairs
