/-
  Who left is none, and none of their polls is there; all others, and theirs, are: what the law's function answers over data.
-/
import Derived.Test.YtapennlmboabeaaBGLw
set_option linter.unusedVariables false
set_option linter.unusedSimpArgs false
set_option linter.unnecessarySimpa false
namespace Go.Proofs.Ytapennlmboabeaa.bookLeaves
open Go Go.Vi
def law_shapes : List (Bool × List Sh) := [(true, shSt), (false, [.int .u32])]
theorem law_pure (es : List D) (h : ShapesOf law_shapes es) : PureD Try.prog 4 es (.bool true) := by
  simp only [law_shapes, ShapesOf] at h
  obtain ⟨_, _, rfl, h1, _, _, rfl, h3, rfl⟩ := h
  obtain ⟨s, rfl, hf⟩ := decSt _ h1
  simp only [FitsAll] at h3
  obtain ⟨_, _, rfl, h3, rfl⟩ := h3
  obtain ⟨user, rfl⟩ := fitI h3
  have hf' := hf
  obtain ⟨f1, f2, f3, f4, f5⟩ := hf
  exact leaves_p s.t s.us s.ps s.ds user ⟨f1, f2, f3, fun u hu => (f4 u hu).2.1⟩ hf'
end Go.Proofs.Ytapennlmboabeaa.bookLeaves
