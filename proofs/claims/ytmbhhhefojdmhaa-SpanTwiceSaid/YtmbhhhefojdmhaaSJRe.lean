/-
  A row that is grown twice is grown by both together: what the law's function answers over data.
-/
import Derived.Test.YtmbhhhefojdmhaaSJ11
set_option linter.unusedVariables false
set_option linter.unusedSimpArgs false
set_option linter.unnecessarySimpa false
namespace Go.Proofs.Ytmbhhhefojdmhaa.spanTwice
open Go Go.Vi
def law_shapes : List (Bool × List Sh) := [(false, [.slice 16 [.int .i64, .int .i64]]), (false, [.int .u16]), (false, [.int .u16])]
theorem law_pure (es : List D) (h : ShapesOf law_shapes es) : PureD Try.prog 4 es (.bool true) := by
  simp only [law_shapes, ShapesOf] at h
  obtain ⟨_, _, rfl, h1, _, _, rfl, h2, _, _, rfl, h3, rfl⟩ := h
  simp only [FitsAll] at h1 h2 h3
  obtain ⟨_, _, rfl, h1, rfl⟩ := h1
  obtain ⟨_, _, rfl, h2, rfl⟩ := h2
  obtain ⟨_, _, rfl, h3, rfl⟩ := h3
  obtain ⟨l, rfl, hl, fl⟩ := fitSp h1
  obtain ⟨p, rfl, hp, hp2⟩ := fitU h2
  obtain ⟨q, rfl, hq, hq2⟩ := fitU h3
  exact twice_p l p q hl fl hp hp2 hq hq2
end Go.Proofs.Ytmbhhhefojdmhaa.spanTwice
