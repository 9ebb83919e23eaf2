/-
  A nil writer takes nothing, a nil reader is bad: what the law's function answers over data.
-/
import Derived.Test.YtlledgjigpoopaaP6
set_option linter.unusedVariables false
set_option linter.unusedSimpArgs false
set_option linter.unnecessarySimpa false
namespace Go.Proofs.Ytlledgjigpoopaa.packNil
open Go Go.Vi
def law_shapes : List (Bool × List Sh) := [(true, [.int .i64, .int .u64, .int .i64, .str, .bool])]
theorem law_pure (es : List D) (h : ShapesOf law_shapes es) : PureD Try.prog 7 es (.bool true) := by
  simp only [law_shapes, ShapesOf, FitsAll, Fits] at h
  obtain ⟨_, _, rfl, ⟨_, _, rfl, ⟨k, rfl, k1, k2⟩, _, _, rfl, ⟨n, rfl, n1, n2⟩, _, _, rfl, ⟨s, rfl, s1, s2⟩, _, _, rfl, ⟨t, rfl, t1⟩, _, _, rfl, ⟨f, rfl⟩, rfl⟩, rfl⟩ := h
  exact nil_p k n s t f
end Go.Proofs.Ytlledgjigpoopaa.packNil
