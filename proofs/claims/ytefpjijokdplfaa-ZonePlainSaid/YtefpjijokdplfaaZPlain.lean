/-
  In a zone without turns each local time that has a minute is plain, and Base away from it: what the law's function answers over data.
-/
import Derived.Test.YtefpjijokdplfaaZ7
set_option linter.unusedVariables false
set_option linter.unusedSimpArgs false
namespace Go.Proofs.Ytefpjijokdplfaa.zonePlain
open Go Go.Vi
def law_shapes : List (Bool × List Sh) := [(false, [.int .i64]), (false, [.int .i64])]
theorem law_pure (es : List D) (h : ShapesOf law_shapes es) : PureD Try.prog 4 es (.bool true) := by
  simp only [law_shapes, ShapesOf, FitsAll, Fits] at h
  obtain ⟨_, _, rfl, ⟨_, _, rfl, ⟨b, rfl, b1, b2⟩, rfl⟩, _, _, rfl, ⟨_, _, rfl, ⟨l, rfl, l1, l2⟩, rfl⟩, rfl⟩ := h
  exact plain_p b l b1 b2 l1 l2
end Go.Proofs.Ytefpjijokdplfaa.zonePlain
