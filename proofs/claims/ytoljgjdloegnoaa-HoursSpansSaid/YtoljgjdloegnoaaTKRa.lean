/-
  The minutes of any window that are worked are the document's: what the law's function answers over data.
-/
import Derived.Test.YtoljgjdloegnoaaTK15
set_option linter.unusedVariables false
set_option linter.unusedSimpArgs false
set_option linter.unnecessarySimpa false
namespace Go.Proofs.Ytoljgjdloegnoaa.hoursSpans
open Go Go.Vi
def law_shapes : List (Bool × List Sh) := [(true, shZ), (true, shH), (true, [.int .i64, .int .i64])]
theorem law_pure (es : List D) (h : ShapesOf law_shapes es) : PureD Try.prog 3 es (.bool true) := by
  simp only [law_shapes, ShapesOf] at h
  obtain ⟨_, _, rfl, h1, _, _, rfl, h2, _, _, rfl, h3, rfl⟩ := h
  obtain ⟨b, ts, rfl, f1⟩ := decZ h1
  obtain ⟨sh, off, rfl, f2, f3⟩ := decH h2
  obtain ⟨w, rfl, g1, g2⟩ := decW h3
  exact hspans_p b ts sh off w f1 f2 f3 g1 g2
end Go.Proofs.Ytoljgjdloegnoaa.hoursSpans
