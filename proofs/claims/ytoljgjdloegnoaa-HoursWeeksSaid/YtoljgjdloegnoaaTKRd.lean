/-
  In a zone without turns, without days off, each week has the same minutes: what the law's function answers over data.
-/
import Derived.Test.YtoljgjdloegnoaaTK15
set_option linter.unusedVariables false
set_option linter.unusedSimpArgs false
set_option linter.unnecessarySimpa false
namespace Go.Proofs.Ytoljgjdloegnoaa.hoursWeeks
open Go Go.Vi
def law_shapes : List (Bool × List Sh) := [(false, [.int .i64]), (true, [.int .i64, .int .i64, .int .i64]), (false, [.int .u16])]
theorem law_pure (es : List D) (h : ShapesOf law_shapes es) : PureD Try.prog 7 es (.bool true) := by
  simp only [law_shapes, ShapesOf] at h
  obtain ⟨_, _, rfl, h1, _, _, rfl, h2, _, _, rfl, h3, rfl⟩ := h
  simp only [FitsAll] at h1 h3
  obtain ⟨_, _, rfl, h1, rfl⟩ := h1
  obtain ⟨_, _, rfl, h3, rfl⟩ := h3
  obtain ⟨b, rfl, _⟩ := fitM h1
  obtain ⟨s, rfl, _⟩ := decS h2
  obtain ⟨k, rfl, g⟩ := fitU h3
  exact hweeks_p b s k g
end Go.Proofs.Ytoljgjdloegnoaa.hoursWeeks
