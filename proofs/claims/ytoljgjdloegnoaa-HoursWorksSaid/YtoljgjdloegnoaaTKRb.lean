/-
  Whether any minute is worked is the document's: what the law's function answers over data.
-/
import Derived.Test.YtoljgjdloegnoaaTK15
set_option linter.unusedVariables false
set_option linter.unusedSimpArgs false
set_option linter.unnecessarySimpa false
namespace Go.Proofs.Ytoljgjdloegnoaa.hoursWorks
open Go Go.Vi
def law_shapes : List (Bool × List Sh) := [(true, shZ), (true, shH), (false, [.int .i64]), (false, [.int .u16]), (false, [.int .u16])]
theorem law_pure (es : List D) (h : ShapesOf law_shapes es) : PureD Try.prog 5 es (.bool true) := by
  simp only [law_shapes, ShapesOf] at h
  obtain ⟨_, _, rfl, h1, _, _, rfl, h2, _, _, rfl, h3, _, _, rfl, h4, _, _, rfl, h5, rfl⟩ := h
  obtain ⟨b, ts, rfl, f1⟩ := decZ h1
  obtain ⟨sh, off, rfl, f2, f3⟩ := decH h2
  simp only [FitsAll] at h3 h4 h5
  obtain ⟨_, _, rfl, h3, rfl⟩ := h3
  obtain ⟨_, _, rfl, h4, rfl⟩ := h4
  obtain ⟨_, _, rfl, h5, rfl⟩ := h5
  obtain ⟨u, rfl, g1⟩ := fitM h3
  obtain ⟨p, rfl, g2⟩ := fitU h4
  obtain ⟨q, rfl, g3⟩ := fitU h5
  exact hworks_p b ts sh off u p q f1 f2 f3 g1 g2 g3
end Go.Proofs.Ytoljgjdloegnoaa.hoursWorks
