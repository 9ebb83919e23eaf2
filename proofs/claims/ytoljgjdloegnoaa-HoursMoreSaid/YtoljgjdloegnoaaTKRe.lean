/-
 With a shift more no minute is lost; with a day off more none is won: what the law's function answers over data.
-/
import Derived.Test.YtoljgjdloegnoaaTB
import Derived.Test.YtoljgjdloegnoaaVi33
set_option linter.unusedVariables false
set_option linter.unusedSimpArgs false
set_option linter.unnecessarySimpa false
namespace Go.Proofs.Ytoljgjdloegnoaa.hoursMore
open Go Go.Vi
def law_shapes : List (Bool × List Sh) := [(true, shZ), (true, shH), (true, [.int .i64, .int .i64, .int .i64]), (false, [.int .i64]), (false, [.int .i64])]
theorem law_pure (es : List D) (h : ShapesOf law_shapes es) : PureD Try.prog 6 es (.bool true) := by
 simp only [law_shapes, ShapesOf] at h
 obtain ⟨_, _, rfl, h1, _, _, rfl, h2, _, _, rfl, h3, _, _, rfl, h4, _, _, rfl, h5, rfl⟩ := h
 obtain ⟨b, ts, rfl, f1⟩ := decZ h1
 obtain ⟨sh, off, rfl, f2, f3⟩ := decH h2
 simp only [FitsAll] at h4 h5
 obtain ⟨_, _, rfl, h4, rfl⟩ := h4
 obtain ⟨_, _, rfl, h5, rfl⟩ := h5
 obtain ⟨s, rfl, g1, g2, g3⟩ := decS h3
 obtain ⟨d, rfl, g4⟩ := fitM h4
 obtain ⟨u, rfl, g5⟩ := fitM h5
 exact hmore_p b ts sh off s d u f1 f2 f3 g4 g5
end Go.Proofs.Ytoljgjdloegnoaa.hoursMore
