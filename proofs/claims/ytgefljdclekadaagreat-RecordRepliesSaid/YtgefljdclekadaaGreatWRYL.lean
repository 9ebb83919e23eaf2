/-
 Any reply's bytes are as the document says, or there are none; it is read as it was: what the law's function answers over data.
-/
import Derived.Test.YtgefljdclekadaaGreatWLX
set_option linter.unusedVariables false
set_option linter.unusedSimpArgs false
set_option linter.unnecessarySimpa false
namespace Go.Proofs.YtgefljdclekadaaGreat.recordReplies
open Go Go.Vi
def law_shapes : List (Bool × List Sh) := [(true, shRe)]
theorem law_pure (es : List D) (h : ShapesOf law_shapes es) : PureD Tryz.prog 3 es (.bool true) := by
 simp only [law_shapes, ShapesOf] at h
 obtain ⟨_, _, rfl, h1, rfl⟩ := h
 obtain ⟨r, rfl, hr⟩ := decRe _ h1
 refine recordReplies_p r hr fun g => rngRe r h1 ?_
 simp only [Re.great, Bool.or_eq_false_iff, decide_eq_false_iff_not] at g
 omega
end Go.Proofs.YtgefljdclekadaaGreat.recordReplies
