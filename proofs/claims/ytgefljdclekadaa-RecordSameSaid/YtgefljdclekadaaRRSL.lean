/-
 Whether any two requests, and any two replies, are the same is as the document says: what the law's function answers over data.
-/
import Derived.Test.YtgefljdclekadaaRMG
import Derived.Test.YtgefljdclekadaaRLS
set_option linter.unusedVariables false
set_option linter.unusedSimpArgs false
set_option linter.unnecessarySimpa false
namespace Go.Proofs.Ytgefljdclekadaa.recordSame
open Go Go.Vi
def law_shapes : List (Bool × List Sh) := [(true, shAs), (true, shAs), (true, shRe), (true, shRe)]
theorem law_pure (es : List D) (h : ShapesOf law_shapes es) : PureD Try.prog 4 es (.bool true) := by
 simp only [law_shapes, ShapesOf] at h
 obtain ⟨_, _, rfl, h1, _, _, rfl, h2, _, _, rfl, h3, _, _, rfl, h4, rfl⟩ := h
 obtain ⟨a, rfl, ha⟩ := decAs _ h1
 obtain ⟨b, rfl, hb⟩ := decAs _ h2
 obtain ⟨r, rfl, hr⟩ := decRe _ h3
 obtain ⟨s, rfl, hs⟩ := decRe _ h4
 exact recordSame_p a b r s ha hb hr hs
end Go.Proofs.Ytgefljdclekadaa.recordSame
