/-
 Any state's bytes are as the document says, or there are none; it is read as it was; whether two are the same is as the document says: what the law's function answers over data.
-/
import Derived.Test.YtgefljdclekadaaGreatWS5
set_option linter.unusedVariables false
set_option linter.unusedSimpArgs false
namespace Go.Proofs.YtgefljdclekadaaGreat.recordStates
open Go Go.Vi
def law_shapes : List (Bool × List Sh) := [(true, sB), (true, sB)]
theorem law_pure (es : List D) (h : gu law_shapes es) : aP Tryz.prog 4 es (.bool true) := by
 simp only [law_shapes, gu] at h
 obtain ⟨_, _, rfl, h1, _, _, rfl, h2, rfl⟩ := h
 obtain ⟨s, rfl, hs⟩ := xC _ h1
 obtain ⟨r, rfl, hr⟩ := xC _ h2
 exact kO s r hs hr (rngSt s h1)
end Go.Proofs.YtgefljdclekadaaGreat.recordStates
