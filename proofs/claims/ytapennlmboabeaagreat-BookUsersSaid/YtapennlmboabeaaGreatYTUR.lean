/-
 Giving any user settings, and taking a user out, of any state whose users rise, is as the document says; the state that is handed in stays: what the law's function answers over data.
-/
import Derived.Test.YtapennlmboabeaaGreatYO
import Derived.Test.YtapennlmboabeaaGreatVi33
set_option linter.unusedVariables false
set_option linter.unusedSimpArgs false
set_option linter.unnecessarySimpa false
namespace Go.Proofs.YtapennlmboabeaaGreat.bookUsers
open Go Go.Vi
def law_shapes : List (Bool × List Sh) := [(true, shSt), (false, [.int .u32]), (true, shSe)]
theorem law_pure (es : List D) (h : ShapesOf law_shapes es) : PureD Tryz.prog 3 es (.bool true) := by
 simp only [law_shapes, ShapesOf] at h
 obtain ⟨_, _, rfl, h1, _, _, rfl, h3, _, _, rfl, h4, rfl⟩ := h
 have hq := h1
 obtain ⟨s, rfl, hf⟩ := decSt _ h1
 simp only [FitsAll] at h3
 obtain ⟨_, _, rfl, h3, rfl⟩ := h3
 obtain ⟨user, rfl⟩ := fitI h3
 obtain ⟨x, rfl, hx⟩ := decSe _ h4
 have hf' := hf
 obtain ⟨f1, f2, f3, f4, f5⟩ := hf
 exact users_p s.t s.us s.ps s.ds user x ⟨f1, f2, f3, fun u hu => (f4 u hu).2.1⟩ hf' (rngSt s hq) hx
end Go.Proofs.YtapennlmboabeaaGreat.bookUsers
