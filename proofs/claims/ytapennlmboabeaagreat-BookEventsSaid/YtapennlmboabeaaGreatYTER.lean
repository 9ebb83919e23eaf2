/-
 Putting any event, and taking it out, of any state whose users rise, is as the document says; the state that is handed in stays: what the law's function answers over data.
-/
import Derived.Test.YtapennlmboabeaaGreatYO
import Derived.Test.YtapennlmboabeaaGreatVi33
set_option linter.unusedVariables false
set_option linter.unusedSimpArgs false
set_option linter.unnecessarySimpa false
namespace Go.Proofs.YtapennlmboabeaaGreat.bookEvents
open Go Go.Vi
def law_shapes : List (Bool × List Sh) := [(true, yh), (false, [.int .u32]), (false, [.int .u32]), (true, Ap)]
theorem law_pure (es : List D) (h : kX law_shapes es) : aA Tryz.prog 4 es (.bool true) := by
 simp only [law_shapes, kX] at h
 obtain ⟨_, _, rfl, h1, _, _, rfl, h2, _, _, rfl, h3, _, _, rfl, h5, rfl⟩ := h
 have hq := h1
 obtain ⟨s, rfl, hf⟩ := decSt _ h1
 obtain ⟨e, rfl, he⟩ := AM _ h5
 simp only [bC] at h2 h3
 obtain ⟨_, _, rfl, h2, rfl⟩ := h2
 obtain ⟨user, rfl⟩ := i9 h2
 obtain ⟨_, _, rfl, h3, rfl⟩ := h3
 obtain ⟨id, rfl⟩ := i9 h3
 have hf' := hf
 obtain ⟨f1, f2, f3, f4, f5⟩ := hf
 exact xb s.t s.us s.ps s.ds user id e ⟨f1, f2, f3, fun u hu => (f4 u hu).2.1⟩ hf' (rngSt s hq) he
end Go.Proofs.YtapennlmboabeaaGreat.bookEvents
