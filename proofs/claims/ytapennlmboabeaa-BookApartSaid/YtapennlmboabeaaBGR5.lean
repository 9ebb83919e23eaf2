/-
  What two users do to their calendars is the same, whoever comes first: what the law's function answers over data.
-/
import Derived.Test.YtapennlmboabeaaBGA5
set_option linter.unusedVariables false
set_option linter.unusedSimpArgs false
set_option linter.unnecessarySimpa false
namespace Go.Proofs.Ytapennlmboabeaa.bookApart
open Go Go.Vi
def law_shapes : List (Bool × List Sh) := [(true, shSt), (false, [.int .u32]), (false, [.int .u32]), (false, [.int .u32]), (true, shEv), (true, shEv)]
theorem law_pure (es : List D) (h : ShapesOf law_shapes es) : PureD Try.prog 5 es (.bool true) := by
  simp only [law_shapes, ShapesOf] at h
  obtain ⟨_, _, rfl, h1, _, _, rfl, h2, _, _, rfl, h3, _, _, rfl, h4, _, _, rfl, h5, _, _, rfl, h6, rfl⟩ := h
  obtain ⟨s, rfl, hf⟩ := decSt _ h1
  obtain ⟨e, rfl, he⟩ := decEv _ h5
  obtain ⟨f, rfl, hff⟩ := decEv _ h6
  simp only [FitsAll] at h2 h3 h4
  obtain ⟨_, _, rfl, h2, rfl⟩ := h2
  obtain ⟨a, rfl⟩ := fitI h2
  obtain ⟨_, _, rfl, h3, rfl⟩ := h3
  obtain ⟨b, rfl⟩ := fitI h3
  obtain ⟨_, _, rfl, h4, rfl⟩ := h4
  obtain ⟨id, rfl⟩ := fitI h4
  have hf' := hf
  obtain ⟨f1, f2, f3, f4, f5⟩ := hf
  exact apart_p s.t s.us s.ps s.ds a b id e f ⟨f1, f2, f3, fun u hu => (f4 u hu).2.1⟩ hf' he hff
end Go.Proofs.Ytapennlmboabeaa.bookApart
