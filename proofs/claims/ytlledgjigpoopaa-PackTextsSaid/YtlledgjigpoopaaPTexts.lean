/-
  Rows of texts that are unlike are written unlike, if they are as many: what the law's function answers over data.
-/
import Derived.Test.YtlledgjigpoopaaP7
set_option linter.unusedVariables false
set_option linter.unusedSimpArgs false
set_option linter.unnecessarySimpa false
namespace Go.Proofs.Ytlledgjigpoopaa.packTexts
open Go Go.Vi
def law_shapes : List (Bool × List Sh) := [(false, [.slice 16 [.str]]), (false, [.slice 16 [.str]])]
theorem rows_rowS : ∀ (rows : List (List D)), (∀ r ∈ rows, FitsAll [.str] r) → ∃ l : List ByteArray, rows = rowS l
  | [], _ => ⟨[], rfl⟩
  | r :: rows, h => by
    obtain ⟨l, hl⟩ := rows_rowS rows fun r hr => h r (by simp [hr])
    have h1 := h r (by simp)
    simp only [FitsAll, Fits] at h1
    obtain ⟨_, _, rfl, ⟨s, rfl, s1⟩, rfl⟩ := h1
    exact ⟨s :: l, by rw [hl]; rfl⟩
theorem law_pure (es : List D) (h : ShapesOf law_shapes es) : PureD Try.prog 5 es (.bool true) := by
  simp only [law_shapes, ShapesOf, FitsAll] at h
  obtain ⟨_, _, rfl, ⟨_, _, rfl, hf, rfl⟩, _, _, rfl, ⟨_, _, rfl, hg, rfl⟩, rfl⟩ := h
  simp only [Fits] at hf hg
  obtain ⟨rows, rfl, hl, hr⟩ := hf
  obtain ⟨rows', rfl, hl', hr'⟩ := hg
  obtain ⟨a, rfl⟩ := rows_rowS rows hr
  obtain ⟨b, rfl⟩ := rows_rowS rows' hr'
  simp only [rowS, List.length_map] at hl hl'
  exact texts_p a b (by omega) (by omega)
end Go.Proofs.Ytlledgjigpoopaa.packTexts
