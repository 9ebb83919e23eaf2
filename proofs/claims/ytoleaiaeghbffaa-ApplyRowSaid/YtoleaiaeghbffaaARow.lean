/-
  Along any row of marks each caller's last one was done; those of others stay: what the law's function answers over data.
-/
import Derived.Test.YtoleaiaeghbffaaA6
set_option linter.unusedVariables false
set_option linter.unusedSimpArgs false
set_option linter.unnecessarySimpa false
namespace Go.Proofs.Ytoleaiaeghbffaa.applyRow
open Go Go.Vi
def law_shapes : List (Bool × List Sh) := [(false, [.slice 24 [.int .u32, .int .u64, .int .u64]]), (false, [.int .u32])]
theorem rows_rowsD : ∀ (rows : List (List D)), (∀ r ∈ rows, FitsAll [.int .u32, .int .u64, .int .u64] r) → ∃ l : List Dn, rows = rowsD l
  | [], _ => ⟨[], rfl⟩
  | r :: rows, h => by
    obtain ⟨l, hl⟩ := rows_rowsD rows fun r hr => h r (by simp [hr])
    have h1 := h r (by simp)
    simp only [FitsAll, Fits] at h1
    obtain ⟨_, _, rfl, ⟨c, rfl, c1, c2⟩, _, _, rfl, ⟨n, rfl, n1, n2⟩, _, _, rfl, ⟨v, rfl, v1, v2⟩, rfl⟩ := h1
    exact ⟨⟨c, n, v⟩ :: l, by rw [hl]; rfl⟩
theorem law_pure (es : List D) (h : ShapesOf law_shapes es) : PureD Try.prog 3 es (.bool true) := by
  simp only [law_shapes, ShapesOf, FitsAll] at h
  obtain ⟨_, _, rfl, ⟨_, _, rfl, hf, rfl⟩, _, _, rfl, ⟨_, _, rfl, hg, rfl⟩, rfl⟩ := h
  simp only [Fits] at hf hg
  obtain ⟨rows, rfl, hl, hr⟩ := hf
  obtain ⟨id, rfl, _⟩ := hg
  obtain ⟨l, rfl⟩ := rows_rowsD rows hr
  simp only [rowsD, List.length_map] at hl
  exact row_p l id (by omega)
end Go.Proofs.Ytoleaiaeghbffaa.applyRow
