/-
  How many minutes are in any row: what the law's function answers over data.
-/
import Derived.Test.YtmbhhhefojdmhaaSJ11
set_option linter.unusedVariables false
set_option linter.unusedSimpArgs false
set_option linter.unnecessarySimpa false
namespace Go.Proofs.Ytmbhhhefojdmhaa.spanMinutes
open Go Go.Vi
def law_shapes : List (Bool × List Sh) := [(false, [.slice 16 [.int .i64, .int .i64]]), (true, [.int .i64, .int .i64])]
theorem law_pure (es : List D) (h : ShapesOf law_shapes es) : PureD Try.prog 5 es (.bool true) := by
  simp only [law_shapes, ShapesOf] at h
  obtain ⟨_, _, rfl, h1, _, _, rfl, h2, rfl⟩ := h
  simp only [FitsAll] at h1 h2
  obtain ⟨_, _, rfl, h1, rfl⟩ := h1
  obtain ⟨_, _, rfl, h2, _, _, rfl, h3, rfl⟩ := h2
  obtain ⟨l, rfl, hl, fl⟩ := fitSp h1
  obtain ⟨x, rfl, hx⟩ := fitM h2
  obtain ⟨y, rfl, hy⟩ := fitM h3
  exact minutes_law l (x, y) hl fl (fun s hs => by
    obtain rfl : s = (x, y) := by simpa using hs
    exact ⟨hx, hy⟩)
end Go.Proofs.Ytmbhhhefojdmhaa.spanMinutes
