/-
  The minute of any local time, and how it stands, are the document's, going through all minutes about it (up to 20 turns): what the law's function answers over data.
-/
import Derived.Test.YtefpjijokdplfaaZ13
import Derived.Test.YtefpjijokdplfaaZLocals
set_option linter.unusedVariables false
set_option linter.unusedSimpArgs false
namespace Go.Proofs.Ytefpjijokdplfaa.zoneUtcs
open Go Go.Vi
def law_shapes : List (Bool × List Sh) := [(true, [.int .i64, .slice 16 [.int .i64, .int .i64]]), (false, [.int .i64])]
theorem law_pure (es : List D) (h : ShapesOf law_shapes es) : PureD Try.prog 3 es (.bool true) := by
  simp only [law_shapes, ShapesOf, FitsAll, Fits] at h
  obtain ⟨_, _, rfl, ⟨_, _, rfl, ⟨b, rfl, b1, b2⟩, _, _, rfl, ⟨rows, rfl, hl, hr⟩, rfl⟩, _, _, rfl, ⟨_, _, rfl, ⟨u, rfl, l1, l2⟩, rfl⟩, rfl⟩ := h
  obtain ⟨ts, rfl⟩ := rows_turns (rows := rows) (by simpa only [FitsAll, Fits] using hr)
  exact utcs_p b ts u (by simp at hl; omega)
end Go.Proofs.Ytefpjijokdplfaa.zoneUtcs
