/-
  Whether any zone may be, what is added at any minute, its local time, and the next turn, are the document's (up to 50 turns): what the law's function answers over data.
-/
import Derived.Test.YtefpjijokdplfaaZ10
set_option linter.unusedVariables false
set_option linter.unusedSimpArgs false
namespace Go.Proofs.Ytefpjijokdplfaa
open Go Go.Vi
theorem rows_turns : ∀ {rows : List (List D)}, (∀ r ∈ rows, FitsAll [.int .i64, .int .i64] r) → ∃ ts : List T, rows = ts.map encT
  | [], _ => ⟨[], rfl⟩
  | r :: rows, h => by
    obtain ⟨ts, rfl⟩ := rows_turns fun r hr => h r (List.mem_cons_of_mem _ hr)
    have := h r (by simp)
    simp only [FitsAll, Fits] at this
    obtain ⟨_, _, rfl, ⟨a, rfl, _⟩, _, _, rfl, ⟨o, rfl, _⟩, rfl⟩ := this
    exact ⟨⟨a, o⟩ :: ts, rfl⟩
end Go.Proofs.Ytefpjijokdplfaa
namespace Go.Proofs.Ytefpjijokdplfaa.zoneLocals
open Go Go.Vi
def law_shapes : List (Bool × List Sh) := [(true, [.int .i64, .slice 16 [.int .i64, .int .i64]]), (false, [.int .i64])]
theorem law_pure (es : List D) (h : ShapesOf law_shapes es) : PureD Try.prog 6 es (.bool true) := by
  simp only [law_shapes, ShapesOf, FitsAll, Fits] at h
  obtain ⟨_, _, rfl, ⟨_, _, rfl, ⟨b, rfl, b1, b2⟩, _, _, rfl, ⟨rows, rfl, hl, hr⟩, rfl⟩, _, _, rfl, ⟨_, _, rfl, ⟨u, rfl, l1, l2⟩, rfl⟩, rfl⟩ := h
  obtain ⟨ts, rfl⟩ := rows_turns (rows := rows) (by simpa only [FitsAll, Fits] using hr)
  exact locals_p b ts u (by simp at hl; omega)
end Go.Proofs.Ytefpjijokdplfaa.zoneLocals
namespace Go.Proofs.Ytefpjijokdplfaa.zoneTurns
open Go Go.Vi
def law_shapes : List (Bool × List Sh) := [(true, [.int .i64, .slice 16 [.int .i64, .int .i64]]), (false, [.int .i64]), (false, [.int .u16])]
theorem law_pure (es : List D) (h : ShapesOf law_shapes es) : PureD Try.prog 5 es (.bool true) := by
  simp only [law_shapes, ShapesOf, FitsAll, Fits] at h
  obtain ⟨_, _, rfl, ⟨_, _, rfl, ⟨b, rfl, b1, b2⟩, _, _, rfl, ⟨rows, rfl, hl, hr⟩, rfl⟩, _, _, rfl, ⟨_, _, rfl, ⟨u, rfl, l1, l2⟩, rfl⟩, _, _, rfl, ⟨_, _, rfl, ⟨a, rfl, a1, a2⟩, rfl⟩, rfl⟩ := h
  obtain ⟨ts, rfl⟩ := rows_turns (rows := rows) (by simpa only [FitsAll, Fits] using hr)
  exact turns_p b ts u a (by simp at hl; omega) a1 a2
end Go.Proofs.Ytefpjijokdplfaa.zoneTurns
