/-
  A number with more bytes is a greater one; a number of n bytes is below 2^(7n): what the law's function answers over data.
-/
import Derived.Test.YtlledgjigpoopaaP6
set_option linter.unusedVariables false
set_option linter.unusedSimpArgs false
set_option linter.unnecessarySimpa false
namespace Go.Proofs.Ytlledgjigpoopaa.packOrder
open Go Go.Vi
def law_shapes : List (Bool × List Sh) := [(false, [.int .u64]), (false, [.int .u64])]
theorem law_pure (es : List D) (h : ShapesOf law_shapes es) : PureD Try.prog 3 es (.bool true) := by
  simp only [law_shapes, ShapesOf, FitsAll, Fits] at h
  obtain ⟨_, _, rfl, ⟨_, _, rfl, ⟨a, rfl, a1, a2⟩, rfl⟩, _, _, rfl, ⟨_, _, rfl, ⟨b, rfl, b1, b2⟩, rfl⟩, rfl⟩ := h
  simp only [IntKind.min, IntKind.max, IntKind.bits, IntKind.signed] at a1 a2 b1 b2
  have h1 := order_p a.toNat b.toNat (by simp at a2; omega) (by simp at b2; omega)
  have ea : ((a.toNat : Nat) : Int) = a := Int.toNat_of_nonneg (by simpa using a1)
  have eb : ((b.toNat : Nat) : Int) = b := Int.toNat_of_nonneg (by simpa using b1)
  rw [ea, eb] at h1
  exact h1
end Go.Proofs.Ytlledgjigpoopaa.packOrder
