/-
  Whatever number is read of any bytes is written as it stood: what the law's function answers over data.
-/
import Derived.Test.YtlledgjigpoopaaP7
set_option linter.unusedVariables false
set_option linter.unusedSimpArgs false
set_option linter.unnecessarySimpa false
namespace Go.Proofs.Ytlledgjigpoopaa.packOne
open Go Go.Vi
def law_shapes : List (Bool × List Sh) := [(false, [.slice 1 [.int .u8]])]
theorem rows_r8 : ∀ (rows : List (List D)), (∀ r ∈ rows, FitsAll [.int .u8] r) → ∃ l : List UInt8, rows = r8 l
  | [], _ => ⟨[], rfl⟩
  | r :: rows, h => by
    obtain ⟨l, hl⟩ := rows_r8 rows fun r hr => h r (by simp [hr])
    have h1 := h r (by simp)
    simp only [FitsAll, Fits] at h1
    obtain ⟨_, _, rfl, ⟨n, rfl, n1, n2⟩, rfl⟩ := h1
    have n3 : 0 ≤ n := n1
    have n4 : n ≤ 255 := n2
    refine ⟨UInt8.ofNat n.toNat :: l, ?_⟩
    rw [hl]
    have e : ((UInt8.ofNat n.toNat).toNat : Int) = n := by simp; omega
    show _ = [D.int .u8 ((UInt8.ofNat n.toNat).toNat : Int)] :: r8 l
    rw [e]
theorem law_pure (es : List D) (h : ShapesOf law_shapes es) : PureD Try.prog 4 es (.bool true) := by
  simp only [law_shapes, ShapesOf, FitsAll] at h
  obtain ⟨_, _, rfl, ⟨_, _, rfl, hf, rfl⟩, rfl⟩ := h
  simp only [Fits] at hf
  obtain ⟨rows, rfl, hl, hr⟩ := hf
  obtain ⟨l, rfl⟩ := rows_r8 rows hr
  have e : (r8 l).length = l.length := by simp [r8]
  rw [e] at hl
  exact one_p l (by omega)
end Go.Proofs.Ytlledgjigpoopaa.packOne
