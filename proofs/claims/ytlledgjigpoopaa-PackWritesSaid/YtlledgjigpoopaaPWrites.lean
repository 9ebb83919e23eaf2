/-
  Any row of things is written as the document says, and read as it was: what the law's function answers over data.
-/
import Derived.Test.YtlledgjigpoopaaP8
set_option linter.unusedVariables false
set_option linter.unusedSimpArgs false
set_option linter.unnecessarySimpa false
namespace Go.Proofs.Ytlledgjigpoopaa.packWrites
open Go Go.Vi
def law_shapes : List (Bool × List Sh) := [(false, [.slice 48 [.int .i64, .int .u64, .int .i64, .str, .bool]])]
theorem rows_rowO : ∀ (rows : List (List D)), (∀ r ∈ rows, FitsAll [.int .i64, .int .u64, .int .i64, .str, .bool] r) → ∃ l : List Op, rows = rowO l ∧ ∀ o ∈ l, o.ok
  | [], _ => ⟨[], rfl, by simp⟩
  | r :: rows, h => by
    obtain ⟨l, hl, ho⟩ := rows_rowO rows fun r hr => h r (by simp [hr])
    have h1 := h r (by simp)
    simp only [FitsAll, Fits] at h1
    obtain ⟨_, _, rfl, ⟨k, rfl, k1, k2⟩, _, _, rfl, ⟨n, rfl, n1, n2⟩, _, _, rfl, ⟨s, rfl, s1, s2⟩, _, _, rfl, ⟨t, rfl, t1⟩, _, _, rfl, ⟨f, rfl⟩, rfl⟩ := h1
    have n3 : 0 ≤ n := n1
    have n4 : n ≤ 18446744073709551615 := n2
    have s3 : -9223372036854775808 ≤ s := s1
    have s4 : s ≤ 9223372036854775807 := s2
    refine ⟨⟨k, n.toNat, s, t, f⟩ :: l, ?_, ?_⟩
    · have e : ((n.toNat : Nat) : Int) = n := Int.toNat_of_nonneg n3
      show _ = [D.int .i64 k, .int .u64 ((n.toNat : Nat) : Int), .int .i64 s, .str t, .bool f] :: rowO l
      rw [e, hl]
    · intro o h
      rcases List.mem_cons.1 h with rfl | h
      · exact ⟨by show n.toNat < _; omega, s3, s4⟩
      · exact ho o h
theorem law_pure (es : List D) (h : ShapesOf law_shapes es) : PureD Try.prog 6 es (.bool true) := by
  simp only [law_shapes, ShapesOf, FitsAll] at h
  obtain ⟨_, _, rfl, ⟨_, _, rfl, hf, rfl⟩, rfl⟩ := h
  simp only [Fits] at hf
  obtain ⟨rows, rfl, hl, hr⟩ := hf
  obtain ⟨l, rfl, ho⟩ := rows_rowO rows hr
  simp only [rowO, List.length_map] at hl
  exact writes_p l (by omega) ho
end Go.Proofs.Ytlledgjigpoopaa.packWrites
