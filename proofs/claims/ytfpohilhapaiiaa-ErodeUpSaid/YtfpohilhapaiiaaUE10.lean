import Derived.Test.YtfpohilhapaiiaaUE9
set_option linter.unusedVariables false
set_option linter.unusedSimpArgs false
set_option linter.unnecessarySimpa false
namespace Go.Proofs.Ytfpohilhapaiiaa
open Go Go.Vi
theorem fitM {d : D} (h : Fits (.int .i64) d) : ∃ n, d = .int .i64 n ∧ Fit n := by
  simp only [Fits] at h
  obtain ⟨n, h, h1, h2⟩ := h
  simp only [IntKind.min, IntKind.max, IntKind.bits, IntKind.signed] at h1 h2
  exact ⟨n, h, by unfold Fit; simp at h1 h2; omega⟩
theorem fitSp {d : D} (h : Fits (.slice 16 [.int .i64, .int .i64]) d) : ∃ l : List Sp, d = LS l ∧ l.length ≤ 140737488351232 ∧ FitS l := by
  simp only [Fits] at h
  obtain ⟨rows, rfl, hl, hr⟩ := h
  have key : ∀ rows : List (List D), (∀ r ∈ rows, FitsAll [.int .i64, .int .i64] r) → ∃ l : List Sp, rows = rowsS l ∧ FitS l := by
    intro rows
    induction rows with
    | nil => exact fun _ => ⟨[], rfl, by simp [FitS]⟩
    | cons r rows ih =>
      intro hr
      obtain ⟨l, hl, hf⟩ := ih fun r hr' => hr r (by simp [hr'])
      have h1 := hr r (by simp)
      simp only [FitsAll] at h1
      obtain ⟨_, _, rfl, h1, _, _, rfl, h2, rfl⟩ := h1
      obtain ⟨x, rfl, hx⟩ := fitM h1
      obtain ⟨y, rfl, hy⟩ := fitM h2
      refine ⟨(x, y) :: l, by rw [hl]; rfl, fun s hs => ?_⟩
      rcases List.mem_cons.1 hs with rfl | hs
      · exact ⟨hx, hy⟩
      · exact hf s hs
  obtain ⟨l, rfl, hf⟩ := key rows hr
  exact ⟨l, rfl, by rw [rowsS_len] at hl; omega, hf⟩
theorem fit8 {d : D} (h : Fits (.int .u8) d) : ∃ n : Nat, d = .int .u8 n ∧ n ≤ 255 := by
  simp only [Fits] at h
  obtain ⟨n, h, h1, h2⟩ := h
  simp only [IntKind.min, IntKind.max, IntKind.bits, IntKind.signed] at h1 h2
  simp at h1 h2
  exact ⟨n.toNat, by rw [h, show ((n.toNat : Nat) : Int) = n by omega], by omega⟩
theorem fit16 {d : D} (h : Fits (.int .u16) d) : ∃ n : Nat, d = .int .u16 n ∧ n ≤ 65535 := by
  simp only [Fits] at h
  obtain ⟨n, h, h1, h2⟩ := h
  simp only [IntKind.min, IntKind.max, IntKind.bits, IntKind.signed] at h1 h2
  simp at h1 h2
  exact ⟨n.toNat, by rw [h, show ((n.toNat : Nat) : Int) = n by omega], by omega⟩
theorem fitMs {d : D} (h : Fits (.slice 8 [.int .i64]) d) : ∃ l : List Int, d = LI l ∧ l.length ≤ 140737488351232 ∧ ∀ x ∈ l, Fit x := by
  simp only [Fits] at h
  obtain ⟨rows, rfl, hl, hr⟩ := h
  have key : ∀ rows : List (List D), (∀ r ∈ rows, FitsAll [.int .i64] r) → ∃ l : List Int, rows = rowI l ∧ ∀ x ∈ l, Fit x := by
    intro rows
    induction rows with
    | nil => exact fun _ => ⟨[], rfl, by simp⟩
    | cons r rows ih =>
      intro hr
      obtain ⟨l, hl, hf⟩ := ih fun r hr' => hr r (by simp [hr'])
      have h1 := hr r (by simp)
      simp only [FitsAll] at h1
      obtain ⟨_, _, rfl, h1, rfl⟩ := h1
      obtain ⟨x, rfl, hx⟩ := fitM h1
      refine ⟨x :: l, by rw [hl]; rfl, fun y hy => ?_⟩
      rcases List.mem_cons.1 hy with rfl | hy
      · exact hx
      · exact hf y hy
  obtain ⟨l, rfl, hf⟩ := key rows hr
  exact ⟨l, rfl, by rw [rowI_len] at hl; omega, hf⟩
end Go.Proofs.Ytfpohilhapaiiaa
