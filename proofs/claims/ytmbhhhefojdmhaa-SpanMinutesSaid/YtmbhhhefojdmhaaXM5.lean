/-
  XM5: rows of spans that are grown. Own work; no program.
-/
import Derived.Test.YtmbhhhefojdmhaaXM4
set_option linter.unusedVariables false
set_option linter.unusedSimpArgs false
set_option linter.unnecessarySimpa false
namespace Go.Vi
def growL (p q : Int) (l : List Sp) : List Sp := (l.filter fun s => decide (s.1 < s.2)).map fun s => (s.1 - p, s.2 + q)
theorem growL_has {p q : Int} {l : List Sp} {m : Int} : hasS (growL p q l) m = true ↔ ∃ s ∈ l, s.1 < s.2 ∧ s.1 - p ≤ m ∧ m < s.2 + q := by
  rw [hasS_iff]
  unfold growL
  constructor
  · rintro ⟨x, hx, h1, h2⟩
    obtain ⟨s, hs, rfl⟩ := List.mem_map.1 hx
    obtain ⟨hs1, hs2⟩ := List.mem_filter.1 hs
    exact ⟨s, hs1, by simpa using hs2, h1, h2⟩
  · rintro ⟨s, hs, h0, h1, h2⟩
    exact ⟨_, List.mem_map.2 ⟨s, List.mem_filter.2 ⟨hs, by simpa using h0⟩, rfl⟩, h1, h2⟩
theorem growL_ne {p q : Int} {l : List Sp} (hp : 0 ≤ p) (hq : 0 ≤ q) : ∀ s ∈ growL p q l, s.1 < s.2 := fun x hx => by
  obtain ⟨s, hs, rfl⟩ := List.mem_map.1 hx
  have := (List.mem_filter.1 hs).2
  simp at this
  show s.1 - p < s.2 + q; omega
/-- A row that is grown twice is grown by both together. -/
theorem grow_twice {p q : Int} (hp : 0 ≤ p) (hq : 0 ≤ q) {l f : List Sp} (hf : ∀ m, hasS f m = hasS (growL p q l) m) (hc : Can f) (m : Int) : hasS (growL q p f) m = hasS (growL (p + q) (q + p) l) m := by
  rw [Bool.eq_iff_iff, growL_has, growL_has]
  constructor
  · rintro ⟨c, hcm, h0, h1, h2⟩
    -- a minute of c that is near m
    obtain ⟨x, x1, x2, x3, x4⟩ : ∃ x : Int, c.1 ≤ x ∧ x < c.2 ∧ x - q ≤ m ∧ m ≤ x + p := by
      by_cases g1 : m < c.1
      · exact ⟨c.1, Int.le_refl _, h0, by omega, by omega⟩
      · by_cases g2 : m < c.2
        · exact ⟨m, by omega, g2, by omega, by omega⟩
        · exact ⟨c.2 - 1, by omega, by omega, by omega, by omega⟩
    have hx : hasS f x = true := hasS_iff.2 ⟨c, hcm, x1, x2⟩
    rw [hf x, growL_has] at hx
    obtain ⟨s, hs, s0, s1, s2⟩ := hx
    exact ⟨s, hs, s0, by omega, by omega⟩
  · rintro ⟨s, hs, s0, s1, s2⟩
    have hx : hasS f (max (s.1 - p) (m - p)) = true := by
      rw [hf, growL_has]
      exact ⟨s, hs, s0, by omega, by omega⟩
    obtain ⟨c, hcm, c1, c2⟩ := hasS_iff.1 hx
    exact ⟨c, hcm, hc.2 c hcm, by omega, by omega⟩
theorem grow_none {l : List Sp} (m : Int) : hasS (growL 0 0 l) m = hasS l m := by
  rw [Bool.eq_iff_iff, growL_has, hasS_iff]
  constructor
  · rintro ⟨s, hs, _, h1, h2⟩; exact ⟨s, hs, by omega, by omega⟩
  · rintro ⟨s, hs, h1, h2⟩; exact ⟨s, hs, by omega, by omega, by omega⟩
end Go.Vi
