/-
 No first part of a request's bytes is one, nor is a request with bytes behind it; two that are unlike have other bytes: what the law's function answers over data.
-/
import Derived.Test.YtgefljdclekadaaRLQ
set_option linter.unusedVariables false
set_option linter.unusedSimpArgs false
namespace Go.Proofs.Ytgefljdclekadaa.recordParts
open Go Go.Vi
def law_shapes : List (Bool × List Sh) := [(true, oH), (true, oH), (false, [.int .u16]), (false, [.slice 1 [.int .u8]])]
theorem pK : ∀ (rows : List (List D)), (∀ r ∈ rows, be [.int .u8] r) → ∃ l : List UInt8, rows = r8 l
 | [], _ => ⟨[], rfl⟩
 | r :: rows, h => by
  obtain ⟨l, hl⟩ := pK rows fun r hr => h r (by simp [hr])
  have h1 := h r (by simp)
  simp only [be, dZ] at h1
  obtain ⟨_, _, rfl, ⟨n, rfl, n1, n2⟩, rfl⟩ := h1
  have n3 : 0 ≤ n := n1
  have n4 : n ≤ 255 := n2
  refine ⟨UInt8.ofNat n.toNat :: l, ?_⟩
  rw [hl]
  have e : ((UInt8.ofNat n.toNat).toNat : Int) = n := by simp; omega
  show _ = [D.int .u8 ((UInt8.ofNat n.toNat).toNat : Int)] :: r8 l
  rw [e]
theorem rng (a : As) (h : be oH a.cells) (g : a.great = false) : jI a := by
 refine rngAs a h ?_
 simp only [As.great, Bool.or_eq_false_iff, decide_eq_false_iff_not] at g
 omega
theorem law_pure (es : List D) (h : fQ law_shapes es) : br Try.prog 3 es (.bool true) := by
 simp only [law_shapes, fQ] at h
 obtain ⟨_, _, rfl, h1, _, _, rfl, h2, _, _, rfl, h3, _, _, rfl, h4, rfl⟩ := h
 obtain ⟨a, rfl, ha⟩ := wd _ h1
 obtain ⟨b, rfl, hb⟩ := wd _ h2
 simp only [be] at h3 h4
 obtain ⟨_, _, rfl, h3, rfl⟩ := h3
 obtain ⟨_, _, rfl, h4, rfl⟩ := h4
 simp only [dZ] at h3 h4
 obtain ⟨n, rfl, n1, n2⟩ := h3
 obtain ⟨rows, rfl, hl, hr⟩ := h4
 obtain ⟨l, rfl⟩ := pK rows hr
 have e : (r8 l).length = l.length := by simp [r8]
 rw [e] at hl
 have n3 : 0 ≤ n := n1
 have n4 : n ≤ 65535 := n2
 obtain ⟨k, rfl⟩ : ∃ k : Nat, n = k := ⟨n.toNat, by omega⟩
 exact kX a b k (by omega) l (by omega) ha hb (rng a h1) (rng b h2)
end Go.Proofs.Ytgefljdclekadaa.recordParts
