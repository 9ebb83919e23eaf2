/-
  The sum of any users' versions is the document's; with one version changed it is another one, if each user is named once: what the law's function answers over data.
-/
import Derived.Test.YtapennlmboabeaaBGVL
set_option linter.unusedVariables false
set_option linter.unusedSimpArgs false
set_option linter.unnecessarySimpa false
namespace Go.Proofs.Ytapennlmboabeaa.bookVersions
open Go Go.Vi
def law_shapes : List (Bool × List Sh) := [(true, shSt), (false, [sh1 4 .u32]), (false, [.int .u32])]
theorem rng {n : Int} (h : IntKind.u64.min ≤ n ∧ n ≤ IntKind.u64.max) : R64 n := by
  have h1 : IntKind.u64.min = 0 := by decide
  have h2 : IntKind.u64.max = 18446744073709551615 := by decide
  rw [h1, h2] at h
  exact ⟨h.1, by omega⟩
theorem decUsR (ds : List D) (h : FitsAll shUs ds) : ∃ u : Us, ds = u.row ∧ (u.fit ∧ R64 u.ver) := by
  obtain ⟨u, hu, hf⟩ := decUs ds h
  refine ⟨u, hu, hf, ?_⟩
  rw [hu] at h
  simp only [shUs, FitsAll, Us.row] at h
  obtain ⟨_, _, e, _, _, _, e1, _, _, _, e2, _, _, _, e3, _, _, _, e4, _, _, _, e5, _, _, _, e6, _, d, _, e7, h7, _⟩ := h
  simp only [List.cons.injEq] at e e1 e2 e3 e4 e5 e6 e7
  obtain ⟨_, rfl⟩ := e
  obtain ⟨_, rfl⟩ := e1
  obtain ⟨_, rfl⟩ := e2
  obtain ⟨_, rfl⟩ := e3
  obtain ⟨_, rfl⟩ := e4
  obtain ⟨_, rfl⟩ := e5
  obtain ⟨_, rfl⟩ := e6
  obtain ⟨rfl, _⟩ := e7
  simp only [Fits, D.int.injEq, true_and] at h7
  obtain ⟨n, hn, h7⟩ := h7
  rw [hn]
  exact rng h7
theorem decStR (ds : List D) (h : FitsAll shSt ds) : ∃ s : Sta, ds = s.cells ∧ s.fits ∧ ∀ u ∈ s.us, R64 u.ver := by
  simp only [shSt, FitsAll] at h
  obtain ⟨_, _, rfl, h0, _, _, rfl, h1, _, _, rfl, h2, _, _, rfl, h3, rfl⟩ := h
  obtain ⟨n0, rfl⟩ := fitI h0
  obtain ⟨us, rfl, g1, q1⟩ := fitL decUsR h1
  obtain ⟨ps, rfl, g2, q2⟩ := fitL decPo h2
  obtain ⟨dn, rfl, g3, _⟩ := fitL decDn h3
  exact ⟨⟨n0, us, ps, dn⟩, rfl, ⟨by show us.length ≤ _; omega, by show ps.length ≤ _; omega, by show dn.length ≤ _; omega, fun u hu => (q1 u hu).1, q2⟩, fun u hu => (q1 u hu).2⟩
theorem law_pure (es : List D) (h : ShapesOf law_shapes es) : PureD Try.prog 3 es (.bool true) := by
  simp only [law_shapes, ShapesOf] at h
  obtain ⟨_, _, rfl, h1, _, _, rfl, h2, _, _, rfl, h3, rfl⟩ := h
  obtain ⟨s, rfl, hf, hv⟩ := decStR _ h1
  simp only [FitsAll] at h2 h3
  obtain ⟨_, _, rfl, h2, rfl⟩ := h2
  obtain ⟨_, _, rfl, h3, rfl⟩ := h3
  obtain ⟨l, rfl, hl⟩ := fit1 (by decide) h2
  obtain ⟨user, rfl⟩ := fitI h3
  obtain ⟨f1, f2, f3, f4, f5⟩ := hf
  exact versions_p s.t s.us s.ps s.ds l user ⟨f1, f2, f3, fun u hu => (f4 u hu).2.1⟩ hl hv
end Go.Proofs.Ytapennlmboabeaa.bookVersions
