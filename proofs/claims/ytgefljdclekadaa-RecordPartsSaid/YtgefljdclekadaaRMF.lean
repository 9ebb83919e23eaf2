import Derived.Test.YtgefljdclekadaaRMB
import Derived.Test.YtgefljdclekadaaVi25
import Derived.Test.YtgefljdclekadaaRR9
import Derived.Test.YtgefljdclekadaaRMC
set_option linter.unusedVariables false
set_option linter.unusedSimpArgs false
namespace Go.Proofs.Ytgefljdclekadaa
open Go Go.Vi
theorem jN (a b : List Int) (ha : a.length ≤ 140737488351232) (hb : b.length ≤ 140737488351232) : br Try.prog 50 [L (aI .i64 a), L (aI .i64 b)] (.bool (decide (a = b))) := by
 refine bX Try.func50 low50 (by simp [c50]) ?_
 simp only [c50]
 by_cases hl : ¬ a.length = b.length
 ·have c1 := iG hl
  rw [dI hl]
  repeat' ((first | apply ai | apply ah | apply am | apply au | refine aq rfl ?_ | apply al | apply aj | apply ae | apply ak mixed | apply ap mixed | with_reducible refine ax ?_ | simp (disch := omega) only [bf, aG, aN, aO, bp, Int.tdiv_eq_ediv_of_nonneg, Int.tmod_eq_emod_of_nonneg] | (refine aa ?_ ?_ <;> intro hc <;> (try simp only [hc]) <;> try simp at hc) | (with_reducible refine ⟨?_, ?_⟩; (focus ((repeat' with_reducible refine ⟨?_, ?_⟩) <;> first | exact trivial | assumption | (simp; done) | (simp only [List.length_map] at *; omega) | omega | (simp [fs]; done)))) | (with_reducible intro x hx) | omega) <;> (try simp only [aE, Nat.reduceBEq, reduceIte, fw, fd]))
 have hl : a.length = b.length := by omega
 have c1 : ((a.length : Int) == (b.length : Int)) = true := by simp [hl]
 repeat' ((first | apply ai | apply ah | apply am | apply au | refine aq rfl ?_ | apply al | apply aj | apply ae | apply ak mixed | apply ap mixed | with_reducible refine ax ?_ | simp (disch := omega) only [bf, aG, aN, aO, bp, Int.tdiv_eq_ediv_of_nonneg, Int.tmod_eq_emod_of_nonneg] | (refine aa ?_ ?_ <;> intro hc <;> (try simp only [hc]) <;> try simp at hc) | (with_reducible refine ⟨?_, ?_⟩; (focus ((repeat' with_reducible refine ⟨?_, ?_⟩) <;> first | exact trivial | assumption | (simp; done) | (simp only [List.length_map] at *; omega) | omega | (simp [fs]; done)))) | (with_reducible intro x hx) | omega) <;> (try simp only [aE, Nat.reduceBEq, reduceIte, fw, fd]))
 refine aT (ι := {i : Nat // i ≤ a.length ∧ a.take i = b.take i}) (fun i => ([(0, L (aI .i64 a)), (1, L (aI .i64 b)), (12, .int .i64 a.length), (13, .int .i64 i.1)], [])) (fun i => a.length - i.1) ⟨0, by simp⟩ ?_ ?_
 ·refine aJ [] (by rfl) (by simp) (by simp [bQ]) (by simp [fg])
 rintro ⟨i, hi, ht⟩ hk
 dsimp only at hk ⊢
 by_cases hlt : i < a.length
 ·have c2 : ((i : Int) < (a.length : Int)) = True := by simp; omega
  obtain ⟨x, hx⟩ : ∃ x, a[i]? = some x := ⟨_, List.getElem?_eq_getElem hlt⟩
  obtain ⟨y, hy⟩ : ∃ y, b[i]? = some y := ⟨_, List.getElem?_eq_getElem (by omega)⟩
  have rx := bR (k := .i64) hx
  have ry := bR (k := .i64) hy
  by_cases hxy : x = y
  ·have c3 : (x == y) = true := by simpa using hxy
   repeat' ((first | apply ai | apply ah | apply am | apply au | refine aq rfl ?_ | apply al | apply aj | apply ae | apply ak mixed | apply ap mixed | with_reducible refine ax ?_ | simp (disch := omega) only [bf] | (refine aa ?_ ?_ <;> intro hc <;> (try simp only [hc]) <;> try simp at hc) | (with_reducible refine ⟨?_, ?_⟩; (focus ((repeat' with_reducible refine ⟨?_, ?_⟩) <;> first | exact trivial | assumption | (simp; done) | (simp only [List.length_map] at *; omega) | omega | (simp [fs]; done)))) | (with_reducible intro x hx) | omega) <;> (try simp only [aE, c2, rx, ry, Nat.reduceBEq, reduceIte, fw, fd]))
   refine hk ⟨i + 1, by omega, bZ ht hx hy hxy⟩ _ _ (by dsimp only; omega) ?_
   dsimp only
   refine aJ [] (by rfl) (by simp) (by simp [bQ]) (by simp [fg])
  ·have c3 : (x == y) = false := by simpa using hxy
   rw [dC hx hy hxy]
   repeat' ((first | apply ai | apply ah | apply am | apply au | refine aq rfl ?_ | apply al | apply aj | apply ae | apply ak mixed | apply ap mixed | with_reducible refine ax ?_ | simp (disch := omega) only [bf] | (refine aa ?_ ?_ <;> intro hc <;> (try simp only [hc]) <;> try simp at hc) | (with_reducible refine ⟨?_, ?_⟩; (focus ((repeat' with_reducible refine ⟨?_, ?_⟩) <;> first | exact trivial | assumption | (simp; done) | (simp only [List.length_map] at *; omega) | omega | (simp [fs]; done)))) | (with_reducible intro x hx) | omega) <;> (try simp only [aE, c2, rx, ry, Nat.reduceBEq, reduceIte, fw, fd]))
 ·have c2 : ((i : Int) < (a.length : Int)) = False := by simp; omega
  rw [cM ht hlt hl]
  repeat' ((first | apply ai | apply ah | apply am | apply au | refine aq rfl ?_ | apply al | apply aj | apply ae | apply ak mixed | apply ap mixed | with_reducible refine ax ?_ | simp (disch := omega) only [bf, aG, aN, aO, bp, Int.tdiv_eq_ediv_of_nonneg, Int.tmod_eq_emod_of_nonneg] | (refine aa ?_ ?_ <;> intro hc <;> (try simp only [hc]) <;> try simp at hc) | (with_reducible refine ⟨?_, ?_⟩; (focus ((repeat' with_reducible refine ⟨?_, ?_⟩) <;> first | exact trivial | assumption | (simp; done) | (simp only [List.length_map] at *; omega) | omega | (simp [fs]; done)))) | (with_reducible intro x hx) | omega) <;> (try simp only [c2, Nat.reduceBEq, reduceIte, fw, fd]))
theorem pP (a b : List Int) (ha : a.length ≤ 140737488351232) (hb : b.length ≤ 140737488351232) : br Try.prog 52 [L (aI .i64 a), L (aI .i64 b)] (.bool (decide (a = b))) := by
 refine bX Try.func52 low52 (by simp [c52]) ?_
 simp only [c52]
 by_cases hl : ¬ a.length = b.length
 ·have c1 := iG hl
  rw [dI hl]
  repeat' ((first | apply ai | apply ah | apply am | apply au | refine aq rfl ?_ | apply al | apply aj | apply ae | apply ak mixed | apply ap mixed | with_reducible refine ax ?_ | simp (disch := omega) only [bf, aG, aN, aO, bp, Int.tdiv_eq_ediv_of_nonneg, Int.tmod_eq_emod_of_nonneg] | (refine aa ?_ ?_ <;> intro hc <;> (try simp only [hc]) <;> try simp at hc) | (with_reducible refine ⟨?_, ?_⟩; (focus ((repeat' with_reducible refine ⟨?_, ?_⟩) <;> first | exact trivial | assumption | (simp; done) | (simp only [List.length_map] at *; omega) | omega | (simp [fs]; done)))) | (with_reducible intro x hx) | omega) <;> (try simp only [aE, Nat.reduceBEq, reduceIte, fw, fd]))
 have hl : a.length = b.length := by omega
 have c1 : ((a.length : Int) == (b.length : Int)) = true := by simp [hl]
 repeat' ((first | apply ai | apply ah | apply am | apply au | refine aq rfl ?_ | apply al | apply aj | apply ae | apply ak mixed | apply ap mixed | with_reducible refine ax ?_ | simp (disch := omega) only [bf, aG, aN, aO, bp, Int.tdiv_eq_ediv_of_nonneg, Int.tmod_eq_emod_of_nonneg] | (refine aa ?_ ?_ <;> intro hc <;> (try simp only [hc]) <;> try simp at hc) | (with_reducible refine ⟨?_, ?_⟩; (focus ((repeat' with_reducible refine ⟨?_, ?_⟩) <;> first | exact trivial | assumption | (simp; done) | (simp only [List.length_map] at *; omega) | omega | (simp [fs]; done)))) | (with_reducible intro x hx) | omega) <;> (try simp only [aE, Nat.reduceBEq, reduceIte, fw, fd]))
 refine aT (ι := {i : Nat // i ≤ a.length ∧ a.take i = b.take i}) (fun i => ([(0, L (aI .i64 a)), (1, L (aI .i64 b)), (12, .int .i64 a.length), (13, .int .i64 i.1)], [])) (fun i => a.length - i.1) ⟨0, by simp⟩ ?_ ?_
 ·refine aJ [] (by rfl) (by simp) (by simp [bQ]) (by simp [fg])
 rintro ⟨i, hi, ht⟩ hk
 dsimp only at hk ⊢
 by_cases hlt : i < a.length
 ·have c2 : ((i : Int) < (a.length : Int)) = True := by simp; omega
  obtain ⟨x, hx⟩ : ∃ x, a[i]? = some x := ⟨_, List.getElem?_eq_getElem hlt⟩
  obtain ⟨y, hy⟩ : ∃ y, b[i]? = some y := ⟨_, List.getElem?_eq_getElem (by omega)⟩
  have rx := bR (k := .i64) hx
  have ry := bR (k := .i64) hy
  by_cases hxy : x = y
  ·have c3 : (x == y) = true := by simpa using hxy
   repeat' ((first | apply ai | apply ah | apply am | apply au | refine aq rfl ?_ | apply al | apply aj | apply ae | apply ak mixed | apply ap mixed | with_reducible refine ax ?_ | simp (disch := omega) only [bf] | (refine aa ?_ ?_ <;> intro hc <;> (try simp only [hc]) <;> try simp at hc) | (with_reducible refine ⟨?_, ?_⟩; (focus ((repeat' with_reducible refine ⟨?_, ?_⟩) <;> first | exact trivial | assumption | (simp; done) | (simp only [List.length_map] at *; omega) | omega | (simp [fs]; done)))) | (with_reducible intro x hx) | omega) <;> (try simp only [aE, c2, rx, ry, Nat.reduceBEq, reduceIte, fw, fd]))
   refine hk ⟨i + 1, by omega, bZ ht hx hy hxy⟩ _ _ (by dsimp only; omega) ?_
   dsimp only
   refine aJ [] (by rfl) (by simp) (by simp [bQ]) (by simp [fg])
  ·have c3 : (x == y) = false := by simpa using hxy
   rw [dC hx hy hxy]
   repeat' ((first | apply ai | apply ah | apply am | apply au | refine aq rfl ?_ | apply al | apply aj | apply ae | apply ak mixed | apply ap mixed | with_reducible refine ax ?_ | simp (disch := omega) only [bf] | (refine aa ?_ ?_ <;> intro hc <;> (try simp only [hc]) <;> try simp at hc) | (with_reducible refine ⟨?_, ?_⟩; (focus ((repeat' with_reducible refine ⟨?_, ?_⟩) <;> first | exact trivial | assumption | (simp; done) | (simp only [List.length_map] at *; omega) | omega | (simp [fs]; done)))) | (with_reducible intro x hx) | omega) <;> (try simp only [aE, c2, rx, ry, Nat.reduceBEq, reduceIte, fw, fd]))
 ·have c2 : ((i : Int) < (a.length : Int)) = False := by simp; omega
  rw [cM ht hlt hl]
  repeat' ((first | apply ai | apply ah | apply am | apply au | refine aq rfl ?_ | apply al | apply aj | apply ae | apply ak mixed | apply ap mixed | with_reducible refine ax ?_ | simp (disch := omega) only [bf, aG, aN, aO, bp, Int.tdiv_eq_ediv_of_nonneg, Int.tmod_eq_emod_of_nonneg] | (refine aa ?_ ?_ <;> intro hc <;> (try simp only [hc]) <;> try simp at hc) | (with_reducible refine ⟨?_, ?_⟩; (focus ((repeat' with_reducible refine ⟨?_, ?_⟩) <;> first | exact trivial | assumption | (simp; done) | (simp only [List.length_map] at *; omega) | omega | (simp [fs]; done)))) | (with_reducible intro x hx) | omega) <;> (try simp only [c2, Nat.reduceBEq, reduceIte, fw, fd]))
theorem vk (a b : List Int) (ha : a.length ≤ 140737488351232) (hb : b.length ≤ 140737488351232) : br Try.prog 54 [L (aI .u32 a), L (aI .u32 b)] (.bool (decide (a = b))) := by
 refine bX Try.func54 low54 (by simp [c54]) ?_
 simp only [c54]
 by_cases hl : ¬ a.length = b.length
 ·have c1 := iG hl
  rw [dI hl]
  repeat' ((first | apply ai | apply ah | apply am | apply au | refine aq rfl ?_ | apply al | apply aj | apply ae | apply ak mixed | apply ap mixed | with_reducible refine ax ?_ | simp (disch := omega) only [bf, aG, aN, aO, bp, Int.tdiv_eq_ediv_of_nonneg, Int.tmod_eq_emod_of_nonneg] | (refine aa ?_ ?_ <;> intro hc <;> (try simp only [hc]) <;> try simp at hc) | (with_reducible refine ⟨?_, ?_⟩; (focus ((repeat' with_reducible refine ⟨?_, ?_⟩) <;> first | exact trivial | assumption | (simp; done) | (simp only [List.length_map] at *; omega) | omega | (simp [fs]; done)))) | (with_reducible intro x hx) | omega) <;> (try simp only [aE, Nat.reduceBEq, reduceIte, fw, fd]))
 have hl : a.length = b.length := by omega
 have c1 : ((a.length : Int) == (b.length : Int)) = true := by simp [hl]
 repeat' ((first | apply ai | apply ah | apply am | apply au | refine aq rfl ?_ | apply al | apply aj | apply ae | apply ak mixed | apply ap mixed | with_reducible refine ax ?_ | simp (disch := omega) only [bf, aG, aN, aO, bp, Int.tdiv_eq_ediv_of_nonneg, Int.tmod_eq_emod_of_nonneg] | (refine aa ?_ ?_ <;> intro hc <;> (try simp only [hc]) <;> try simp at hc) | (with_reducible refine ⟨?_, ?_⟩; (focus ((repeat' with_reducible refine ⟨?_, ?_⟩) <;> first | exact trivial | assumption | (simp; done) | (simp only [List.length_map] at *; omega) | omega | (simp [fs]; done)))) | (with_reducible intro x hx) | omega) <;> (try simp only [aE, Nat.reduceBEq, reduceIte, fw, fd]))
 refine aT (ι := {i : Nat // i ≤ a.length ∧ a.take i = b.take i}) (fun i => ([(0, L (aI .u32 a)), (1, L (aI .u32 b)), (12, .int .i64 a.length), (13, .int .i64 i.1)], [])) (fun i => a.length - i.1) ⟨0, by simp⟩ ?_ ?_
 ·refine aJ [] (by rfl) (by simp) (by simp [bQ]) (by simp [fg])
 rintro ⟨i, hi, ht⟩ hk
 dsimp only at hk ⊢
 by_cases hlt : i < a.length
 ·have c2 : ((i : Int) < (a.length : Int)) = True := by simp; omega
  obtain ⟨x, hx⟩ : ∃ x, a[i]? = some x := ⟨_, List.getElem?_eq_getElem hlt⟩
  obtain ⟨y, hy⟩ : ∃ y, b[i]? = some y := ⟨_, List.getElem?_eq_getElem (by omega)⟩
  have rx := bR (k := .u32) hx
  have ry := bR (k := .u32) hy
  by_cases hxy : x = y
  ·have c3 : (x == y) = true := by simpa using hxy
   repeat' ((first | apply ai | apply ah | apply am | apply au | refine aq rfl ?_ | apply al | apply aj | apply ae | apply ak mixed | apply ap mixed | with_reducible refine ax ?_ | simp (disch := omega) only [bf] | (refine aa ?_ ?_ <;> intro hc <;> (try simp only [hc]) <;> try simp at hc) | (with_reducible refine ⟨?_, ?_⟩; (focus ((repeat' with_reducible refine ⟨?_, ?_⟩) <;> first | exact trivial | assumption | (simp; done) | (simp only [List.length_map] at *; omega) | omega | (simp [fs]; done)))) | (with_reducible intro x hx) | omega) <;> (try simp only [aE, c2, rx, ry, Nat.reduceBEq, reduceIte, fw, fd]))
   refine hk ⟨i + 1, by omega, bZ ht hx hy hxy⟩ _ _ (by dsimp only; omega) ?_
   dsimp only
   refine aJ [] (by rfl) (by simp) (by simp [bQ]) (by simp [fg])
  ·have c3 : (x == y) = false := by simpa using hxy
   rw [dC hx hy hxy]
   repeat' ((first | apply ai | apply ah | apply am | apply au | refine aq rfl ?_ | apply al | apply aj | apply ae | apply ak mixed | apply ap mixed | with_reducible refine ax ?_ | simp (disch := omega) only [bf] | (refine aa ?_ ?_ <;> intro hc <;> (try simp only [hc]) <;> try simp at hc) | (with_reducible refine ⟨?_, ?_⟩; (focus ((repeat' with_reducible refine ⟨?_, ?_⟩) <;> first | exact trivial | assumption | (simp; done) | (simp only [List.length_map] at *; omega) | omega | (simp [fs]; done)))) | (with_reducible intro x hx) | omega) <;> (try simp only [aE, c2, rx, ry, Nat.reduceBEq, reduceIte, fw, fd]))
 ·have c2 : ((i : Int) < (a.length : Int)) = False := by simp; omega
  rw [cM ht hlt hl]
  repeat' ((first | apply ai | apply ah | apply am | apply au | refine aq rfl ?_ | apply al | apply aj | apply ae | apply ak mixed | apply ap mixed | with_reducible refine ax ?_ | simp (disch := omega) only [bf, aG, aN, aO, bp, Int.tdiv_eq_ediv_of_nonneg, Int.tmod_eq_emod_of_nonneg] | (refine aa ?_ ?_ <;> intro hc <;> (try simp only [hc]) <;> try simp at hc) | (with_reducible refine ⟨?_, ?_⟩; (focus ((repeat' with_reducible refine ⟨?_, ?_⟩) <;> first | exact trivial | assumption | (simp; done) | (simp only [List.length_map] at *; omega) | omega | (simp [fs]; done)))) | (with_reducible intro x hx) | omega) <;> (try simp only [c2, Nat.reduceBEq, reduceIte, fw, fd]))
theorem uF (a b : List (Int × Int)) (ha : a.length ≤ 140737488351232) (hb : b.length ≤ 140737488351232) : br Try.prog 84 [L (aS .i64 .i64 a), L (aS .i64 .i64 b)] (.bool (decide (a = b))) := by
 refine bX Try.func84 low84 (by simp [c84]) ?_
 simp only [c84]
 by_cases hl : ¬ a.length = b.length
 ·have c1 := iG hl
  rw [dI hl]
  repeat' ((first | apply ai | apply ah | apply am | apply au | refine aq rfl ?_ | apply al | apply aj | apply ae | apply ak mixed | apply ap mixed | with_reducible refine ax ?_ | simp (disch := omega) only [bf, aG, aN, aO, bp, Int.tdiv_eq_ediv_of_nonneg, Int.tmod_eq_emod_of_nonneg] | (refine aa ?_ ?_ <;> intro hc <;> (try simp only [hc]) <;> try simp at hc) | (with_reducible refine ⟨?_, ?_⟩; (focus ((repeat' with_reducible refine ⟨?_, ?_⟩) <;> first | exact trivial | assumption | (simp; done) | (simp only [List.length_map] at *; omega) | omega | (simp [fs]; done)))) | (with_reducible intro x hx) | omega) <;> (try simp only [aF, Nat.reduceBEq, reduceIte, fw, fd]))
 have hl : a.length = b.length := by omega
 have c1 : ((a.length : Int) == (b.length : Int)) = true := by simp [hl]
 repeat' ((first | apply ai | apply ah | apply am | apply au | refine aq rfl ?_ | apply al | apply aj | apply ae | apply ak mixed | apply ap mixed | with_reducible refine ax ?_ | simp (disch := omega) only [bf, aG, aN, aO, bp, Int.tdiv_eq_ediv_of_nonneg, Int.tmod_eq_emod_of_nonneg] | (refine aa ?_ ?_ <;> intro hc <;> (try simp only [hc]) <;> try simp at hc) | (with_reducible refine ⟨?_, ?_⟩; (focus ((repeat' with_reducible refine ⟨?_, ?_⟩) <;> first | exact trivial | assumption | (simp; done) | (simp only [List.length_map] at *; omega) | omega | (simp [fs]; done)))) | (with_reducible intro x hx) | omega) <;> (try simp only [aF, Nat.reduceBEq, reduceIte, fw, fd]))
 refine aT (ι := {i : Nat // i ≤ a.length ∧ a.take i = b.take i}) (fun i => ([(0, L (aS .i64 .i64 a)), (1, L (aS .i64 .i64 b)), (12, .int .i64 a.length), (13, .int .i64 i.1)], [])) (fun i => a.length - i.1) ⟨0, by simp⟩ ?_ ?_
 ·refine aJ [] (by rfl) (by simp) (by simp [bQ]) (by simp [fg])
 rintro ⟨i, hi, ht⟩ hk
 dsimp only at hk ⊢
 by_cases hlt : i < a.length
 ·have c2 : ((i : Int) < (a.length : Int)) = True := by simp; omega
  obtain ⟨x, hx⟩ : ∃ x, a[i]? = some x := ⟨_, List.getElem?_eq_getElem hlt⟩
  obtain ⟨y, hy⟩ : ∃ y, b[i]? = some y := ⟨_, List.getElem?_eq_getElem (by omega)⟩
  have rx := bO (k := .i64) (m := .i64) hx
  have ry := bO (k := .i64) (m := .i64) hy
  by_cases hxy : x = y
  ·have c3 : ((x.1 == y.1) && (x.2 == y.2)) = true := by rw [b2]; simpa using hxy
   repeat' ((first | apply ai | apply ah | apply am | apply au | refine aq rfl ?_ | apply al | apply aj | apply ae | apply ak mixed | apply ap mixed | with_reducible refine ax ?_ | simp (disch := omega) only [bf] | (refine aa ?_ ?_ <;> intro hc <;> (try simp only [hc]) <;> try simp at hc) | (with_reducible refine ⟨?_, ?_⟩; (focus ((repeat' with_reducible refine ⟨?_, ?_⟩) <;> first | exact trivial | assumption | (simp; done) | (simp only [List.length_map] at *; omega) | omega | (simp [fs]; done)))) | (with_reducible intro x hx) | omega) <;> (try simp only [aF, c2, c3, rx, ry, Nat.reduceBEq, reduceIte, Nat.reduceAdd, cond_true, fw, fd]))
   refine hk ⟨i + 1, by omega, bZ ht hx hy hxy⟩ _ _ (by dsimp only; omega) ?_
   dsimp only
   refine aJ [] (by rfl) (by simp) (by simp [bQ]) (by simp [fg])
  ·have c3 : ((x.1 == y.1) && (x.2 == y.2)) = false := by rw [b2]; simpa using hxy
   rw [dC hx hy hxy]
   repeat' ((first | apply ai | apply ah | apply am | apply au | refine aq rfl ?_ | apply al | apply aj | apply ae | apply ak mixed | apply ap mixed | with_reducible refine ax ?_ | simp (disch := omega) only [bf, aG, aN, aO, bp, Int.tdiv_eq_ediv_of_nonneg, Int.tmod_eq_emod_of_nonneg] | (refine aa ?_ ?_ <;> intro hc <;> (try simp only [hc]) <;> try simp at hc) | (with_reducible refine ⟨?_, ?_⟩; (focus ((repeat' with_reducible refine ⟨?_, ?_⟩) <;> first | exact trivial | assumption | (simp; done) | (simp only [List.length_map] at *; omega) | omega | (simp [fs]; done)))) | (with_reducible intro x hx) | omega) <;> (try simp only [aF, c2, c3, rx, ry, Nat.reduceBEq, reduceIte, Nat.reduceAdd, cond_true, fw, fd]))
 ·have c2 : ((i : Int) < (a.length : Int)) = False := by simp; omega
  rw [cM ht hlt hl]
  repeat' ((first | apply ai | apply ah | apply am | apply au | refine aq rfl ?_ | apply al | apply aj | apply ae | apply ak mixed | apply ap mixed | with_reducible refine ax ?_ | simp (disch := omega) only [bf, aG, aN, aO, bp, Int.tdiv_eq_ediv_of_nonneg, Int.tmod_eq_emod_of_nonneg] | (refine aa ?_ ?_ <;> intro hc <;> (try simp only [hc]) <;> try simp at hc) | (with_reducible refine ⟨?_, ?_⟩; (focus ((repeat' with_reducible refine ⟨?_, ?_⟩) <;> first | exact trivial | assumption | (simp; done) | (simp only [List.length_map] at *; omega) | omega | (simp [fs]; done)))) | (with_reducible intro x hx) | omega) <;> (try simp only [c2, Nat.reduceBEq, reduceIte, fw, fd]))
theorem sj (a b : List (Int × Int)) (ha : a.length ≤ 140737488351232) (hb : b.length ≤ 140737488351232) : br Try.prog 48 [L (aS .i64 .i64 a), L (aS .i64 .i64 b)] (.bool (decide (a = b))) := by
 refine bX Try.func48 low48 (by simp [c48]) ?_
 simp only [c48]
 by_cases hl : ¬ a.length = b.length
 ·have c1 := iG hl
  rw [dI hl]
  repeat' ((first | apply ai | apply ah | apply am | apply au | refine aq rfl ?_ | apply al | apply aj | apply ae | apply ak mixed | apply ap mixed | with_reducible refine ax ?_ | simp (disch := omega) only [bf, aG, aN, aO, bp, Int.tdiv_eq_ediv_of_nonneg, Int.tmod_eq_emod_of_nonneg] | (refine aa ?_ ?_ <;> intro hc <;> (try simp only [hc]) <;> try simp at hc) | (with_reducible refine ⟨?_, ?_⟩; (focus ((repeat' with_reducible refine ⟨?_, ?_⟩) <;> first | exact trivial | assumption | (simp; done) | (simp only [List.length_map] at *; omega) | omega | (simp [fs]; done)))) | (with_reducible intro x hx) | omega) <;> (try simp only [aF, Nat.reduceBEq, reduceIte, fw, fd]))
 have hl : a.length = b.length := by omega
 have c1 : ((a.length : Int) == (b.length : Int)) = true := by simp [hl]
 repeat' ((first | apply ai | apply ah | apply am | apply au | refine aq rfl ?_ | apply al | apply aj | apply ae | apply ak mixed | apply ap mixed | with_reducible refine ax ?_ | simp (disch := omega) only [bf, aG, aN, aO, bp, Int.tdiv_eq_ediv_of_nonneg, Int.tmod_eq_emod_of_nonneg] | (refine aa ?_ ?_ <;> intro hc <;> (try simp only [hc]) <;> try simp at hc) | (with_reducible refine ⟨?_, ?_⟩; (focus ((repeat' with_reducible refine ⟨?_, ?_⟩) <;> first | exact trivial | assumption | (simp; done) | (simp only [List.length_map] at *; omega) | omega | (simp [fs]; done)))) | (with_reducible intro x hx) | omega) <;> (try simp only [aF, Nat.reduceBEq, reduceIte, fw, fd]))
 refine aT (ι := {i : Nat // i ≤ a.length ∧ a.take i = b.take i}) (fun i => ([(0, L (aS .i64 .i64 a)), (1, L (aS .i64 .i64 b)), (12, .int .i64 a.length), (13, .int .i64 i.1)], [])) (fun i => a.length - i.1) ⟨0, by simp⟩ ?_ ?_
 ·refine aJ [] (by rfl) (by simp) (by simp [bQ]) (by simp [fg])
 rintro ⟨i, hi, ht⟩ hk
 dsimp only at hk ⊢
 by_cases hlt : i < a.length
 ·have c2 : ((i : Int) < (a.length : Int)) = True := by simp; omega
  obtain ⟨x, hx⟩ : ∃ x, a[i]? = some x := ⟨_, List.getElem?_eq_getElem hlt⟩
  obtain ⟨y, hy⟩ : ∃ y, b[i]? = some y := ⟨_, List.getElem?_eq_getElem (by omega)⟩
  have rx := bO (k := .i64) (m := .i64) hx
  have ry := bO (k := .i64) (m := .i64) hy
  by_cases hxy : x = y
  ·have c3 : ((x.1 == y.1) && (x.2 == y.2)) = true := by rw [b2]; simpa using hxy
   repeat' ((first | apply ai | apply ah | apply am | apply au | refine aq rfl ?_ | apply al | apply aj | apply ae | apply ak mixed | apply ap mixed | with_reducible refine ax ?_ | simp (disch := omega) only [bf] | (refine aa ?_ ?_ <;> intro hc <;> (try simp only [hc]) <;> try simp at hc) | (with_reducible refine ⟨?_, ?_⟩; (focus ((repeat' with_reducible refine ⟨?_, ?_⟩) <;> first | exact trivial | assumption | (simp; done) | (simp only [List.length_map] at *; omega) | omega | (simp [fs]; done)))) | (with_reducible intro x hx) | omega) <;> (try simp only [aF, c2, c3, rx, ry, Nat.reduceBEq, reduceIte, Nat.reduceAdd, cond_true, fw, fd]))
   refine hk ⟨i + 1, by omega, bZ ht hx hy hxy⟩ _ _ (by dsimp only; omega) ?_
   dsimp only
   refine aJ [] (by rfl) (by simp) (by simp [bQ]) (by simp [fg])
  ·have c3 : ((x.1 == y.1) && (x.2 == y.2)) = false := by rw [b2]; simpa using hxy
   rw [dC hx hy hxy]
   repeat' ((first | apply ai | apply ah | apply am | apply au | refine aq rfl ?_ | apply al | apply aj | apply ae | apply ak mixed | apply ap mixed | with_reducible refine ax ?_ | simp (disch := omega) only [bf, aG, aN, aO, bp, Int.tdiv_eq_ediv_of_nonneg, Int.tmod_eq_emod_of_nonneg] | (refine aa ?_ ?_ <;> intro hc <;> (try simp only [hc]) <;> try simp at hc) | (with_reducible refine ⟨?_, ?_⟩; (focus ((repeat' with_reducible refine ⟨?_, ?_⟩) <;> first | exact trivial | assumption | (simp; done) | (simp only [List.length_map] at *; omega) | omega | (simp [fs]; done)))) | (with_reducible intro x hx) | omega) <;> (try simp only [aF, c2, c3, rx, ry, Nat.reduceBEq, reduceIte, Nat.reduceAdd, cond_true, fw, fd]))
 ·have c2 : ((i : Int) < (a.length : Int)) = False := by simp; omega
  rw [cM ht hlt hl]
  repeat' ((first | apply ai | apply ah | apply am | apply au | refine aq rfl ?_ | apply al | apply aj | apply ae | apply ak mixed | apply ap mixed | with_reducible refine ax ?_ | simp (disch := omega) only [bf, aG, aN, aO, bp, Int.tdiv_eq_ediv_of_nonneg, Int.tmod_eq_emod_of_nonneg] | (refine aa ?_ ?_ <;> intro hc <;> (try simp only [hc]) <;> try simp at hc) | (with_reducible refine ⟨?_, ?_⟩; (focus ((repeat' with_reducible refine ⟨?_, ?_⟩) <;> first | exact trivial | assumption | (simp; done) | (simp only [List.length_map] at *; omega) | omega | (simp [fs]; done)))) | (with_reducible intro x hx) | omega) <;> (try simp only [c2, Nat.reduceBEq, reduceIte, fw, fd]))
theorem tj (a b : List (Int × Int)) (ha : a.length ≤ 140737488351232) (hb : b.length ≤ 140737488351232) : br Try.prog 55 [L (aS .u32 .i64 a), L (aS .u32 .i64 b)] (.bool (decide (a = b))) := by
 refine bX Try.func55 low55 (by simp [c55]) ?_
 simp only [c55]
 by_cases hl : ¬ a.length = b.length
 ·have c1 := iG hl
  rw [dI hl]
  repeat' ((first | apply ai | apply ah | apply am | apply au | refine aq rfl ?_ | apply al | apply aj | apply ae | apply ak mixed | apply ap mixed | with_reducible refine ax ?_ | simp (disch := omega) only [bf, aG, aN, aO, bp, Int.tdiv_eq_ediv_of_nonneg, Int.tmod_eq_emod_of_nonneg] | (refine aa ?_ ?_ <;> intro hc <;> (try simp only [hc]) <;> try simp at hc) | (with_reducible refine ⟨?_, ?_⟩; (focus ((repeat' with_reducible refine ⟨?_, ?_⟩) <;> first | exact trivial | assumption | (simp; done) | (simp only [List.length_map] at *; omega) | omega | (simp [fs]; done)))) | (with_reducible intro x hx) | omega) <;> (try simp only [aF, Nat.reduceBEq, reduceIte, fw, fd]))
 have hl : a.length = b.length := by omega
 have c1 : ((a.length : Int) == (b.length : Int)) = true := by simp [hl]
 repeat' ((first | apply ai | apply ah | apply am | apply au | refine aq rfl ?_ | apply al | apply aj | apply ae | apply ak mixed | apply ap mixed | with_reducible refine ax ?_ | simp (disch := omega) only [bf, aG, aN, aO, bp, Int.tdiv_eq_ediv_of_nonneg, Int.tmod_eq_emod_of_nonneg] | (refine aa ?_ ?_ <;> intro hc <;> (try simp only [hc]) <;> try simp at hc) | (with_reducible refine ⟨?_, ?_⟩; (focus ((repeat' with_reducible refine ⟨?_, ?_⟩) <;> first | exact trivial | assumption | (simp; done) | (simp only [List.length_map] at *; omega) | omega | (simp [fs]; done)))) | (with_reducible intro x hx) | omega) <;> (try simp only [aF, Nat.reduceBEq, reduceIte, fw, fd]))
 refine aT (ι := {i : Nat // i ≤ a.length ∧ a.take i = b.take i}) (fun i => ([(0, L (aS .u32 .i64 a)), (1, L (aS .u32 .i64 b)), (12, .int .i64 a.length), (13, .int .i64 i.1)], [])) (fun i => a.length - i.1) ⟨0, by simp⟩ ?_ ?_
 ·refine aJ [] (by rfl) (by simp) (by simp [bQ]) (by simp [fg])
 rintro ⟨i, hi, ht⟩ hk
 dsimp only at hk ⊢
 by_cases hlt : i < a.length
 ·have c2 : ((i : Int) < (a.length : Int)) = True := by simp; omega
  obtain ⟨x, hx⟩ : ∃ x, a[i]? = some x := ⟨_, List.getElem?_eq_getElem hlt⟩
  obtain ⟨y, hy⟩ : ∃ y, b[i]? = some y := ⟨_, List.getElem?_eq_getElem (by omega)⟩
  have rx := bO (k := .u32) (m := .i64) hx
  have ry := bO (k := .u32) (m := .i64) hy
  by_cases hxy : x = y
  ·have c3 : ((x.1 == y.1) && (x.2 == y.2)) = true := by rw [b2]; simpa using hxy
   repeat' ((first | apply ai | apply ah | apply am | apply au | refine aq rfl ?_ | apply al | apply aj | apply ae | apply ak mixed | apply ap mixed | with_reducible refine ax ?_ | simp (disch := omega) only [bf] | (refine aa ?_ ?_ <;> intro hc <;> (try simp only [hc]) <;> try simp at hc) | (with_reducible refine ⟨?_, ?_⟩; (focus ((repeat' with_reducible refine ⟨?_, ?_⟩) <;> first | exact trivial | assumption | (simp; done) | (simp only [List.length_map] at *; omega) | omega | (simp [fs]; done)))) | (with_reducible intro x hx) | omega) <;> (try simp only [aF, c2, c3, rx, ry, Nat.reduceBEq, reduceIte, Nat.reduceAdd, cond_true, fw, fd]))
   refine hk ⟨i + 1, by omega, bZ ht hx hy hxy⟩ _ _ (by dsimp only; omega) ?_
   dsimp only
   refine aJ [] (by rfl) (by simp) (by simp [bQ]) (by simp [fg])
  ·have c3 : ((x.1 == y.1) && (x.2 == y.2)) = false := by rw [b2]; simpa using hxy
   rw [dC hx hy hxy]
   repeat' ((first | apply ai | apply ah | apply am | apply au | refine aq rfl ?_ | apply al | apply aj | apply ae | apply ak mixed | apply ap mixed | with_reducible refine ax ?_ | simp (disch := omega) only [bf, aG, aN, aO, bp, Int.tdiv_eq_ediv_of_nonneg, Int.tmod_eq_emod_of_nonneg] | (refine aa ?_ ?_ <;> intro hc <;> (try simp only [hc]) <;> try simp at hc) | (with_reducible refine ⟨?_, ?_⟩; (focus ((repeat' with_reducible refine ⟨?_, ?_⟩) <;> first | exact trivial | assumption | (simp; done) | (simp only [List.length_map] at *; omega) | omega | (simp [fs]; done)))) | (with_reducible intro x hx) | omega) <;> (try simp only [aF, c2, c3, rx, ry, Nat.reduceBEq, reduceIte, Nat.reduceAdd, cond_true, fw, fd]))
 ·have c2 : ((i : Int) < (a.length : Int)) = False := by simp; omega
  rw [cM ht hlt hl]
  repeat' ((first | apply ai | apply ah | apply am | apply au | refine aq rfl ?_ | apply al | apply aj | apply ae | apply ak mixed | apply ap mixed | with_reducible refine ax ?_ | simp (disch := omega) only [bf, aG, aN, aO, bp, Int.tdiv_eq_ediv_of_nonneg, Int.tmod_eq_emod_of_nonneg] | (refine aa ?_ ?_ <;> intro hc <;> (try simp only [hc]) <;> try simp at hc) | (with_reducible refine ⟨?_, ?_⟩; (focus ((repeat' with_reducible refine ⟨?_, ?_⟩) <;> first | exact trivial | assumption | (simp; done) | (simp only [List.length_map] at *; omega) | omega | (simp [fs]; done)))) | (with_reducible intro x hx) | omega) <;> (try simp only [c2, Nat.reduceBEq, reduceIte, fw, fd]))
theorem tN (a b : List (Int × Int)) (ha : a.length ≤ 140737488351232) (hb : b.length ≤ 140737488351232) : br Try.prog 56 [L (aS .u32 .u32 a), L (aS .u32 .u32 b)] (.bool (decide (a = b))) := by
 refine bX Try.func56 low56 (by simp [c56]) ?_
 simp only [c56]
 by_cases hl : ¬ a.length = b.length
 ·have c1 := iG hl
  rw [dI hl]
  repeat' ((first | apply ai | apply ah | apply am | apply au | refine aq rfl ?_ | apply al | apply aj | apply ae | apply ak mixed | apply ap mixed | with_reducible refine ax ?_ | simp (disch := omega) only [bf, aG, aN, aO, bp, Int.tdiv_eq_ediv_of_nonneg, Int.tmod_eq_emod_of_nonneg] | (refine aa ?_ ?_ <;> intro hc <;> (try simp only [hc]) <;> try simp at hc) | (with_reducible refine ⟨?_, ?_⟩; (focus ((repeat' with_reducible refine ⟨?_, ?_⟩) <;> first | exact trivial | assumption | (simp; done) | (simp only [List.length_map] at *; omega) | omega | (simp [fs]; done)))) | (with_reducible intro x hx) | omega) <;> (try simp only [aF, Nat.reduceBEq, reduceIte, fw, fd]))
 have hl : a.length = b.length := by omega
 have c1 : ((a.length : Int) == (b.length : Int)) = true := by simp [hl]
 repeat' ((first | apply ai | apply ah | apply am | apply au | refine aq rfl ?_ | apply al | apply aj | apply ae | apply ak mixed | apply ap mixed | with_reducible refine ax ?_ | simp (disch := omega) only [bf, aG, aN, aO, bp, Int.tdiv_eq_ediv_of_nonneg, Int.tmod_eq_emod_of_nonneg] | (refine aa ?_ ?_ <;> intro hc <;> (try simp only [hc]) <;> try simp at hc) | (with_reducible refine ⟨?_, ?_⟩; (focus ((repeat' with_reducible refine ⟨?_, ?_⟩) <;> first | exact trivial | assumption | (simp; done) | (simp only [List.length_map] at *; omega) | omega | (simp [fs]; done)))) | (with_reducible intro x hx) | omega) <;> (try simp only [aF, Nat.reduceBEq, reduceIte, fw, fd]))
 refine aT (ι := {i : Nat // i ≤ a.length ∧ a.take i = b.take i}) (fun i => ([(0, L (aS .u32 .u32 a)), (1, L (aS .u32 .u32 b)), (12, .int .i64 a.length), (13, .int .i64 i.1)], [])) (fun i => a.length - i.1) ⟨0, by simp⟩ ?_ ?_
 ·refine aJ [] (by rfl) (by simp) (by simp [bQ]) (by simp [fg])
 rintro ⟨i, hi, ht⟩ hk
 dsimp only at hk ⊢
 by_cases hlt : i < a.length
 ·have c2 : ((i : Int) < (a.length : Int)) = True := by simp; omega
  obtain ⟨x, hx⟩ : ∃ x, a[i]? = some x := ⟨_, List.getElem?_eq_getElem hlt⟩
  obtain ⟨y, hy⟩ : ∃ y, b[i]? = some y := ⟨_, List.getElem?_eq_getElem (by omega)⟩
  have rx := bO (k := .u32) (m := .u32) hx
  have ry := bO (k := .u32) (m := .u32) hy
  by_cases hxy : x = y
  ·have c3 : ((x.1 == y.1) && (x.2 == y.2)) = true := by rw [b2]; simpa using hxy
   repeat' ((first | apply ai | apply ah | apply am | apply au | refine aq rfl ?_ | apply al | apply aj | apply ae | apply ak mixed | apply ap mixed | with_reducible refine ax ?_ | simp (disch := omega) only [bf] | (refine aa ?_ ?_ <;> intro hc <;> (try simp only [hc]) <;> try simp at hc) | (with_reducible refine ⟨?_, ?_⟩; (focus ((repeat' with_reducible refine ⟨?_, ?_⟩) <;> first | exact trivial | assumption | (simp; done) | (simp only [List.length_map] at *; omega) | omega | (simp [fs]; done)))) | (with_reducible intro x hx) | omega) <;> (try simp only [aF, c2, c3, rx, ry, Nat.reduceBEq, reduceIte, Nat.reduceAdd, cond_true, fw, fd]))
   refine hk ⟨i + 1, by omega, bZ ht hx hy hxy⟩ _ _ (by dsimp only; omega) ?_
   dsimp only
   refine aJ [] (by rfl) (by simp) (by simp [bQ]) (by simp [fg])
  ·have c3 : ((x.1 == y.1) && (x.2 == y.2)) = false := by rw [b2]; simpa using hxy
   rw [dC hx hy hxy]
   repeat' ((first | apply ai | apply ah | apply am | apply au | refine aq rfl ?_ | apply al | apply aj | apply ae | apply ak mixed | apply ap mixed | with_reducible refine ax ?_ | simp (disch := omega) only [bf, aG, aN, aO, bp, Int.tdiv_eq_ediv_of_nonneg, Int.tmod_eq_emod_of_nonneg] | (refine aa ?_ ?_ <;> intro hc <;> (try simp only [hc]) <;> try simp at hc) | (with_reducible refine ⟨?_, ?_⟩; (focus ((repeat' with_reducible refine ⟨?_, ?_⟩) <;> first | exact trivial | assumption | (simp; done) | (simp only [List.length_map] at *; omega) | omega | (simp [fs]; done)))) | (with_reducible intro x hx) | omega) <;> (try simp only [aF, c2, c3, rx, ry, Nat.reduceBEq, reduceIte, Nat.reduceAdd, cond_true, fw, fd]))
 ·have c2 : ((i : Int) < (a.length : Int)) = False := by simp; omega
  rw [cM ht hlt hl]
  repeat' ((first | apply ai | apply ah | apply am | apply au | refine aq rfl ?_ | apply al | apply aj | apply ae | apply ak mixed | apply ap mixed | with_reducible refine ax ?_ | simp (disch := omega) only [bf, aG, aN, aO, bp, Int.tdiv_eq_ediv_of_nonneg, Int.tmod_eq_emod_of_nonneg] | (refine aa ?_ ?_ <;> intro hc <;> (try simp only [hc]) <;> try simp at hc) | (with_reducible refine ⟨?_, ?_⟩; (focus ((repeat' with_reducible refine ⟨?_, ?_⟩) <;> first | exact trivial | assumption | (simp; done) | (simp only [List.length_map] at *; omega) | omega | (simp [fs]; done)))) | (with_reducible intro x hx) | omega) <;> (try simp only [c2, Nat.reduceBEq, reduceIte, fw, fd]))
theorem mb (a b : List (Int × Int × Int)) (ha : a.length ≤ 140737488351232) (hb : b.length ≤ 140737488351232) : br Try.prog 49 [L (bh a), L (bh b)] (.bool (decide (a = b))) := by
 refine bX Try.func49 low49 (by simp [c49]) ?_
 simp only [c49]
 by_cases hl : ¬ a.length = b.length
 ·have c1 := iG hl
  rw [dI hl]
  repeat' ((first | apply ai | apply ah | apply am | apply au | refine aq rfl ?_ | apply al | apply aj | apply ae | apply ak mixed | apply ap mixed | with_reducible refine ax ?_ | simp (disch := omega) only [bf, aG, aN, aO, bp, Int.tdiv_eq_ediv_of_nonneg, Int.tmod_eq_emod_of_nonneg] | (refine aa ?_ ?_ <;> intro hc <;> (try simp only [hc]) <;> try simp at hc) | (with_reducible refine ⟨?_, ?_⟩; (focus ((repeat' with_reducible refine ⟨?_, ?_⟩) <;> first | exact trivial | assumption | (simp; done) | (simp only [List.length_map] at *; omega) | omega | (simp [fs]; done)))) | (with_reducible intro x hx) | omega) <;> (try simp only [aQ, Nat.reduceBEq, reduceIte, fw, fd]))
 have hl : a.length = b.length := by omega
 have c1 : ((a.length : Int) == (b.length : Int)) = true := by simp [hl]
 repeat' ((first | apply ai | apply ah | apply am | apply au | refine aq rfl ?_ | apply al | apply aj | apply ae | apply ak mixed | apply ap mixed | with_reducible refine ax ?_ | simp (disch := omega) only [bf, aG, aN, aO, bp, Int.tdiv_eq_ediv_of_nonneg, Int.tmod_eq_emod_of_nonneg] | (refine aa ?_ ?_ <;> intro hc <;> (try simp only [hc]) <;> try simp at hc) | (with_reducible refine ⟨?_, ?_⟩; (focus ((repeat' with_reducible refine ⟨?_, ?_⟩) <;> first | exact trivial | assumption | (simp; done) | (simp only [List.length_map] at *; omega) | omega | (simp [fs]; done)))) | (with_reducible intro x hx) | omega) <;> (try simp only [aQ, Nat.reduceBEq, reduceIte, fw, fd]))
 refine aT (ι := {i : Nat // i ≤ a.length ∧ a.take i = b.take i}) (fun i => ([(0, L (bh a)), (1, L (bh b)), (12, .int .i64 a.length), (13, .int .i64 i.1)], [])) (fun i => a.length - i.1) ⟨0, by simp⟩ ?_ ?_
 ·refine aJ [] (by rfl) (by simp) (by simp [bQ]) (by simp [fg])
 rintro ⟨i, hi, ht⟩ hk
 dsimp only at hk ⊢
 by_cases hlt : i < a.length
 ·have c2 : ((i : Int) < (a.length : Int)) = True := by simp; omega
  obtain ⟨x, hx⟩ : ∃ x, a[i]? = some x := ⟨_, List.getElem?_eq_getElem hlt⟩
  obtain ⟨y, hy⟩ : ∃ y, b[i]? = some y := ⟨_, List.getElem?_eq_getElem (by omega)⟩
  have rx := dc hx
  have ry := dc hy
  by_cases hxy : x = y
  ·have c3 : ((x.1 == y.1) && ((x.2.1 == y.2.1) && (x.2.2 == y.2.2))) = true := by rw [b3]; simpa using hxy
   repeat' ((first | apply ai | apply ah | apply am | apply au | refine aq rfl ?_ | apply al | apply aj | apply ae | apply ak mixed | apply ap mixed | with_reducible refine ax ?_ | simp (disch := omega) only [bf] | (refine aa ?_ ?_ <;> intro hc <;> (try simp only [hc]) <;> try simp at hc) | (with_reducible refine ⟨?_, ?_⟩; (focus ((repeat' with_reducible refine ⟨?_, ?_⟩) <;> first | exact trivial | assumption | (simp; done) | (simp only [List.length_map] at *; omega) | omega | (simp [fs]; done)))) | (with_reducible intro x hx) | omega) <;> (try simp only [aQ, c2, c3, rx, ry, Nat.reduceBEq, reduceIte, Nat.reduceAdd, cond_true, fw, fd]))
   refine hk ⟨i + 1, by omega, bZ ht hx hy hxy⟩ _ _ (by dsimp only; omega) ?_
   dsimp only
   refine aJ [] (by rfl) (by simp) (by simp [bQ]) (by simp [fg])
  ·have c3 : ((x.1 == y.1) && ((x.2.1 == y.2.1) && (x.2.2 == y.2.2))) = false := by rw [b3]; simpa using hxy
   rw [dC hx hy hxy]
   repeat' ((first | apply ai | apply ah | apply am | apply au | refine aq rfl ?_ | apply al | apply aj | apply ae | apply ak mixed | apply ap mixed | with_reducible refine ax ?_ | simp (disch := omega) only [bf, aG, aN, aO, bp, Int.tdiv_eq_ediv_of_nonneg, Int.tmod_eq_emod_of_nonneg] | (refine aa ?_ ?_ <;> intro hc <;> (try simp only [hc]) <;> try simp at hc) | (with_reducible refine ⟨?_, ?_⟩; (focus ((repeat' with_reducible refine ⟨?_, ?_⟩) <;> first | exact trivial | assumption | (simp; done) | (simp only [List.length_map] at *; omega) | omega | (simp [fs]; done)))) | (with_reducible intro x hx) | omega) <;> (try simp only [aQ, c2, c3, rx, ry, Nat.reduceBEq, reduceIte, Nat.reduceAdd, cond_true, fw, fd]))
 ·have c2 : ((i : Int) < (a.length : Int)) = False := by simp; omega
  rw [cM ht hlt hl]
  repeat' ((first | apply ai | apply ah | apply am | apply au | refine aq rfl ?_ | apply al | apply aj | apply ae | apply ak mixed | apply ap mixed | with_reducible refine ax ?_ | simp (disch := omega) only [bf, aG, aN, aO, bp, Int.tdiv_eq_ediv_of_nonneg, Int.tmod_eq_emod_of_nonneg] | (refine aa ?_ ?_ <;> intro hc <;> (try simp only [hc]) <;> try simp at hc) | (with_reducible refine ⟨?_, ?_⟩; (focus ((repeat' with_reducible refine ⟨?_, ?_⟩) <;> first | exact trivial | assumption | (simp; done) | (simp only [List.length_map] at *; omega) | omega | (simp [fs]; done)))) | (with_reducible intro x hx) | omega) <;> (try simp only [c2, Nat.reduceBEq, reduceIte, fw, fd]))
theorem oI (a b : List (Int × Int × Int)) (ha : a.length ≤ 140737488351232) (hb : b.length ≤ 140737488351232) : br Try.prog 53 [L (bh a), L (bh b)] (.bool (decide (a = b))) := by
 refine bX Try.func53 low53 (by simp [c53]) ?_
 simp only [c53]
 by_cases hl : ¬ a.length = b.length
 ·have c1 := iG hl
  rw [dI hl]
  repeat' ((first | apply ai | apply ah | apply am | apply au | refine aq rfl ?_ | apply al | apply aj | apply ae | apply ak mixed | apply ap mixed | with_reducible refine ax ?_ | simp (disch := omega) only [bf, aG, aN, aO, bp, Int.tdiv_eq_ediv_of_nonneg, Int.tmod_eq_emod_of_nonneg] | (refine aa ?_ ?_ <;> intro hc <;> (try simp only [hc]) <;> try simp at hc) | (with_reducible refine ⟨?_, ?_⟩; (focus ((repeat' with_reducible refine ⟨?_, ?_⟩) <;> first | exact trivial | assumption | (simp; done) | (simp only [List.length_map] at *; omega) | omega | (simp [fs]; done)))) | (with_reducible intro x hx) | omega) <;> (try simp only [aQ, Nat.reduceBEq, reduceIte, fw, fd]))
 have hl : a.length = b.length := by omega
 have c1 : ((a.length : Int) == (b.length : Int)) = true := by simp [hl]
 repeat' ((first | apply ai | apply ah | apply am | apply au | refine aq rfl ?_ | apply al | apply aj | apply ae | apply ak mixed | apply ap mixed | with_reducible refine ax ?_ | simp (disch := omega) only [bf, aG, aN, aO, bp, Int.tdiv_eq_ediv_of_nonneg, Int.tmod_eq_emod_of_nonneg] | (refine aa ?_ ?_ <;> intro hc <;> (try simp only [hc]) <;> try simp at hc) | (with_reducible refine ⟨?_, ?_⟩; (focus ((repeat' with_reducible refine ⟨?_, ?_⟩) <;> first | exact trivial | assumption | (simp; done) | (simp only [List.length_map] at *; omega) | omega | (simp [fs]; done)))) | (with_reducible intro x hx) | omega) <;> (try simp only [aQ, Nat.reduceBEq, reduceIte, fw, fd]))
 refine aT (ι := {i : Nat // i ≤ a.length ∧ a.take i = b.take i}) (fun i => ([(0, L (bh a)), (1, L (bh b)), (12, .int .i64 a.length), (13, .int .i64 i.1)], [])) (fun i => a.length - i.1) ⟨0, by simp⟩ ?_ ?_
 ·refine aJ [] (by rfl) (by simp) (by simp [bQ]) (by simp [fg])
 rintro ⟨i, hi, ht⟩ hk
 dsimp only at hk ⊢
 by_cases hlt : i < a.length
 ·have c2 : ((i : Int) < (a.length : Int)) = True := by simp; omega
  obtain ⟨x, hx⟩ : ∃ x, a[i]? = some x := ⟨_, List.getElem?_eq_getElem hlt⟩
  obtain ⟨y, hy⟩ : ∃ y, b[i]? = some y := ⟨_, List.getElem?_eq_getElem (by omega)⟩
  have rx := dc hx
  have ry := dc hy
  by_cases hxy : x = y
  ·have c3 : ((x.1 == y.1) && ((x.2.1 == y.2.1) && (x.2.2 == y.2.2))) = true := by rw [b3]; simpa using hxy
   repeat' ((first | apply ai | apply ah | apply am | apply au | refine aq rfl ?_ | apply al | apply aj | apply ae | apply ak mixed | apply ap mixed | with_reducible refine ax ?_ | simp (disch := omega) only [bf] | (refine aa ?_ ?_ <;> intro hc <;> (try simp only [hc]) <;> try simp at hc) | (with_reducible refine ⟨?_, ?_⟩; (focus ((repeat' with_reducible refine ⟨?_, ?_⟩) <;> first | exact trivial | assumption | (simp; done) | (simp only [List.length_map] at *; omega) | omega | (simp [fs]; done)))) | (with_reducible intro x hx) | omega) <;> (try simp only [aQ, c2, c3, rx, ry, Nat.reduceBEq, reduceIte, Nat.reduceAdd, cond_true, fw, fd]))
   refine hk ⟨i + 1, by omega, bZ ht hx hy hxy⟩ _ _ (by dsimp only; omega) ?_
   dsimp only
   refine aJ [] (by rfl) (by simp) (by simp [bQ]) (by simp [fg])
  ·have c3 : ((x.1 == y.1) && ((x.2.1 == y.2.1) && (x.2.2 == y.2.2))) = false := by rw [b3]; simpa using hxy
   rw [dC hx hy hxy]
   repeat' ((first | apply ai | apply ah | apply am | apply au | refine aq rfl ?_ | apply al | apply aj | apply ae | apply ak mixed | apply ap mixed | with_reducible refine ax ?_ | simp (disch := omega) only [bf, aG, aN, aO, bp, Int.tdiv_eq_ediv_of_nonneg, Int.tmod_eq_emod_of_nonneg] | (refine aa ?_ ?_ <;> intro hc <;> (try simp only [hc]) <;> try simp at hc) | (with_reducible refine ⟨?_, ?_⟩; (focus ((repeat' with_reducible refine ⟨?_, ?_⟩) <;> first | exact trivial | assumption | (simp; done) | (simp only [List.length_map] at *; omega) | omega | (simp [fs]; done)))) | (with_reducible intro x hx) | omega) <;> (try simp only [aQ, c2, c3, rx, ry, Nat.reduceBEq, reduceIte, Nat.reduceAdd, cond_true, fw, fd]))
 ·have c2 : ((i : Int) < (a.length : Int)) = False := by simp; omega
  rw [cM ht hlt hl]
  repeat' ((first | apply ai | apply ah | apply am | apply au | refine aq rfl ?_ | apply al | apply aj | apply ae | apply ak mixed | apply ap mixed | with_reducible refine ax ?_ | simp (disch := omega) only [bf, aG, aN, aO, bp, Int.tdiv_eq_ediv_of_nonneg, Int.tmod_eq_emod_of_nonneg] | (refine aa ?_ ?_ <;> intro hc <;> (try simp only [hc]) <;> try simp at hc) | (with_reducible refine ⟨?_, ?_⟩; (focus ((repeat' with_reducible refine ⟨?_, ?_⟩) <;> first | exact trivial | assumption | (simp; done) | (simp only [List.length_map] at *; omega) | omega | (simp [fs]; done)))) | (with_reducible intro x hx) | omega) <;> (try simp only [c2, Nat.reduceBEq, reduceIte, fw, fd]))
theorem ov (a b : Ru) (ha : a.fits) (hb : b.fits) : br Try.prog 51 [.agg a.cells, .agg b.cells] (.bool (decide (a = b))) := by
 obtain ⟨f1, f2, f3, f4⟩ := ha
 obtain ⟨g1, g2, g3, g4⟩ := hb
 refine bX Try.func51 low51 (by simp [c51]) ?_
 have h4 := jN a.bm b.bm f1 g1
 have h5 := jN a.bmd b.bmd f2 g2
 have h6 := uF a.bd b.bd f3 g3
 have h7 := jN a.bsp b.bsp f4 g4
 obtain ⟨a0, a1, a2, a3, a4, a5, a6, a7, a8⟩ := a
 obtain ⟨b0, b1, b2, b3, b4, b5, b6, b7, b8⟩ := b
 dsimp only at h4 h5 h6 h7
 have e : decide (Ru.mk a0 a1 a2 a3 a4 a5 a6 a7 a8 = Ru.mk b0 b1 b2 b3 b4 b5 b6 b7 b8) = ((a0 == b0) && ((a1 == b1) && ((a2 == b2) && ((a3 == b3) && ((a8 == b8) && (decide (a4 = b4) && (decide (a5 = b5) && (decide (a6 = b6) && decide (a7 = b7))))))))) := by
  rw [Bool.eq_iff_iff]
  simp only [Bool.and_eq_true, beq_iff_eq, decide_eq_true_eq, Ru.mk.injEq]
  exact ⟨fun ⟨p0, p1, p2, p3, p4, p5, p6, p7, p8⟩ => ⟨p0, p1, p2, p3, p8, p4, p5, p6, p7⟩, fun ⟨p0, p1, p2, p3, p8, p4, p5, p6, p7⟩ => ⟨p0, p1, p2, p3, p4, p5, p6, p7, p8⟩⟩
 rw [e]
 clear e
 generalize decide (a4 = b4) = x4 at h4 ⊢
 generalize decide (a5 = b5) = x5 at h5 ⊢
 generalize decide (a6 = b6) = x6 at h6 ⊢
 generalize decide (a7 = b7) = x7 at h7 ⊢
 simp only [c51, Ru.cells]
 repeat' ((first | apply ai | apply al | apply aj | apply ak mixed | (with_reducible first | refine ax ?_ | refine ao ?_) | refine av (h4) ?_ ?_ | refine av (h5) ?_ ?_ | refine av (h6) ?_ ?_ | refine av (h7) ?_ ?_ | (refine ac ?_ ?_ <;> intro hc <;> (try simp only [hc]) <;> try simp at hc) | (with_reducible refine ⟨?_, ?_⟩; (focus ((repeat' with_reducible refine ⟨?_, ?_⟩) <;> first | exact trivial | assumption | (simp; done) | (simp only [List.length_map] at *; omega) | omega | (simp [fs]; done)))) | (with_reducible intro x hx) | omega) <;> (try simp only [Nat.reduceBEq, reduceIte, Nat.reduceAdd, reduceCtorEq, cond_true, cond_false, ne_eq, fw, fd]))
 all_goals (rw [Bool.eq_iff_iff]; simp [*]; try (exact fun h1 h2 => absurd h2 (hc h1)))
theorem ue (a b : Se) (ha : a.fits) (hb : b.fits) : br Try.prog 26 [.agg a.cells, .agg b.cells] (.bool (decide (a = b))) := by
 obtain ⟨f1, f2, f3⟩ := ha
 obtain ⟨g1, g2, g3⟩ := hb
 refine bX Try.func26 low26 (by simp [c26]) ?_
 have h1 := sj a.turns b.turns f1 g1
 have h2 := mb a.shifts b.shifts f2 g2
 have h3 := jN a.off b.off f3 g3
 obtain ⟨a0, a1, a2, a3, a4, a5⟩ := a
 obtain ⟨b0, b1, b2, b3, b4, b5⟩ := b
 dsimp only at h1 h2 h3
 have e : decide (Se.mk a0 a1 a2 a3 a4 a5 = Se.mk b0 b1 b2 b3 b4 b5) = ((a0 == b0) && (decide (a1 = b1) && (decide (a2 = b2) && (decide (a3 = b3) && ((a4 == b4) && (a5 == b5)))))) := by
  rw [Bool.eq_iff_iff]
  simp only [Bool.and_eq_true, beq_iff_eq, decide_eq_true_eq, Se.mk.injEq]
 rw [e]
 clear e
 generalize decide (a1 = b1) = x1 at h1 ⊢
 generalize decide (a2 = b2) = x2 at h2 ⊢
 generalize decide (a3 = b3) = x3 at h3 ⊢
 simp only [c26, Se.cells]
 repeat' ((first | apply ai | apply al | apply aj | apply ak mixed | (with_reducible first | refine ax ?_ | refine ao ?_) | refine av (h1) ?_ ?_ | refine av (h2) ?_ ?_ | refine av (h3) ?_ ?_ | (refine ac ?_ ?_ <;> intro hc <;> (try simp only [hc]) <;> try simp at hc) | (with_reducible refine ⟨?_, ?_⟩; (focus ((repeat' with_reducible refine ⟨?_, ?_⟩) <;> first | exact trivial | assumption | (simp; done) | (simp only [List.length_map] at *; omega) | omega | (simp [fs]; done)))) | (with_reducible intro x hx) | omega) <;> (try simp only [Nat.reduceBEq, reduceIte, Nat.reduceAdd, reduceCtorEq, cond_true, cond_false, ne_eq, fw, fd]))
 all_goals (rw [Bool.eq_iff_iff]; simp [*]; try (exact fun h1 h2 => absurd h2 (hc h1)))
theorem ux (a b : Ev) (ha : a.fits) (hb : b.fits) : br Try.prog 27 [.agg a.cells, .agg b.cells] (.bool (decide (a = b))) := by
 obtain ⟨f1, f2, f3, f4⟩ := ha
 obtain ⟨g1, g2, g3, g4⟩ := hb
 refine bX Try.func27 low27 (by simp [c27]) ?_
 have h4 := ov a.rule b.rule f1 g1
 have h5 := pP a.ex b.ex f2 g2
 have h6 := pP a.plus b.plus f3 g3
 have h7 := oI a.ch b.ch f4 g4
 obtain ⟨a0, a1, a2, a3, a4, a5, a6, a7⟩ := a
 obtain ⟨b0, b1, b2, b3, b4, b5, b6, b7⟩ := b
 dsimp only at h4 h5 h6 h7
 have e : decide (Ev.mk a0 a1 a2 a3 a4 a5 a6 a7 = Ev.mk b0 b1 b2 b3 b4 b5 b6 b7) = ((a0 == b0) && ((a1 == b1) && ((a3 == b3) && ((a2 == b2) && (decide (a4 = b4) && (decide (a5 = b5) && (decide (a6 = b6) && decide (a7 = b7)))))))) := by
  rw [Bool.eq_iff_iff]
  simp only [Bool.and_eq_true, beq_iff_eq, decide_eq_true_eq, Ev.mk.injEq]
  exact ⟨fun ⟨p0, p1, p2, p3, p4, p5, p6, p7⟩ => ⟨p0, p1, p3, p2, p4, p5, p6, p7⟩, fun ⟨p0, p1, p3, p2, p4, p5, p6, p7⟩ => ⟨p0, p1, p2, p3, p4, p5, p6, p7⟩⟩
 rw [e]
 clear e
 generalize decide (a4 = b4) = x4 at h4 ⊢
 generalize decide (a5 = b5) = x5 at h5 ⊢
 generalize decide (a6 = b6) = x6 at h6 ⊢
 generalize decide (a7 = b7) = x7 at h7 ⊢
 simp only [c27, Ev.cells]
 simp only [Ru.cells] at h4
 repeat' ((first | apply ai | apply al | apply aj | apply ak mixed | (with_reducible first | refine ax ?_ | refine ao ?_) | refine av (h4) ?_ ?_ | refine av (h5) ?_ ?_ | refine av (h6) ?_ ?_ | refine av (h7) ?_ ?_ | (refine ac ?_ ?_ <;> intro hc <;> (try simp only [hc]) <;> try simp at hc) | (with_reducible refine ⟨?_, ?_⟩; (focus ((repeat' with_reducible refine ⟨?_, ?_⟩) <;> first | exact trivial | assumption | (simp; done) | (simp only [List.length_map] at *; omega) | omega | (simp [fs]; done)))) | (with_reducible intro x hx) | omega) <;> (try simp only [Nat.reduceBEq, reduceIte, Nat.reduceAdd, Nat.reduceLeDiff, reduceCtorEq, cond_true, cond_false, ne_eq, fw, fd]))
 all_goals (rw [Bool.eq_iff_iff]; simp [*]; try (exact fun h1 h2 => absurd h2 (hc h1)))
theorem uv (a b : Qu) (ha : a.fits) (hb : b.fits) : br Try.prog 28 [.agg a.cells, .agg b.cells] (.bool (decide (a = b))) := by
 obtain ⟨f1, f2, f3, f4⟩ := ha
 obtain ⟨g1, g2, g3, g4⟩ := hb
 refine bX Try.func28 low28 (by simp [c28]) ?_
 have h4 := vk a.must b.must f1 g1
 have h5 := tj a.may b.may f2 g2
 have h7 := tN a.apart b.apart f3 g3
 have h8 := mb a.prefer b.prefer f4 g4
 obtain ⟨a0, a1, a2, a3, a4, a5, a6, a7, a8⟩ := a
 obtain ⟨b0, b1, b2, b3, b4, b5, b6, b7, b8⟩ := b
 dsimp only at h4 h5 h7 h8
 have e : decide (Qu.mk a0 a1 a2 a3 a4 a5 a6 a7 a8 = Qu.mk b0 b1 b2 b3 b4 b5 b6 b7 b8) = ((a0 == b0) && ((a1 == b1) && ((a2 == b2) && ((a3 == b3) && (decide (a4 = b4) && (decide (a5 = b5) && ((a6 == b6) && (decide (a7 = b7) && decide (a8 = b8))))))))) := by
  rw [Bool.eq_iff_iff]
  simp only [Bool.and_eq_true, beq_iff_eq, decide_eq_true_eq, Qu.mk.injEq]
 rw [e]
 clear e
 generalize decide (a4 = b4) = x4 at h4 ⊢
 generalize decide (a5 = b5) = x5 at h5 ⊢
 generalize decide (a7 = b7) = x7 at h7 ⊢
 generalize decide (a8 = b8) = x8 at h8 ⊢
 simp only [c28, Qu.cells]
 repeat' ((first | apply ai | apply al | apply aj | apply ak mixed | (with_reducible first | refine ax ?_ | refine ao ?_) | refine av (h4) ?_ ?_ | refine av (h5) ?_ ?_ | refine av (h7) ?_ ?_ | refine av (h8) ?_ ?_ | (refine ac ?_ ?_ <;> intro hc <;> (try simp only [hc]) <;> try simp at hc) | (with_reducible refine ⟨?_, ?_⟩; (focus ((repeat' with_reducible refine ⟨?_, ?_⟩) <;> first | exact trivial | assumption | (simp; done) | (simp only [List.length_map] at *; omega) | omega | (simp [fs]; done)))) | (with_reducible intro x hx) | omega) <;> (try simp only [Nat.reduceBEq, reduceIte, Nat.reduceAdd, Nat.reduceLeDiff, reduceCtorEq, cond_true, cond_false, ne_eq, fw, fd]))
 all_goals (rw [Bool.eq_iff_iff]; simp [*]; try (exact fun h1 h2 => absurd h2 (hc h1)))
end Go.Proofs.Ytgefljdclekadaa

namespace Go.Proofs.Ytgefljdclekadaa
open Go Go.Vi
deriving instance DecidableEq for As
theorem str_self (s : ByteArray) : (s == s) = true := by rw [gX]; simp
structure Re where
 err : Int
 ver : Int
 slots : List (Int × Int × Int)
 cursor : ByteArray
 po : Po
 deriving DecidableEq
def Re.cells (r : Re) : List D := [.int .i64 r.err, .int .u64 r.ver, L (bh r.slots), .str r.cursor, .int .u32 r.po.id, .int .u32 r.po.owner, .int .i64 r.po.qu.a, .int .i64 r.po.qu.b, .int .i64 r.po.qu.long, .int .i64 r.po.qu.grid, L (aI .u32 r.po.qu.must), L (aS .u32 .i64 r.po.qu.may), .int .i64 r.po.qu.seats, L (aS .u32 .u32 r.po.qu.apart), L (bh r.po.qu.prefer), L (aI .i64 r.po.slots), L (aS .u32 .i64 r.po.votes), .int .i64 r.po.til, .int .i64 r.po.state, .int .i64 r.po.winner]
def As.fits (a : As) : Prop := a.se.fits ∧ a.ev.fits ∧ a.qu.fits
def Re.fits (a : Re) : Prop := a.slots.length ≤ 140737488351232 ∧ a.po.fits
def As.great (a : As) : Bool := a.se.great || a.ev.great || a.qu.great || decide (200 < a.cursor.size)
theorem mg (a : As) : br Try.prog 5 [.agg a.cells] (.bool a.great) := by
 refine bX Try.func5 low5 (by simp [c5]) ?_
 simp only [c5, As.cells]
 have h1 := qt a.se
 have h2 := qN a.ev
 have h3 := qH a.qu
 simp only [Se.cells, Ev.cells, Qu.cells] at h1 h2 h3
 repeat' ((first | apply ai | apply al | apply aj | apply ak mixed | (with_reducible first | refine ax ?_ | refine ao ?_) | refine av (h1) ?_ ?_ | refine av (h2) ?_ ?_ | refine av (h3) ?_ ?_ | (refine ac ?_ ?_ <;> intro hc <;> (try simp only [hc]) <;> try simp at hc) | (with_reducible refine ⟨?_, ?_⟩; (focus ((repeat' with_reducible refine ⟨?_, ?_⟩) <;> first | exact trivial | assumption | (simp; done) | (simp only [List.length_map] at *; omega) | omega | (simp [fs]; done)))) | (with_reducible intro x hx) | omega) <;> (try simp only [Nat.reduceBEq, reduceIte, Nat.reduceAdd, Nat.reduceLeDiff, reduceCtorEq, cond_true, cond_false, ne_eq, fw, fd]))
 all_goals (unfold As.great; rw [Bool.eq_iff_iff]; simp [*]; try omega)
def Re.great (a : Re) : Bool := decide (150 < a.slots.length) || decide (200 < a.cursor.size) || a.po.great
set_option maxHeartbeats 2000000 in
theorem mW (a b : As) (ha : a.fits) (hb : b.fits) : br Try.prog 11 [.agg a.cells, .agg b.cells] (.bool (decide (a = b))) := by
 obtain ⟨f1, f2, f3⟩ := ha
 obtain ⟨g1, g2, g3⟩ := hb
 refine bX Try.func11 low11 (by simp [c11]) ?_
 have h5 := ue a.se b.se f1 g1
 have h6 := ux a.ev b.ev f2 g2
 have h7 := uv a.qu b.qu f3 g3
 obtain ⟨a0, a1, a2, a3, a4, a5, a6, a7, a8, a9, a10, a11, a12, a13⟩ := a
 obtain ⟨b0, b1, b2, b3, b4, b5, b6, b7, b8, b9, b10, b11, b12, b13⟩ := b
 dsimp only at h5 h6 h7
 have e : decide (As.mk a0 a1 a2 a3 a4 a5 a6 a7 a8 a9 a10 a11 a12 a13 = As.mk b0 b1 b2 b3 b4 b5 b6 b7 b8 b9 b10 b11 b12 b13) = ((a0 == b0) && ((a1 == b1) && ((a2 == b2) && ((a3 == b3) && ((a4 == b4) && (decide (a5 = b5) && (decide (a6 = b6) && (decide (a7 = b7) && ((a8 == b8) && ((a9 == b9) && ((a10 == b10) && ((a11 == b11) && ((a12 == b12) && (a13 == b13)))))))))))))) := by
  rw [Bool.eq_iff_iff]
  simp only [Bool.and_eq_true, gX, beq_iff_eq, decide_eq_true_eq, As.mk.injEq]
 rw [e]
 clear e
 generalize decide (a5 = b5) = x5 at h5 ⊢
 generalize decide (a6 = b6) = x6 at h6 ⊢
 generalize decide (a7 = b7) = x7 at h7 ⊢
 simp only [c11, As.cells]
 simp only [Se.cells, Ev.cells, Qu.cells] at h5 h6 h7
 repeat' ((first | apply ai | apply al | apply aj | apply ak mixed | (with_reducible first | refine ax ?_ | refine ao ?_) | refine av (h5) ?_ ?_ | refine av (h6) ?_ ?_ | refine av (h7) ?_ ?_ | (refine ac ?_ ?_ <;> intro hc <;> (try simp only [hc]) <;> try simp at hc) | (with_reducible refine ⟨?_, ?_⟩; (focus ((repeat' with_reducible refine ⟨?_, ?_⟩) <;> first | exact trivial | assumption | (simp; done) | (simp only [List.length_map] at *; omega) | omega | (simp [fs]; done)))) | (with_reducible intro x hx) | omega) <;> (try simp only [Nat.reduceBEq, reduceIte, Nat.reduceAdd, Nat.reduceLeDiff, reduceCtorEq, cond_true, cond_false, ne_eq, fw, fd]))
 all_goals (rw [Bool.eq_iff_iff]; simp [*, gX]; try (exact fun h1 h2 => absurd h2 (hc h1)))
set_option maxHeartbeats 2000000 in
theorem uu (a b : As) (ha : a.fits) (hb : b.fits) : br Try.prog 8 [.agg a.cells, .agg b.cells] (.bool (decide (a = b))) := by
 obtain ⟨f1, f2, f3⟩ := ha
 obtain ⟨g1, g2, g3⟩ := hb
 refine bX Try.func8 low8 (by simp [c8]) ?_
 have h5 := rZ a.se b.se f1 g1
 have h6 := tl a.ev b.ev f2 g2
 have h7 := sS a.qu b.qu f3 g3
 obtain ⟨a0, a1, a2, a3, a4, a5, a6, a7, a8, a9, a10, a11, a12, a13⟩ := a
 obtain ⟨b0, b1, b2, b3, b4, b5, b6, b7, b8, b9, b10, b11, b12, b13⟩ := b
 dsimp only at h5 h6 h7
 have e : decide (As.mk a0 a1 a2 a3 a4 a5 a6 a7 a8 a9 a10 a11 a12 a13 = As.mk b0 b1 b2 b3 b4 b5 b6 b7 b8 b9 b10 b11 b12 b13) = ((a0 == b0) && ((a1 == b1) && ((a2 == b2) && ((a3 == b3) && ((a4 == b4) && (decide (a5 = b5) && (decide (a6 = b6) && (decide (a7 = b7) && ((a8 == b8) && ((a9 == b9) && ((a10 == b10) && ((a11 == b11) && ((a12 == b12) && (a13 == b13)))))))))))))) := by
  rw [Bool.eq_iff_iff]
  simp only [Bool.and_eq_true, gX, beq_iff_eq, decide_eq_true_eq, As.mk.injEq]
 rw [e]
 clear e
 generalize decide (a5 = b5) = x5 at h5 ⊢
 generalize decide (a6 = b6) = x6 at h6 ⊢
 generalize decide (a7 = b7) = x7 at h7 ⊢
 simp only [c8, As.cells]
 simp only [Se.cells, Ev.cells, Qu.cells] at h5 h6 h7
 repeat' ((first | apply ai | apply al | apply aj | apply ak mixed | (with_reducible first | refine ax ?_ | refine ao ?_) | refine av (h5) ?_ ?_ | refine av (h6) ?_ ?_ | refine av (h7) ?_ ?_ | (refine ac ?_ ?_ <;> intro hc <;> (try simp only [hc]) <;> try simp at hc) | (with_reducible refine ⟨?_, ?_⟩; (focus ((repeat' with_reducible refine ⟨?_, ?_⟩) <;> first | exact trivial | assumption | (simp; done) | (simp only [List.length_map] at *; omega) | omega | (simp [fs]; done)))) | (with_reducible intro x hx) | omega) <;> (try simp only [Nat.reduceBEq, reduceIte, Nat.reduceAdd, Nat.reduceLeDiff, reduceCtorEq, cond_true, cond_false, ne_eq, fw, fd]))
 all_goals (rw [Bool.eq_iff_iff]; simp [*, gX]; try (exact fun h1 h2 => absurd h2 (hc h1)))
theorem Re.eq_iff {a b : Re} : a = b ↔ (a.err = b.err ∧ a.ver = b.ver ∧ a.slots = b.slots ∧ a.cursor = b.cursor ∧ a.po = b.po) := by
 cases a; cases b; simp only [Re.mk.injEq]
end Go.Proofs.Ytgefljdclekadaa
