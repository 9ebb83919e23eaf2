import Derived.Test.YtgefljdclekadaaGreatWMB
import Derived.Test.YtgefljdclekadaaGreatVi25
import Derived.Test.YtgefljdclekadaaGreatWMG
import Derived.Test.YtgefljdclekadaaGreatWMC
set_option linter.unusedVariables false
set_option linter.unusedSimpArgs false
namespace Go.Proofs.YtgefljdclekadaaGreat
open Go Go.Vi
theorem jO (a b : List Int) (ha : a.length ≤ 140737488351232) (hb : b.length ≤ 140737488351232) : aP Tryz.prog 88 [L (aJ .i64 a), L (aJ .i64 b)] (.bool (decide (a = b))) := by
 refine bf Tryz.func88 low88 (by simp [c88]) ?_
 simp only [c88]
 by_cases hl : ¬ a.length = b.length
 ·have c1 := gp hl
  rw [cY hl]
  repeat' ((first | apply ah | apply al | apply ao | apply av | refine aq rfl ?_ | apply ai | apply af | apply ab | apply ak mixed | apply ap mixed | with_reducible refine ac ?_ | simp (disch := omega) only [aW, aF, aK, aL, bg, zI, zH] | (refine aa ?_ ?_ <;> intro hc <;> (try simp only [hc]) <;> try simp at hc) | (with_reducible refine ⟨?_, ?_⟩; (focus ((repeat' with_reducible refine ⟨?_, ?_⟩) <;> first | exact trivial | assumption | (simp; done) | (simp only [zA] at *; omega) | omega | (simp [fs]; done)))) | (with_reducible intro x hx) | omega) <;> (try simp only [aI, Nat.reduceBEq, reduceIte, fw, fd]))
 have hl : a.length = b.length := by omega
 have c1 : ((a.length : Int) == (b.length : Int)) = true := by simp [hl]
 repeat' ((first | apply ah | apply al | apply ao | apply av | refine aq rfl ?_ | apply ai | apply af | apply ab | apply ak mixed | apply ap mixed | with_reducible refine ac ?_ | simp (disch := omega) only [aW, aF, aK, aL, bg, zI, zH] | (refine aa ?_ ?_ <;> intro hc <;> (try simp only [hc]) <;> try simp at hc) | (with_reducible refine ⟨?_, ?_⟩; (focus ((repeat' with_reducible refine ⟨?_, ?_⟩) <;> first | exact trivial | assumption | (simp; done) | (simp only [zA] at *; omega) | omega | (simp [fs]; done)))) | (with_reducible intro x hx) | omega) <;> (try simp only [aI, Nat.reduceBEq, reduceIte, fw, fd]))
 refine aM (ι := {i : Nat // i ≤ a.length ∧ a.take i = b.take i}) (fun i => ([(0, L (aJ .i64 a)), (1, L (aJ .i64 b)), (12, .int .i64 a.length), (13, .int .i64 i.1)], [])) (fun i => a.length - i.1) ⟨0, by simp⟩ ?_ ?_
 ·refine aC [] (by rfl) (by simp) (by simp [bx]) (by simp [fg])
 rintro ⟨i, hi, ht⟩ hk
 dsimp only at hk ⊢
 by_cases hlt : i < a.length
 ·have c2 : ((i : Int) < (a.length : Int)) = True := by simp; omega
  obtain ⟨x, hx⟩ : ∃ x, a[i]? = some x := ⟨_, zD hlt⟩
  obtain ⟨y, hy⟩ : ∃ y, b[i]? = some y := ⟨_, zD (by omega)⟩
  have rx := bS (k := .i64) hx
  have ry := bS (k := .i64) hy
  by_cases hxy : x = y
  ·have c3 : (x == y) = true := by simpa using hxy
   repeat' ((first | apply ah | apply al | apply ao | apply av | refine aq rfl ?_ | apply ai | apply af | apply ab | apply ak mixed | apply ap mixed | with_reducible refine ac ?_ | simp (disch := omega) only [aW] | (refine aa ?_ ?_ <;> intro hc <;> (try simp only [hc]) <;> try simp at hc) | (with_reducible refine ⟨?_, ?_⟩; (focus ((repeat' with_reducible refine ⟨?_, ?_⟩) <;> first | exact trivial | assumption | (simp; done) | (simp only [zA] at *; omega) | omega | (simp [fs]; done)))) | (with_reducible intro x hx) | omega) <;> (try simp only [aI, c2, rx, ry, Nat.reduceBEq, reduceIte, fw, fd]))
   refine hk ⟨i + 1, by omega, bw ht hx hy hxy⟩ _ _ (by dsimp only; omega) ?_
   dsimp only
   refine aC [] (by rfl) (by simp) (by simp [bx]) (by simp [fg])
  ·have c3 : (x == y) = false := by simpa using hxy
   rw [cF hx hy hxy]
   repeat' ((first | apply ah | apply al | apply ao | apply av | refine aq rfl ?_ | apply ai | apply af | apply ab | apply ak mixed | apply ap mixed | with_reducible refine ac ?_ | simp (disch := omega) only [aW] | (refine aa ?_ ?_ <;> intro hc <;> (try simp only [hc]) <;> try simp at hc) | (with_reducible refine ⟨?_, ?_⟩; (focus ((repeat' with_reducible refine ⟨?_, ?_⟩) <;> first | exact trivial | assumption | (simp; done) | (simp only [zA] at *; omega) | omega | (simp [fs]; done)))) | (with_reducible intro x hx) | omega) <;> (try simp only [aI, c2, rx, ry, Nat.reduceBEq, reduceIte, fw, fd]))
 ·have c2 : ((i : Int) < (a.length : Int)) = False := by simp; omega
  rw [bQ ht hlt hl]
  repeat' ((first | apply ah | apply al | apply ao | apply av | refine aq rfl ?_ | apply ai | apply af | apply ab | apply ak mixed | apply ap mixed | with_reducible refine ac ?_ | simp (disch := omega) only [aW, aF, aK, aL, bg, zI, zH] | (refine aa ?_ ?_ <;> intro hc <;> (try simp only [hc]) <;> try simp at hc) | (with_reducible refine ⟨?_, ?_⟩; (focus ((repeat' with_reducible refine ⟨?_, ?_⟩) <;> first | exact trivial | assumption | (simp; done) | (simp only [zA] at *; omega) | omega | (simp [fs]; done)))) | (with_reducible intro x hx) | omega) <;> (try simp only [c2, Nat.reduceBEq, reduceIte, fw, fd]))
theorem mY (a b : List Int) (ha : a.length ≤ 140737488351232) (hb : b.length ≤ 140737488351232) : aP Tryz.prog 84 [L (aJ .i64 a), L (aJ .i64 b)] (.bool (decide (a = b))) := by
 refine bf Tryz.func84 low84 (by simp [c84]) ?_
 simp only [c84]
 by_cases hl : ¬ a.length = b.length
 ·have c1 := gp hl
  rw [cY hl]
  repeat' ((first | apply ah | apply al | apply ao | apply av | refine aq rfl ?_ | apply ai | apply af | apply ab | apply ak mixed | apply ap mixed | with_reducible refine ac ?_ | simp (disch := omega) only [aW, aF, aK, aL, bg, zI, zH] | (refine aa ?_ ?_ <;> intro hc <;> (try simp only [hc]) <;> try simp at hc) | (with_reducible refine ⟨?_, ?_⟩; (focus ((repeat' with_reducible refine ⟨?_, ?_⟩) <;> first | exact trivial | assumption | (simp; done) | (simp only [zA] at *; omega) | omega | (simp [fs]; done)))) | (with_reducible intro x hx) | omega) <;> (try simp only [aI, Nat.reduceBEq, reduceIte, fw, fd]))
 have hl : a.length = b.length := by omega
 have c1 : ((a.length : Int) == (b.length : Int)) = true := by simp [hl]
 repeat' ((first | apply ah | apply al | apply ao | apply av | refine aq rfl ?_ | apply ai | apply af | apply ab | apply ak mixed | apply ap mixed | with_reducible refine ac ?_ | simp (disch := omega) only [aW, aF, aK, aL, bg, zI, zH] | (refine aa ?_ ?_ <;> intro hc <;> (try simp only [hc]) <;> try simp at hc) | (with_reducible refine ⟨?_, ?_⟩; (focus ((repeat' with_reducible refine ⟨?_, ?_⟩) <;> first | exact trivial | assumption | (simp; done) | (simp only [zA] at *; omega) | omega | (simp [fs]; done)))) | (with_reducible intro x hx) | omega) <;> (try simp only [aI, Nat.reduceBEq, reduceIte, fw, fd]))
 refine aM (ι := {i : Nat // i ≤ a.length ∧ a.take i = b.take i}) (fun i => ([(0, L (aJ .i64 a)), (1, L (aJ .i64 b)), (12, .int .i64 a.length), (13, .int .i64 i.1)], [])) (fun i => a.length - i.1) ⟨0, by simp⟩ ?_ ?_
 ·refine aC [] (by rfl) (by simp) (by simp [bx]) (by simp [fg])
 rintro ⟨i, hi, ht⟩ hk
 dsimp only at hk ⊢
 by_cases hlt : i < a.length
 ·have c2 : ((i : Int) < (a.length : Int)) = True := by simp; omega
  obtain ⟨x, hx⟩ : ∃ x, a[i]? = some x := ⟨_, zD hlt⟩
  obtain ⟨y, hy⟩ : ∃ y, b[i]? = some y := ⟨_, zD (by omega)⟩
  have rx := bS (k := .i64) hx
  have ry := bS (k := .i64) hy
  by_cases hxy : x = y
  ·have c3 : (x == y) = true := by simpa using hxy
   repeat' ((first | apply ah | apply al | apply ao | apply av | refine aq rfl ?_ | apply ai | apply af | apply ab | apply ak mixed | apply ap mixed | with_reducible refine ac ?_ | simp (disch := omega) only [aW] | (refine aa ?_ ?_ <;> intro hc <;> (try simp only [hc]) <;> try simp at hc) | (with_reducible refine ⟨?_, ?_⟩; (focus ((repeat' with_reducible refine ⟨?_, ?_⟩) <;> first | exact trivial | assumption | (simp; done) | (simp only [zA] at *; omega) | omega | (simp [fs]; done)))) | (with_reducible intro x hx) | omega) <;> (try simp only [aI, c2, rx, ry, Nat.reduceBEq, reduceIte, fw, fd]))
   refine hk ⟨i + 1, by omega, bw ht hx hy hxy⟩ _ _ (by dsimp only; omega) ?_
   dsimp only
   refine aC [] (by rfl) (by simp) (by simp [bx]) (by simp [fg])
  ·have c3 : (x == y) = false := by simpa using hxy
   rw [cF hx hy hxy]
   repeat' ((first | apply ah | apply al | apply ao | apply av | refine aq rfl ?_ | apply ai | apply af | apply ab | apply ak mixed | apply ap mixed | with_reducible refine ac ?_ | simp (disch := omega) only [aW] | (refine aa ?_ ?_ <;> intro hc <;> (try simp only [hc]) <;> try simp at hc) | (with_reducible refine ⟨?_, ?_⟩; (focus ((repeat' with_reducible refine ⟨?_, ?_⟩) <;> first | exact trivial | assumption | (simp; done) | (simp only [zA] at *; omega) | omega | (simp [fs]; done)))) | (with_reducible intro x hx) | omega) <;> (try simp only [aI, c2, rx, ry, Nat.reduceBEq, reduceIte, fw, fd]))
 ·have c2 : ((i : Int) < (a.length : Int)) = False := by simp; omega
  rw [bQ ht hlt hl]
  repeat' ((first | apply ah | apply al | apply ao | apply av | refine aq rfl ?_ | apply ai | apply af | apply ab | apply ak mixed | apply ap mixed | with_reducible refine ac ?_ | simp (disch := omega) only [aW, aF, aK, aL, bg, zI, zH] | (refine aa ?_ ?_ <;> intro hc <;> (try simp only [hc]) <;> try simp at hc) | (with_reducible refine ⟨?_, ?_⟩; (focus ((repeat' with_reducible refine ⟨?_, ?_⟩) <;> first | exact trivial | assumption | (simp; done) | (simp only [zA] at *; omega) | omega | (simp [fs]; done)))) | (with_reducible intro x hx) | omega) <;> (try simp only [c2, Nat.reduceBEq, reduceIte, fw, fd]))
theorem vW (a b : List Int) (ha : a.length ≤ 140737488351232) (hb : b.length ≤ 140737488351232) : aP Tryz.prog 113 [L (aJ .u32 a), L (aJ .u32 b)] (.bool (decide (a = b))) := by
 refine bf Tryz.func113 low113 (by simp [c113]) ?_
 simp only [c113]
 by_cases hl : ¬ a.length = b.length
 ·have c1 := gp hl
  rw [cY hl]
  repeat' ((first | apply ah | apply al | apply ao | apply av | refine aq rfl ?_ | apply ai | apply af | apply ab | apply ak mixed | apply ap mixed | with_reducible refine ac ?_ | simp (disch := omega) only [aW, aF, aK, aL, bg, zI, zH] | (refine aa ?_ ?_ <;> intro hc <;> (try simp only [hc]) <;> try simp at hc) | (with_reducible refine ⟨?_, ?_⟩; (focus ((repeat' with_reducible refine ⟨?_, ?_⟩) <;> first | exact trivial | assumption | (simp; done) | (simp only [zA] at *; omega) | omega | (simp [fs]; done)))) | (with_reducible intro x hx) | omega) <;> (try simp only [aI, Nat.reduceBEq, reduceIte, fw, fd]))
 have hl : a.length = b.length := by omega
 have c1 : ((a.length : Int) == (b.length : Int)) = true := by simp [hl]
 repeat' ((first | apply ah | apply al | apply ao | apply av | refine aq rfl ?_ | apply ai | apply af | apply ab | apply ak mixed | apply ap mixed | with_reducible refine ac ?_ | simp (disch := omega) only [aW, aF, aK, aL, bg, zI, zH] | (refine aa ?_ ?_ <;> intro hc <;> (try simp only [hc]) <;> try simp at hc) | (with_reducible refine ⟨?_, ?_⟩; (focus ((repeat' with_reducible refine ⟨?_, ?_⟩) <;> first | exact trivial | assumption | (simp; done) | (simp only [zA] at *; omega) | omega | (simp [fs]; done)))) | (with_reducible intro x hx) | omega) <;> (try simp only [aI, Nat.reduceBEq, reduceIte, fw, fd]))
 refine aM (ι := {i : Nat // i ≤ a.length ∧ a.take i = b.take i}) (fun i => ([(0, L (aJ .u32 a)), (1, L (aJ .u32 b)), (12, .int .i64 a.length), (13, .int .i64 i.1)], [])) (fun i => a.length - i.1) ⟨0, by simp⟩ ?_ ?_
 ·refine aC [] (by rfl) (by simp) (by simp [bx]) (by simp [fg])
 rintro ⟨i, hi, ht⟩ hk
 dsimp only at hk ⊢
 by_cases hlt : i < a.length
 ·have c2 : ((i : Int) < (a.length : Int)) = True := by simp; omega
  obtain ⟨x, hx⟩ : ∃ x, a[i]? = some x := ⟨_, zD hlt⟩
  obtain ⟨y, hy⟩ : ∃ y, b[i]? = some y := ⟨_, zD (by omega)⟩
  have rx := bS (k := .u32) hx
  have ry := bS (k := .u32) hy
  by_cases hxy : x = y
  ·have c3 : (x == y) = true := by simpa using hxy
   repeat' ((first | apply ah | apply al | apply ao | apply av | refine aq rfl ?_ | apply ai | apply af | apply ab | apply ak mixed | apply ap mixed | with_reducible refine ac ?_ | simp (disch := omega) only [aW] | (refine aa ?_ ?_ <;> intro hc <;> (try simp only [hc]) <;> try simp at hc) | (with_reducible refine ⟨?_, ?_⟩; (focus ((repeat' with_reducible refine ⟨?_, ?_⟩) <;> first | exact trivial | assumption | (simp; done) | (simp only [zA] at *; omega) | omega | (simp [fs]; done)))) | (with_reducible intro x hx) | omega) <;> (try simp only [aI, c2, rx, ry, Nat.reduceBEq, reduceIte, fw, fd]))
   refine hk ⟨i + 1, by omega, bw ht hx hy hxy⟩ _ _ (by dsimp only; omega) ?_
   dsimp only
   refine aC [] (by rfl) (by simp) (by simp [bx]) (by simp [fg])
  ·have c3 : (x == y) = false := by simpa using hxy
   rw [cF hx hy hxy]
   repeat' ((first | apply ah | apply al | apply ao | apply av | refine aq rfl ?_ | apply ai | apply af | apply ab | apply ak mixed | apply ap mixed | with_reducible refine ac ?_ | simp (disch := omega) only [aW] | (refine aa ?_ ?_ <;> intro hc <;> (try simp only [hc]) <;> try simp at hc) | (with_reducible refine ⟨?_, ?_⟩; (focus ((repeat' with_reducible refine ⟨?_, ?_⟩) <;> first | exact trivial | assumption | (simp; done) | (simp only [zA] at *; omega) | omega | (simp [fs]; done)))) | (with_reducible intro x hx) | omega) <;> (try simp only [aI, c2, rx, ry, Nat.reduceBEq, reduceIte, fw, fd]))
 ·have c2 : ((i : Int) < (a.length : Int)) = False := by simp; omega
  rw [bQ ht hlt hl]
  repeat' ((first | apply ah | apply al | apply ao | apply av | refine aq rfl ?_ | apply ai | apply af | apply ab | apply ak mixed | apply ap mixed | with_reducible refine ac ?_ | simp (disch := omega) only [aW, aF, aK, aL, bg, zI, zH] | (refine aa ?_ ?_ <;> intro hc <;> (try simp only [hc]) <;> try simp at hc) | (with_reducible refine ⟨?_, ?_⟩; (focus ((repeat' with_reducible refine ⟨?_, ?_⟩) <;> first | exact trivial | assumption | (simp; done) | (simp only [zA] at *; omega) | omega | (simp [fs]; done)))) | (with_reducible intro x hx) | omega) <;> (try simp only [c2, Nat.reduceBEq, reduceIte, fw, fd]))
theorem vV (a b : List (Int × Int)) (ha : a.length ≤ 140737488351232) (hb : b.length ≤ 140737488351232) : aP Tryz.prog 116 [L (aV .i64 .i64 a), L (aV .i64 .i64 b)] (.bool (decide (a = b))) := by
 refine bf Tryz.func116 low116 (by simp [c116]) ?_
 simp only [c116]
 by_cases hl : ¬ a.length = b.length
 ·have c1 := gp hl
  rw [cY hl]
  repeat' ((first | apply ah | apply al | apply ao | apply av | refine aq rfl ?_ | apply ai | apply af | apply ab | apply ak mixed | apply ap mixed | with_reducible refine ac ?_ | simp (disch := omega) only [aW, aF, aK, aL, bg, zI, zH] | (refine aa ?_ ?_ <;> intro hc <;> (try simp only [hc]) <;> try simp at hc) | (with_reducible refine ⟨?_, ?_⟩; (focus ((repeat' with_reducible refine ⟨?_, ?_⟩) <;> first | exact trivial | assumption | (simp; done) | (simp only [zA] at *; omega) | omega | (simp [fs]; done)))) | (with_reducible intro x hx) | omega) <;> (try simp only [aD, Nat.reduceBEq, reduceIte, fw, fd]))
 have hl : a.length = b.length := by omega
 have c1 : ((a.length : Int) == (b.length : Int)) = true := by simp [hl]
 repeat' ((first | apply ah | apply al | apply ao | apply av | refine aq rfl ?_ | apply ai | apply af | apply ab | apply ak mixed | apply ap mixed | with_reducible refine ac ?_ | simp (disch := omega) only [aW, aF, aK, aL, bg, zI, zH] | (refine aa ?_ ?_ <;> intro hc <;> (try simp only [hc]) <;> try simp at hc) | (with_reducible refine ⟨?_, ?_⟩; (focus ((repeat' with_reducible refine ⟨?_, ?_⟩) <;> first | exact trivial | assumption | (simp; done) | (simp only [zA] at *; omega) | omega | (simp [fs]; done)))) | (with_reducible intro x hx) | omega) <;> (try simp only [aD, Nat.reduceBEq, reduceIte, fw, fd]))
 refine aM (ι := {i : Nat // i ≤ a.length ∧ a.take i = b.take i}) (fun i => ([(0, L (aV .i64 .i64 a)), (1, L (aV .i64 .i64 b)), (12, .int .i64 a.length), (13, .int .i64 i.1)], [])) (fun i => a.length - i.1) ⟨0, by simp⟩ ?_ ?_
 ·refine aC [] (by rfl) (by simp) (by simp [bx]) (by simp [fg])
 rintro ⟨i, hi, ht⟩ hk
 dsimp only at hk ⊢
 by_cases hlt : i < a.length
 ·have c2 : ((i : Int) < (a.length : Int)) = True := by simp; omega
  obtain ⟨x, hx⟩ : ∃ x, a[i]? = some x := ⟨_, zD hlt⟩
  obtain ⟨y, hy⟩ : ∃ y, b[i]? = some y := ⟨_, zD (by omega)⟩
  have rx := bu (k := .i64) (m := .i64) hx
  have ry := bu (k := .i64) (m := .i64) hy
  by_cases hxy : x = y
  ·have c3 : ((x.1 == y.1) && (x.2 == y.2)) = true := by rw [b2]; simpa using hxy
   repeat' ((first | apply ah | apply al | apply ao | apply av | refine aq rfl ?_ | apply ai | apply af | apply ab | apply ak mixed | apply ap mixed | with_reducible refine ac ?_ | simp (disch := omega) only [aW] | (refine aa ?_ ?_ <;> intro hc <;> (try simp only [hc]) <;> try simp at hc) | (with_reducible refine ⟨?_, ?_⟩; (focus ((repeat' with_reducible refine ⟨?_, ?_⟩) <;> first | exact trivial | assumption | (simp; done) | (simp only [zA] at *; omega) | omega | (simp [fs]; done)))) | (with_reducible intro x hx) | omega) <;> (try simp only [aD, c2, c3, rx, ry, Nat.reduceBEq, reduceIte, Nat.reduceAdd, cond_true, fw, fd]))
   refine hk ⟨i + 1, by omega, bw ht hx hy hxy⟩ _ _ (by dsimp only; omega) ?_
   dsimp only
   refine aC [] (by rfl) (by simp) (by simp [bx]) (by simp [fg])
  ·have c3 : ((x.1 == y.1) && (x.2 == y.2)) = false := by rw [b2]; simpa using hxy
   rw [cF hx hy hxy]
   repeat' ((first | apply ah | apply al | apply ao | apply av | refine aq rfl ?_ | apply ai | apply af | apply ab | apply ak mixed | apply ap mixed | with_reducible refine ac ?_ | simp (disch := omega) only [aW, aF, aK, aL, bg, zI, zH] | (refine aa ?_ ?_ <;> intro hc <;> (try simp only [hc]) <;> try simp at hc) | (with_reducible refine ⟨?_, ?_⟩; (focus ((repeat' with_reducible refine ⟨?_, ?_⟩) <;> first | exact trivial | assumption | (simp; done) | (simp only [zA] at *; omega) | omega | (simp [fs]; done)))) | (with_reducible intro x hx) | omega) <;> (try simp only [aD, c2, c3, rx, ry, Nat.reduceBEq, reduceIte, Nat.reduceAdd, cond_true, fw, fd]))
 ·have c2 : ((i : Int) < (a.length : Int)) = False := by simp; omega
  rw [bQ ht hlt hl]
  repeat' ((first | apply ah | apply al | apply ao | apply av | refine aq rfl ?_ | apply ai | apply af | apply ab | apply ak mixed | apply ap mixed | with_reducible refine ac ?_ | simp (disch := omega) only [aW, aF, aK, aL, bg, zI, zH] | (refine aa ?_ ?_ <;> intro hc <;> (try simp only [hc]) <;> try simp at hc) | (with_reducible refine ⟨?_, ?_⟩; (focus ((repeat' with_reducible refine ⟨?_, ?_⟩) <;> first | exact trivial | assumption | (simp; done) | (simp only [zA] at *; omega) | omega | (simp [fs]; done)))) | (with_reducible intro x hx) | omega) <;> (try simp only [c2, Nat.reduceBEq, reduceIte, fw, fd]))
theorem tr (a b : List (Int × Int)) (ha : a.length ≤ 140737488351232) (hb : b.length ≤ 140737488351232) : aP Tryz.prog 86 [L (aV .i64 .i64 a), L (aV .i64 .i64 b)] (.bool (decide (a = b))) := by
 refine bf Tryz.func86 low86 (by simp [c86]) ?_
 simp only [c86]
 by_cases hl : ¬ a.length = b.length
 ·have c1 := gp hl
  rw [cY hl]
  repeat' ((first | apply ah | apply al | apply ao | apply av | refine aq rfl ?_ | apply ai | apply af | apply ab | apply ak mixed | apply ap mixed | with_reducible refine ac ?_ | simp (disch := omega) only [aW, aF, aK, aL, bg, zI, zH] | (refine aa ?_ ?_ <;> intro hc <;> (try simp only [hc]) <;> try simp at hc) | (with_reducible refine ⟨?_, ?_⟩; (focus ((repeat' with_reducible refine ⟨?_, ?_⟩) <;> first | exact trivial | assumption | (simp; done) | (simp only [zA] at *; omega) | omega | (simp [fs]; done)))) | (with_reducible intro x hx) | omega) <;> (try simp only [aD, Nat.reduceBEq, reduceIte, fw, fd]))
 have hl : a.length = b.length := by omega
 have c1 : ((a.length : Int) == (b.length : Int)) = true := by simp [hl]
 repeat' ((first | apply ah | apply al | apply ao | apply av | refine aq rfl ?_ | apply ai | apply af | apply ab | apply ak mixed | apply ap mixed | with_reducible refine ac ?_ | simp (disch := omega) only [aW, aF, aK, aL, bg, zI, zH] | (refine aa ?_ ?_ <;> intro hc <;> (try simp only [hc]) <;> try simp at hc) | (with_reducible refine ⟨?_, ?_⟩; (focus ((repeat' with_reducible refine ⟨?_, ?_⟩) <;> first | exact trivial | assumption | (simp; done) | (simp only [zA] at *; omega) | omega | (simp [fs]; done)))) | (with_reducible intro x hx) | omega) <;> (try simp only [aD, Nat.reduceBEq, reduceIte, fw, fd]))
 refine aM (ι := {i : Nat // i ≤ a.length ∧ a.take i = b.take i}) (fun i => ([(0, L (aV .i64 .i64 a)), (1, L (aV .i64 .i64 b)), (12, .int .i64 a.length), (13, .int .i64 i.1)], [])) (fun i => a.length - i.1) ⟨0, by simp⟩ ?_ ?_
 ·refine aC [] (by rfl) (by simp) (by simp [bx]) (by simp [fg])
 rintro ⟨i, hi, ht⟩ hk
 dsimp only at hk ⊢
 by_cases hlt : i < a.length
 ·have c2 : ((i : Int) < (a.length : Int)) = True := by simp; omega
  obtain ⟨x, hx⟩ : ∃ x, a[i]? = some x := ⟨_, zD hlt⟩
  obtain ⟨y, hy⟩ : ∃ y, b[i]? = some y := ⟨_, zD (by omega)⟩
  have rx := bu (k := .i64) (m := .i64) hx
  have ry := bu (k := .i64) (m := .i64) hy
  by_cases hxy : x = y
  ·have c3 : ((x.1 == y.1) && (x.2 == y.2)) = true := by rw [b2]; simpa using hxy
   repeat' ((first | apply ah | apply al | apply ao | apply av | refine aq rfl ?_ | apply ai | apply af | apply ab | apply ak mixed | apply ap mixed | with_reducible refine ac ?_ | simp (disch := omega) only [aW] | (refine aa ?_ ?_ <;> intro hc <;> (try simp only [hc]) <;> try simp at hc) | (with_reducible refine ⟨?_, ?_⟩; (focus ((repeat' with_reducible refine ⟨?_, ?_⟩) <;> first | exact trivial | assumption | (simp; done) | (simp only [zA] at *; omega) | omega | (simp [fs]; done)))) | (with_reducible intro x hx) | omega) <;> (try simp only [aD, c2, c3, rx, ry, Nat.reduceBEq, reduceIte, Nat.reduceAdd, cond_true, fw, fd]))
   refine hk ⟨i + 1, by omega, bw ht hx hy hxy⟩ _ _ (by dsimp only; omega) ?_
   dsimp only
   refine aC [] (by rfl) (by simp) (by simp [bx]) (by simp [fg])
  ·have c3 : ((x.1 == y.1) && (x.2 == y.2)) = false := by rw [b2]; simpa using hxy
   rw [cF hx hy hxy]
   repeat' ((first | apply ah | apply al | apply ao | apply av | refine aq rfl ?_ | apply ai | apply af | apply ab | apply ak mixed | apply ap mixed | with_reducible refine ac ?_ | simp (disch := omega) only [aW, aF, aK, aL, bg, zI, zH] | (refine aa ?_ ?_ <;> intro hc <;> (try simp only [hc]) <;> try simp at hc) | (with_reducible refine ⟨?_, ?_⟩; (focus ((repeat' with_reducible refine ⟨?_, ?_⟩) <;> first | exact trivial | assumption | (simp; done) | (simp only [zA] at *; omega) | omega | (simp [fs]; done)))) | (with_reducible intro x hx) | omega) <;> (try simp only [aD, c2, c3, rx, ry, Nat.reduceBEq, reduceIte, Nat.reduceAdd, cond_true, fw, fd]))
 ·have c2 : ((i : Int) < (a.length : Int)) = False := by simp; omega
  rw [bQ ht hlt hl]
  repeat' ((first | apply ah | apply al | apply ao | apply av | refine aq rfl ?_ | apply ai | apply af | apply ab | apply ak mixed | apply ap mixed | with_reducible refine ac ?_ | simp (disch := omega) only [aW, aF, aK, aL, bg, zI, zH] | (refine aa ?_ ?_ <;> intro hc <;> (try simp only [hc]) <;> try simp at hc) | (with_reducible refine ⟨?_, ?_⟩; (focus ((repeat' with_reducible refine ⟨?_, ?_⟩) <;> first | exact trivial | assumption | (simp; done) | (simp only [zA] at *; omega) | omega | (simp [fs]; done)))) | (with_reducible intro x hx) | omega) <;> (try simp only [c2, Nat.reduceBEq, reduceIte, fw, fd]))
theorem tv (a b : List (Int × Int)) (ha : a.length ≤ 140737488351232) (hb : b.length ≤ 140737488351232) : aP Tryz.prog 114 [L (aV .u32 .i64 a), L (aV .u32 .i64 b)] (.bool (decide (a = b))) := by
 refine bf Tryz.func114 low114 (by simp [c114]) ?_
 simp only [c114]
 by_cases hl : ¬ a.length = b.length
 ·have c1 := gp hl
  rw [cY hl]
  repeat' ((first | apply ah | apply al | apply ao | apply av | refine aq rfl ?_ | apply ai | apply af | apply ab | apply ak mixed | apply ap mixed | with_reducible refine ac ?_ | simp (disch := omega) only [aW, aF, aK, aL, bg, zI, zH] | (refine aa ?_ ?_ <;> intro hc <;> (try simp only [hc]) <;> try simp at hc) | (with_reducible refine ⟨?_, ?_⟩; (focus ((repeat' with_reducible refine ⟨?_, ?_⟩) <;> first | exact trivial | assumption | (simp; done) | (simp only [zA] at *; omega) | omega | (simp [fs]; done)))) | (with_reducible intro x hx) | omega) <;> (try simp only [aD, Nat.reduceBEq, reduceIte, fw, fd]))
 have hl : a.length = b.length := by omega
 have c1 : ((a.length : Int) == (b.length : Int)) = true := by simp [hl]
 repeat' ((first | apply ah | apply al | apply ao | apply av | refine aq rfl ?_ | apply ai | apply af | apply ab | apply ak mixed | apply ap mixed | with_reducible refine ac ?_ | simp (disch := omega) only [aW, aF, aK, aL, bg, zI, zH] | (refine aa ?_ ?_ <;> intro hc <;> (try simp only [hc]) <;> try simp at hc) | (with_reducible refine ⟨?_, ?_⟩; (focus ((repeat' with_reducible refine ⟨?_, ?_⟩) <;> first | exact trivial | assumption | (simp; done) | (simp only [zA] at *; omega) | omega | (simp [fs]; done)))) | (with_reducible intro x hx) | omega) <;> (try simp only [aD, Nat.reduceBEq, reduceIte, fw, fd]))
 refine aM (ι := {i : Nat // i ≤ a.length ∧ a.take i = b.take i}) (fun i => ([(0, L (aV .u32 .i64 a)), (1, L (aV .u32 .i64 b)), (12, .int .i64 a.length), (13, .int .i64 i.1)], [])) (fun i => a.length - i.1) ⟨0, by simp⟩ ?_ ?_
 ·refine aC [] (by rfl) (by simp) (by simp [bx]) (by simp [fg])
 rintro ⟨i, hi, ht⟩ hk
 dsimp only at hk ⊢
 by_cases hlt : i < a.length
 ·have c2 : ((i : Int) < (a.length : Int)) = True := by simp; omega
  obtain ⟨x, hx⟩ : ∃ x, a[i]? = some x := ⟨_, zD hlt⟩
  obtain ⟨y, hy⟩ : ∃ y, b[i]? = some y := ⟨_, zD (by omega)⟩
  have rx := bu (k := .u32) (m := .i64) hx
  have ry := bu (k := .u32) (m := .i64) hy
  by_cases hxy : x = y
  ·have c3 : ((x.1 == y.1) && (x.2 == y.2)) = true := by rw [b2]; simpa using hxy
   repeat' ((first | apply ah | apply al | apply ao | apply av | refine aq rfl ?_ | apply ai | apply af | apply ab | apply ak mixed | apply ap mixed | with_reducible refine ac ?_ | simp (disch := omega) only [aW] | (refine aa ?_ ?_ <;> intro hc <;> (try simp only [hc]) <;> try simp at hc) | (with_reducible refine ⟨?_, ?_⟩; (focus ((repeat' with_reducible refine ⟨?_, ?_⟩) <;> first | exact trivial | assumption | (simp; done) | (simp only [zA] at *; omega) | omega | (simp [fs]; done)))) | (with_reducible intro x hx) | omega) <;> (try simp only [aD, c2, c3, rx, ry, Nat.reduceBEq, reduceIte, Nat.reduceAdd, cond_true, fw, fd]))
   refine hk ⟨i + 1, by omega, bw ht hx hy hxy⟩ _ _ (by dsimp only; omega) ?_
   dsimp only
   refine aC [] (by rfl) (by simp) (by simp [bx]) (by simp [fg])
  ·have c3 : ((x.1 == y.1) && (x.2 == y.2)) = false := by rw [b2]; simpa using hxy
   rw [cF hx hy hxy]
   repeat' ((first | apply ah | apply al | apply ao | apply av | refine aq rfl ?_ | apply ai | apply af | apply ab | apply ak mixed | apply ap mixed | with_reducible refine ac ?_ | simp (disch := omega) only [aW, aF, aK, aL, bg, zI, zH] | (refine aa ?_ ?_ <;> intro hc <;> (try simp only [hc]) <;> try simp at hc) | (with_reducible refine ⟨?_, ?_⟩; (focus ((repeat' with_reducible refine ⟨?_, ?_⟩) <;> first | exact trivial | assumption | (simp; done) | (simp only [zA] at *; omega) | omega | (simp [fs]; done)))) | (with_reducible intro x hx) | omega) <;> (try simp only [aD, c2, c3, rx, ry, Nat.reduceBEq, reduceIte, Nat.reduceAdd, cond_true, fw, fd]))
 ·have c2 : ((i : Int) < (a.length : Int)) = False := by simp; omega
  rw [bQ ht hlt hl]
  repeat' ((first | apply ah | apply al | apply ao | apply av | refine aq rfl ?_ | apply ai | apply af | apply ab | apply ak mixed | apply ap mixed | with_reducible refine ac ?_ | simp (disch := omega) only [aW, aF, aK, aL, bg, zI, zH] | (refine aa ?_ ?_ <;> intro hc <;> (try simp only [hc]) <;> try simp at hc) | (with_reducible refine ⟨?_, ?_⟩; (focus ((repeat' with_reducible refine ⟨?_, ?_⟩) <;> first | exact trivial | assumption | (simp; done) | (simp only [zA] at *; omega) | omega | (simp [fs]; done)))) | (with_reducible intro x hx) | omega) <;> (try simp only [c2, Nat.reduceBEq, reduceIte, fw, fd]))
theorem tq (a b : List (Int × Int)) (ha : a.length ≤ 140737488351232) (hb : b.length ≤ 140737488351232) : aP Tryz.prog 115 [L (aV .u32 .u32 a), L (aV .u32 .u32 b)] (.bool (decide (a = b))) := by
 refine bf Tryz.func115 low115 (by simp [c115]) ?_
 simp only [c115]
 by_cases hl : ¬ a.length = b.length
 ·have c1 := gp hl
  rw [cY hl]
  repeat' ((first | apply ah | apply al | apply ao | apply av | refine aq rfl ?_ | apply ai | apply af | apply ab | apply ak mixed | apply ap mixed | with_reducible refine ac ?_ | simp (disch := omega) only [aW, aF, aK, aL, bg, zI, zH] | (refine aa ?_ ?_ <;> intro hc <;> (try simp only [hc]) <;> try simp at hc) | (with_reducible refine ⟨?_, ?_⟩; (focus ((repeat' with_reducible refine ⟨?_, ?_⟩) <;> first | exact trivial | assumption | (simp; done) | (simp only [zA] at *; omega) | omega | (simp [fs]; done)))) | (with_reducible intro x hx) | omega) <;> (try simp only [aD, Nat.reduceBEq, reduceIte, fw, fd]))
 have hl : a.length = b.length := by omega
 have c1 : ((a.length : Int) == (b.length : Int)) = true := by simp [hl]
 repeat' ((first | apply ah | apply al | apply ao | apply av | refine aq rfl ?_ | apply ai | apply af | apply ab | apply ak mixed | apply ap mixed | with_reducible refine ac ?_ | simp (disch := omega) only [aW, aF, aK, aL, bg, zI, zH] | (refine aa ?_ ?_ <;> intro hc <;> (try simp only [hc]) <;> try simp at hc) | (with_reducible refine ⟨?_, ?_⟩; (focus ((repeat' with_reducible refine ⟨?_, ?_⟩) <;> first | exact trivial | assumption | (simp; done) | (simp only [zA] at *; omega) | omega | (simp [fs]; done)))) | (with_reducible intro x hx) | omega) <;> (try simp only [aD, Nat.reduceBEq, reduceIte, fw, fd]))
 refine aM (ι := {i : Nat // i ≤ a.length ∧ a.take i = b.take i}) (fun i => ([(0, L (aV .u32 .u32 a)), (1, L (aV .u32 .u32 b)), (12, .int .i64 a.length), (13, .int .i64 i.1)], [])) (fun i => a.length - i.1) ⟨0, by simp⟩ ?_ ?_
 ·refine aC [] (by rfl) (by simp) (by simp [bx]) (by simp [fg])
 rintro ⟨i, hi, ht⟩ hk
 dsimp only at hk ⊢
 by_cases hlt : i < a.length
 ·have c2 : ((i : Int) < (a.length : Int)) = True := by simp; omega
  obtain ⟨x, hx⟩ : ∃ x, a[i]? = some x := ⟨_, zD hlt⟩
  obtain ⟨y, hy⟩ : ∃ y, b[i]? = some y := ⟨_, zD (by omega)⟩
  have rx := bu (k := .u32) (m := .u32) hx
  have ry := bu (k := .u32) (m := .u32) hy
  by_cases hxy : x = y
  ·have c3 : ((x.1 == y.1) && (x.2 == y.2)) = true := by rw [b2]; simpa using hxy
   repeat' ((first | apply ah | apply al | apply ao | apply av | refine aq rfl ?_ | apply ai | apply af | apply ab | apply ak mixed | apply ap mixed | with_reducible refine ac ?_ | simp (disch := omega) only [aW] | (refine aa ?_ ?_ <;> intro hc <;> (try simp only [hc]) <;> try simp at hc) | (with_reducible refine ⟨?_, ?_⟩; (focus ((repeat' with_reducible refine ⟨?_, ?_⟩) <;> first | exact trivial | assumption | (simp; done) | (simp only [zA] at *; omega) | omega | (simp [fs]; done)))) | (with_reducible intro x hx) | omega) <;> (try simp only [aD, c2, c3, rx, ry, Nat.reduceBEq, reduceIte, Nat.reduceAdd, cond_true, fw, fd]))
   refine hk ⟨i + 1, by omega, bw ht hx hy hxy⟩ _ _ (by dsimp only; omega) ?_
   dsimp only
   refine aC [] (by rfl) (by simp) (by simp [bx]) (by simp [fg])
  ·have c3 : ((x.1 == y.1) && (x.2 == y.2)) = false := by rw [b2]; simpa using hxy
   rw [cF hx hy hxy]
   repeat' ((first | apply ah | apply al | apply ao | apply av | refine aq rfl ?_ | apply ai | apply af | apply ab | apply ak mixed | apply ap mixed | with_reducible refine ac ?_ | simp (disch := omega) only [aW, aF, aK, aL, bg, zI, zH] | (refine aa ?_ ?_ <;> intro hc <;> (try simp only [hc]) <;> try simp at hc) | (with_reducible refine ⟨?_, ?_⟩; (focus ((repeat' with_reducible refine ⟨?_, ?_⟩) <;> first | exact trivial | assumption | (simp; done) | (simp only [zA] at *; omega) | omega | (simp [fs]; done)))) | (with_reducible intro x hx) | omega) <;> (try simp only [aD, c2, c3, rx, ry, Nat.reduceBEq, reduceIte, Nat.reduceAdd, cond_true, fw, fd]))
 ·have c2 : ((i : Int) < (a.length : Int)) = False := by simp; omega
  rw [bQ ht hlt hl]
  repeat' ((first | apply ah | apply al | apply ao | apply av | refine aq rfl ?_ | apply ai | apply af | apply ab | apply ak mixed | apply ap mixed | with_reducible refine ac ?_ | simp (disch := omega) only [aW, aF, aK, aL, bg, zI, zH] | (refine aa ?_ ?_ <;> intro hc <;> (try simp only [hc]) <;> try simp at hc) | (with_reducible refine ⟨?_, ?_⟩; (focus ((repeat' with_reducible refine ⟨?_, ?_⟩) <;> first | exact trivial | assumption | (simp; done) | (simp only [zA] at *; omega) | omega | (simp [fs]; done)))) | (with_reducible intro x hx) | omega) <;> (try simp only [c2, Nat.reduceBEq, reduceIte, fw, fd]))
theorem tu (a b : List (Int × Int)) (ha : a.length ≤ 140737488351232) (hb : b.length ≤ 140737488351232) : aP Tryz.prog 85 [L (aV .u32 .i64 a), L (aV .u32 .i64 b)] (.bool (decide (a = b))) := by
 refine bf Tryz.func85 low85 (by simp [c85]) ?_
 simp only [c85]
 by_cases hl : ¬ a.length = b.length
 ·have c1 := gp hl
  rw [cY hl]
  repeat' ((first | apply ah | apply al | apply ao | apply av | refine aq rfl ?_ | apply ai | apply af | apply ab | apply ak mixed | apply ap mixed | with_reducible refine ac ?_ | simp (disch := omega) only [aW, aF, aK, aL, bg, zI, zH] | (refine aa ?_ ?_ <;> intro hc <;> (try simp only [hc]) <;> try simp at hc) | (with_reducible refine ⟨?_, ?_⟩; (focus ((repeat' with_reducible refine ⟨?_, ?_⟩) <;> first | exact trivial | assumption | (simp; done) | (simp only [zA] at *; omega) | omega | (simp [fs]; done)))) | (with_reducible intro x hx) | omega) <;> (try simp only [aD, Nat.reduceBEq, reduceIte, fw, fd]))
 have hl : a.length = b.length := by omega
 have c1 : ((a.length : Int) == (b.length : Int)) = true := by simp [hl]
 repeat' ((first | apply ah | apply al | apply ao | apply av | refine aq rfl ?_ | apply ai | apply af | apply ab | apply ak mixed | apply ap mixed | with_reducible refine ac ?_ | simp (disch := omega) only [aW, aF, aK, aL, bg, zI, zH] | (refine aa ?_ ?_ <;> intro hc <;> (try simp only [hc]) <;> try simp at hc) | (with_reducible refine ⟨?_, ?_⟩; (focus ((repeat' with_reducible refine ⟨?_, ?_⟩) <;> first | exact trivial | assumption | (simp; done) | (simp only [zA] at *; omega) | omega | (simp [fs]; done)))) | (with_reducible intro x hx) | omega) <;> (try simp only [aD, Nat.reduceBEq, reduceIte, fw, fd]))
 refine aM (ι := {i : Nat // i ≤ a.length ∧ a.take i = b.take i}) (fun i => ([(0, L (aV .u32 .i64 a)), (1, L (aV .u32 .i64 b)), (12, .int .i64 a.length), (13, .int .i64 i.1)], [])) (fun i => a.length - i.1) ⟨0, by simp⟩ ?_ ?_
 ·refine aC [] (by rfl) (by simp) (by simp [bx]) (by simp [fg])
 rintro ⟨i, hi, ht⟩ hk
 dsimp only at hk ⊢
 by_cases hlt : i < a.length
 ·have c2 : ((i : Int) < (a.length : Int)) = True := by simp; omega
  obtain ⟨x, hx⟩ : ∃ x, a[i]? = some x := ⟨_, zD hlt⟩
  obtain ⟨y, hy⟩ : ∃ y, b[i]? = some y := ⟨_, zD (by omega)⟩
  have rx := bu (k := .u32) (m := .i64) hx
  have ry := bu (k := .u32) (m := .i64) hy
  by_cases hxy : x = y
  ·have c3 : ((x.1 == y.1) && (x.2 == y.2)) = true := by rw [b2]; simpa using hxy
   repeat' ((first | apply ah | apply al | apply ao | apply av | refine aq rfl ?_ | apply ai | apply af | apply ab | apply ak mixed | apply ap mixed | with_reducible refine ac ?_ | simp (disch := omega) only [aW] | (refine aa ?_ ?_ <;> intro hc <;> (try simp only [hc]) <;> try simp at hc) | (with_reducible refine ⟨?_, ?_⟩; (focus ((repeat' with_reducible refine ⟨?_, ?_⟩) <;> first | exact trivial | assumption | (simp; done) | (simp only [zA] at *; omega) | omega | (simp [fs]; done)))) | (with_reducible intro x hx) | omega) <;> (try simp only [aD, c2, c3, rx, ry, Nat.reduceBEq, reduceIte, Nat.reduceAdd, cond_true, fw, fd]))
   refine hk ⟨i + 1, by omega, bw ht hx hy hxy⟩ _ _ (by dsimp only; omega) ?_
   dsimp only
   refine aC [] (by rfl) (by simp) (by simp [bx]) (by simp [fg])
  ·have c3 : ((x.1 == y.1) && (x.2 == y.2)) = false := by rw [b2]; simpa using hxy
   rw [cF hx hy hxy]
   repeat' ((first | apply ah | apply al | apply ao | apply av | refine aq rfl ?_ | apply ai | apply af | apply ab | apply ak mixed | apply ap mixed | with_reducible refine ac ?_ | simp (disch := omega) only [aW, aF, aK, aL, bg, zI, zH] | (refine aa ?_ ?_ <;> intro hc <;> (try simp only [hc]) <;> try simp at hc) | (with_reducible refine ⟨?_, ?_⟩; (focus ((repeat' with_reducible refine ⟨?_, ?_⟩) <;> first | exact trivial | assumption | (simp; done) | (simp only [zA] at *; omega) | omega | (simp [fs]; done)))) | (with_reducible intro x hx) | omega) <;> (try simp only [aD, c2, c3, rx, ry, Nat.reduceBEq, reduceIte, Nat.reduceAdd, cond_true, fw, fd]))
 ·have c2 : ((i : Int) < (a.length : Int)) = False := by simp; omega
  rw [bQ ht hlt hl]
  repeat' ((first | apply ah | apply al | apply ao | apply av | refine aq rfl ?_ | apply ai | apply af | apply ab | apply ak mixed | apply ap mixed | with_reducible refine ac ?_ | simp (disch := omega) only [aW, aF, aK, aL, bg, zI, zH] | (refine aa ?_ ?_ <;> intro hc <;> (try simp only [hc]) <;> try simp at hc) | (with_reducible refine ⟨?_, ?_⟩; (focus ((repeat' with_reducible refine ⟨?_, ?_⟩) <;> first | exact trivial | assumption | (simp; done) | (simp only [zA] at *; omega) | omega | (simp [fs]; done)))) | (with_reducible intro x hx) | omega) <;> (try simp only [c2, Nat.reduceBEq, reduceIte, fw, fd]))
theorem lT (a b : List (Int × Int × Int)) (ha : a.length ≤ 140737488351232) (hb : b.length ≤ 140737488351232) : aP Tryz.prog 87 [L (bo a), L (bo b)] (.bool (decide (a = b))) := by
 refine bf Tryz.func87 low87 (by simp [c87]) ?_
 simp only [c87]
 by_cases hl : ¬ a.length = b.length
 ·have c1 := gp hl
  rw [cY hl]
  repeat' ((first | apply ah | apply al | apply ao | apply av | refine aq rfl ?_ | apply ai | apply af | apply ab | apply ak mixed | apply ap mixed | with_reducible refine ac ?_ | simp (disch := omega) only [aW, aF, aK, aL, bg, zI, zH] | (refine aa ?_ ?_ <;> intro hc <;> (try simp only [hc]) <;> try simp at hc) | (with_reducible refine ⟨?_, ?_⟩; (focus ((repeat' with_reducible refine ⟨?_, ?_⟩) <;> first | exact trivial | assumption | (simp; done) | (simp only [zA] at *; omega) | omega | (simp [fs]; done)))) | (with_reducible intro x hx) | omega) <;> (try simp only [aR, Nat.reduceBEq, reduceIte, fw, fd]))
 have hl : a.length = b.length := by omega
 have c1 : ((a.length : Int) == (b.length : Int)) = true := by simp [hl]
 repeat' ((first | apply ah | apply al | apply ao | apply av | refine aq rfl ?_ | apply ai | apply af | apply ab | apply ak mixed | apply ap mixed | with_reducible refine ac ?_ | simp (disch := omega) only [aW, aF, aK, aL, bg, zI, zH] | (refine aa ?_ ?_ <;> intro hc <;> (try simp only [hc]) <;> try simp at hc) | (with_reducible refine ⟨?_, ?_⟩; (focus ((repeat' with_reducible refine ⟨?_, ?_⟩) <;> first | exact trivial | assumption | (simp; done) | (simp only [zA] at *; omega) | omega | (simp [fs]; done)))) | (with_reducible intro x hx) | omega) <;> (try simp only [aR, Nat.reduceBEq, reduceIte, fw, fd]))
 refine aM (ι := {i : Nat // i ≤ a.length ∧ a.take i = b.take i}) (fun i => ([(0, L (bo a)), (1, L (bo b)), (12, .int .i64 a.length), (13, .int .i64 i.1)], [])) (fun i => a.length - i.1) ⟨0, by simp⟩ ?_ ?_
 ·refine aC [] (by rfl) (by simp) (by simp [bx]) (by simp [fg])
 rintro ⟨i, hi, ht⟩ hk
 dsimp only at hk ⊢
 by_cases hlt : i < a.length
 ·have c2 : ((i : Int) < (a.length : Int)) = True := by simp; omega
  obtain ⟨x, hx⟩ : ∃ x, a[i]? = some x := ⟨_, zD hlt⟩
  obtain ⟨y, hy⟩ : ∃ y, b[i]? = some y := ⟨_, zD (by omega)⟩
  have rx := dj hx
  have ry := dj hy
  by_cases hxy : x = y
  ·have c3 : ((x.1 == y.1) && ((x.2.1 == y.2.1) && (x.2.2 == y.2.2))) = true := by rw [b3]; simpa using hxy
   repeat' ((first | apply ah | apply al | apply ao | apply av | refine aq rfl ?_ | apply ai | apply af | apply ab | apply ak mixed | apply ap mixed | with_reducible refine ac ?_ | simp (disch := omega) only [aW] | (refine aa ?_ ?_ <;> intro hc <;> (try simp only [hc]) <;> try simp at hc) | (with_reducible refine ⟨?_, ?_⟩; (focus ((repeat' with_reducible refine ⟨?_, ?_⟩) <;> first | exact trivial | assumption | (simp; done) | (simp only [zA] at *; omega) | omega | (simp [fs]; done)))) | (with_reducible intro x hx) | omega) <;> (try simp only [aR, c2, c3, rx, ry, Nat.reduceBEq, reduceIte, Nat.reduceAdd, cond_true, fw, fd]))
   refine hk ⟨i + 1, by omega, bw ht hx hy hxy⟩ _ _ (by dsimp only; omega) ?_
   dsimp only
   refine aC [] (by rfl) (by simp) (by simp [bx]) (by simp [fg])
  ·have c3 : ((x.1 == y.1) && ((x.2.1 == y.2.1) && (x.2.2 == y.2.2))) = false := by rw [b3]; simpa using hxy
   rw [cF hx hy hxy]
   repeat' ((first | apply ah | apply al | apply ao | apply av | refine aq rfl ?_ | apply ai | apply af | apply ab | apply ak mixed | apply ap mixed | with_reducible refine ac ?_ | simp (disch := omega) only [aW, aF, aK, aL, bg, zI, zH] | (refine aa ?_ ?_ <;> intro hc <;> (try simp only [hc]) <;> try simp at hc) | (with_reducible refine ⟨?_, ?_⟩; (focus ((repeat' with_reducible refine ⟨?_, ?_⟩) <;> first | exact trivial | assumption | (simp; done) | (simp only [zA] at *; omega) | omega | (simp [fs]; done)))) | (with_reducible intro x hx) | omega) <;> (try simp only [aR, c2, c3, rx, ry, Nat.reduceBEq, reduceIte, Nat.reduceAdd, cond_true, fw, fd]))
 ·have c2 : ((i : Int) < (a.length : Int)) = False := by simp; omega
  rw [bQ ht hlt hl]
  repeat' ((first | apply ah | apply al | apply ao | apply av | refine aq rfl ?_ | apply ai | apply af | apply ab | apply ak mixed | apply ap mixed | with_reducible refine ac ?_ | simp (disch := omega) only [aW, aF, aK, aL, bg, zI, zH] | (refine aa ?_ ?_ <;> intro hc <;> (try simp only [hc]) <;> try simp at hc) | (with_reducible refine ⟨?_, ?_⟩; (focus ((repeat' with_reducible refine ⟨?_, ?_⟩) <;> first | exact trivial | assumption | (simp; done) | (simp only [zA] at *; omega) | omega | (simp [fs]; done)))) | (with_reducible intro x hx) | omega) <;> (try simp only [c2, Nat.reduceBEq, reduceIte, fw, fd]))
theorem pF (a b : List (Int × Int × Int)) (ha : a.length ≤ 140737488351232) (hb : b.length ≤ 140737488351232) : aP Tryz.prog 90 [L (bo a), L (bo b)] (.bool (decide (a = b))) := by
 refine bf Tryz.func90 low90 (by simp [c90]) ?_
 simp only [c90]
 by_cases hl : ¬ a.length = b.length
 ·have c1 := gp hl
  rw [cY hl]
  repeat' ((first | apply ah | apply al | apply ao | apply av | refine aq rfl ?_ | apply ai | apply af | apply ab | apply ak mixed | apply ap mixed | with_reducible refine ac ?_ | simp (disch := omega) only [aW, aF, aK, aL, bg, zI, zH] | (refine aa ?_ ?_ <;> intro hc <;> (try simp only [hc]) <;> try simp at hc) | (with_reducible refine ⟨?_, ?_⟩; (focus ((repeat' with_reducible refine ⟨?_, ?_⟩) <;> first | exact trivial | assumption | (simp; done) | (simp only [zA] at *; omega) | omega | (simp [fs]; done)))) | (with_reducible intro x hx) | omega) <;> (try simp only [aR, Nat.reduceBEq, reduceIte, fw, fd]))
 have hl : a.length = b.length := by omega
 have c1 : ((a.length : Int) == (b.length : Int)) = true := by simp [hl]
 repeat' ((first | apply ah | apply al | apply ao | apply av | refine aq rfl ?_ | apply ai | apply af | apply ab | apply ak mixed | apply ap mixed | with_reducible refine ac ?_ | simp (disch := omega) only [aW, aF, aK, aL, bg, zI, zH] | (refine aa ?_ ?_ <;> intro hc <;> (try simp only [hc]) <;> try simp at hc) | (with_reducible refine ⟨?_, ?_⟩; (focus ((repeat' with_reducible refine ⟨?_, ?_⟩) <;> first | exact trivial | assumption | (simp; done) | (simp only [zA] at *; omega) | omega | (simp [fs]; done)))) | (with_reducible intro x hx) | omega) <;> (try simp only [aR, Nat.reduceBEq, reduceIte, fw, fd]))
 refine aM (ι := {i : Nat // i ≤ a.length ∧ a.take i = b.take i}) (fun i => ([(0, L (bo a)), (1, L (bo b)), (12, .int .i64 a.length), (13, .int .i64 i.1)], [])) (fun i => a.length - i.1) ⟨0, by simp⟩ ?_ ?_
 ·refine aC [] (by rfl) (by simp) (by simp [bx]) (by simp [fg])
 rintro ⟨i, hi, ht⟩ hk
 dsimp only at hk ⊢
 by_cases hlt : i < a.length
 ·have c2 : ((i : Int) < (a.length : Int)) = True := by simp; omega
  obtain ⟨x, hx⟩ : ∃ x, a[i]? = some x := ⟨_, zD hlt⟩
  obtain ⟨y, hy⟩ : ∃ y, b[i]? = some y := ⟨_, zD (by omega)⟩
  have rx := dj hx
  have ry := dj hy
  by_cases hxy : x = y
  ·have c3 : ((x.1 == y.1) && ((x.2.1 == y.2.1) && (x.2.2 == y.2.2))) = true := by rw [b3]; simpa using hxy
   repeat' ((first | apply ah | apply al | apply ao | apply av | refine aq rfl ?_ | apply ai | apply af | apply ab | apply ak mixed | apply ap mixed | with_reducible refine ac ?_ | simp (disch := omega) only [aW] | (refine aa ?_ ?_ <;> intro hc <;> (try simp only [hc]) <;> try simp at hc) | (with_reducible refine ⟨?_, ?_⟩; (focus ((repeat' with_reducible refine ⟨?_, ?_⟩) <;> first | exact trivial | assumption | (simp; done) | (simp only [zA] at *; omega) | omega | (simp [fs]; done)))) | (with_reducible intro x hx) | omega) <;> (try simp only [aR, c2, c3, rx, ry, Nat.reduceBEq, reduceIte, Nat.reduceAdd, cond_true, fw, fd]))
   refine hk ⟨i + 1, by omega, bw ht hx hy hxy⟩ _ _ (by dsimp only; omega) ?_
   dsimp only
   refine aC [] (by rfl) (by simp) (by simp [bx]) (by simp [fg])
  ·have c3 : ((x.1 == y.1) && ((x.2.1 == y.2.1) && (x.2.2 == y.2.2))) = false := by rw [b3]; simpa using hxy
   rw [cF hx hy hxy]
   repeat' ((first | apply ah | apply al | apply ao | apply av | refine aq rfl ?_ | apply ai | apply af | apply ab | apply ak mixed | apply ap mixed | with_reducible refine ac ?_ | simp (disch := omega) only [aW, aF, aK, aL, bg, zI, zH] | (refine aa ?_ ?_ <;> intro hc <;> (try simp only [hc]) <;> try simp at hc) | (with_reducible refine ⟨?_, ?_⟩; (focus ((repeat' with_reducible refine ⟨?_, ?_⟩) <;> first | exact trivial | assumption | (simp; done) | (simp only [zA] at *; omega) | omega | (simp [fs]; done)))) | (with_reducible intro x hx) | omega) <;> (try simp only [aR, c2, c3, rx, ry, Nat.reduceBEq, reduceIte, Nat.reduceAdd, cond_true, fw, fd]))
 ·have c2 : ((i : Int) < (a.length : Int)) = False := by simp; omega
  rw [bQ ht hlt hl]
  repeat' ((first | apply ah | apply al | apply ao | apply av | refine aq rfl ?_ | apply ai | apply af | apply ab | apply ak mixed | apply ap mixed | with_reducible refine ac ?_ | simp (disch := omega) only [aW, aF, aK, aL, bg, zI, zH] | (refine aa ?_ ?_ <;> intro hc <;> (try simp only [hc]) <;> try simp at hc) | (with_reducible refine ⟨?_, ?_⟩; (focus ((repeat' with_reducible refine ⟨?_, ?_⟩) <;> first | exact trivial | assumption | (simp; done) | (simp only [zA] at *; omega) | omega | (simp [fs]; done)))) | (with_reducible intro x hx) | omega) <;> (try simp only [c2, Nat.reduceBEq, reduceIte, fw, fd]))
theorem qm (a b : Ru) (ha : a.fits) (hb : b.fits) : aP Tryz.prog 89 [.agg a.cells, .agg b.cells] (.bool (decide (a = b))) := by
 obtain ⟨f1, f2, f3, f4⟩ := ha
 obtain ⟨g1, g2, g3, g4⟩ := hb
 refine bf Tryz.func89 low89 (by simp [c89]) ?_
 have h4 := jO a.bm b.bm f1 g1
 have h5 := jO a.bmd b.bmd f2 g2
 have h6 := vV a.bd b.bd f3 g3
 have h7 := jO a.bsp b.bsp f4 g4
 obtain ⟨a0, a1, a2, a3, a4, a5, a6, a7, a8⟩ := a
 obtain ⟨b0, b1, b2, b3, b4, b5, b6, b7, b8⟩ := b
 dsimp only at h4 h5 h6 h7
 have e : decide (Ru.mk a0 a1 a2 a3 a4 a5 a6 a7 a8 = Ru.mk b0 b1 b2 b3 b4 b5 b6 b7 b8) = ((a0 == b0) && ((a1 == b1) && ((a2 == b2) && ((a3 == b3) && ((a8 == b8) && (decide (a4 = b4) && (decide (a5 = b5) && (decide (a6 = b6) && decide (a7 = b7))))))))) := by
  rw [zN]
  simp only [zP, beq_iff_eq, zO, Ru.mk.injEq]
  exact ⟨fun ⟨p0, p1, p2, p3, p4, p5, p6, p7, p8⟩ => ⟨p0, p1, p2, p3, p8, p4, p5, p6, p7⟩, fun ⟨p0, p1, p2, p3, p8, p4, p5, p6, p7⟩ => ⟨p0, p1, p2, p3, p4, p5, p6, p7, p8⟩⟩
 rw [e]
 clear e
 generalize decide (a4 = b4) = x4 at h4 ⊢
 generalize decide (a5 = b5) = x5 at h5 ⊢
 generalize decide (a6 = b6) = x6 at h6 ⊢
 generalize decide (a7 = b7) = x7 at h7 ⊢
 simp only [c89, Ru.cells]
 repeat' ((first | apply ah | apply ai | apply af | apply ak mixed | (with_reducible first | refine ac ?_ | refine ar ?_) | refine ae (h4) ?_ ?_ | refine ae (h5) ?_ ?_ | refine ae (h6) ?_ ?_ | refine ae (h7) ?_ ?_ | (refine aj ?_ ?_ <;> intro hc <;> (try simp only [hc]) <;> try simp at hc) | (with_reducible refine ⟨?_, ?_⟩; (focus ((repeat' with_reducible refine ⟨?_, ?_⟩) <;> first | exact trivial | assumption | (simp; done) | (simp only [zA] at *; omega) | omega | (simp [fs]; done)))) | (with_reducible intro x hx) | omega) <;> (try simp only [Nat.reduceBEq, reduceIte, Nat.reduceAdd, reduceCtorEq, cond_true, cond_false, ne_eq, fw, fd]))
 all_goals (rw [zN]; simp [*]; try (exact fun h1 h2 => absurd h2 (hc h1)))
theorem rn (a b : Se) (ha : a.fits) (hb : b.fits) : aP Tryz.prog 43 [.agg a.cells, .agg b.cells] (.bool (decide (a = b))) := by
 obtain ⟨f1, f2, f3⟩ := ha
 obtain ⟨g1, g2, g3⟩ := hb
 refine bf Tryz.func43 low43 (by simp [c43]) ?_
 have h1 := tr a.turns b.turns f1 g1
 have h2 := lT a.shifts b.shifts f2 g2
 have h3 := jO a.off b.off f3 g3
 obtain ⟨a0, a1, a2, a3, a4, a5⟩ := a
 obtain ⟨b0, b1, b2, b3, b4, b5⟩ := b
 dsimp only at h1 h2 h3
 have e : decide (Se.mk a0 a1 a2 a3 a4 a5 = Se.mk b0 b1 b2 b3 b4 b5) = ((a0 == b0) && (decide (a1 = b1) && (decide (a2 = b2) && (decide (a3 = b3) && ((a4 == b4) && (a5 == b5)))))) := by
  rw [zN]
  simp only [zP, beq_iff_eq, zO, Se.mk.injEq]
 rw [e]
 clear e
 generalize decide (a1 = b1) = x1 at h1 ⊢
 generalize decide (a2 = b2) = x2 at h2 ⊢
 generalize decide (a3 = b3) = x3 at h3 ⊢
 simp only [c43, Se.cells]
 repeat' ((first | apply ah | apply ai | apply af | apply ak mixed | (with_reducible first | refine ac ?_ | refine ar ?_) | refine ae (h1) ?_ ?_ | refine ae (h2) ?_ ?_ | refine ae (h3) ?_ ?_ | (refine aj ?_ ?_ <;> intro hc <;> (try simp only [hc]) <;> try simp at hc) | (with_reducible refine ⟨?_, ?_⟩; (focus ((repeat' with_reducible refine ⟨?_, ?_⟩) <;> first | exact trivial | assumption | (simp; done) | (simp only [zA] at *; omega) | omega | (simp [fs]; done)))) | (with_reducible intro x hx) | omega) <;> (try simp only [Nat.reduceBEq, reduceIte, Nat.reduceAdd, reduceCtorEq, cond_true, cond_false, ne_eq, fw, fd]))
 all_goals (rw [zN]; simp [*]; try (exact fun h1 h2 => absurd h2 (hc h1)))
theorem rk (a b : Ev) (ha : a.fits) (hb : b.fits) : aP Tryz.prog 46 [.agg a.cells, .agg b.cells] (.bool (decide (a = b))) := by
 obtain ⟨f1, f2, f3, f4⟩ := ha
 obtain ⟨g1, g2, g3, g4⟩ := hb
 refine bf Tryz.func46 low46 (by simp [c46]) ?_
 have h4 := qm a.rule b.rule f1 g1
 have h5 := mY a.ex b.ex f2 g2
 have h6 := mY a.plus b.plus f3 g3
 have h7 := pF a.ch b.ch f4 g4
 obtain ⟨a0, a1, a2, a3, a4, a5, a6, a7⟩ := a
 obtain ⟨b0, b1, b2, b3, b4, b5, b6, b7⟩ := b
 dsimp only at h4 h5 h6 h7
 have e : decide (Ev.mk a0 a1 a2 a3 a4 a5 a6 a7 = Ev.mk b0 b1 b2 b3 b4 b5 b6 b7) = ((a0 == b0) && ((a1 == b1) && ((a3 == b3) && ((a2 == b2) && (decide (a4 = b4) && (decide (a5 = b5) && (decide (a6 = b6) && decide (a7 = b7)))))))) := by
  rw [zN]
  simp only [zP, beq_iff_eq, zO, Ev.mk.injEq]
  exact ⟨fun ⟨p0, p1, p2, p3, p4, p5, p6, p7⟩ => ⟨p0, p1, p3, p2, p4, p5, p6, p7⟩, fun ⟨p0, p1, p3, p2, p4, p5, p6, p7⟩ => ⟨p0, p1, p2, p3, p4, p5, p6, p7⟩⟩
 rw [e]
 clear e
 generalize decide (a4 = b4) = x4 at h4 ⊢
 generalize decide (a5 = b5) = x5 at h5 ⊢
 generalize decide (a6 = b6) = x6 at h6 ⊢
 generalize decide (a7 = b7) = x7 at h7 ⊢
 simp only [c46, Ev.cells]
 simp only [Ru.cells] at h4
 repeat' ((first | apply ah | apply ai | apply af | apply ak mixed | (with_reducible first | refine ac ?_ | refine ar ?_) | refine ae (h4) ?_ ?_ | refine ae (h5) ?_ ?_ | refine ae (h6) ?_ ?_ | refine ae (h7) ?_ ?_ | (refine aj ?_ ?_ <;> intro hc <;> (try simp only [hc]) <;> try simp at hc) | (with_reducible refine ⟨?_, ?_⟩; (focus ((repeat' with_reducible refine ⟨?_, ?_⟩) <;> first | exact trivial | assumption | (simp; done) | (simp only [zA] at *; omega) | omega | (simp [fs]; done)))) | (with_reducible intro x hx) | omega) <;> (try simp only [Nat.reduceBEq, reduceIte, Nat.reduceAdd, Nat.reduceLeDiff, reduceCtorEq, cond_true, cond_false, ne_eq, fw, fd]))
 all_goals (rw [zN]; simp [*]; try (exact fun h1 h2 => absurd h2 (hc h1)))
theorem rl (a b : Qu) (ha : a.fits) (hb : b.fits) : aP Tryz.prog 83 [.agg a.cells, .agg b.cells] (.bool (decide (a = b))) := by
 obtain ⟨f1, f2, f3, f4⟩ := ha
 obtain ⟨g1, g2, g3, g4⟩ := hb
 refine bf Tryz.func83 low83 (by simp [c83]) ?_
 have h4 := vW a.must b.must f1 g1
 have h5 := tv a.may b.may f2 g2
 have h7 := tq a.apart b.apart f3 g3
 have h8 := lT a.prefer b.prefer f4 g4
 obtain ⟨a0, a1, a2, a3, a4, a5, a6, a7, a8⟩ := a
 obtain ⟨b0, b1, b2, b3, b4, b5, b6, b7, b8⟩ := b
 dsimp only at h4 h5 h7 h8
 have e : decide (Qu.mk a0 a1 a2 a3 a4 a5 a6 a7 a8 = Qu.mk b0 b1 b2 b3 b4 b5 b6 b7 b8) = ((a0 == b0) && ((a1 == b1) && ((a2 == b2) && ((a3 == b3) && (decide (a4 = b4) && (decide (a5 = b5) && ((a6 == b6) && (decide (a7 = b7) && decide (a8 = b8))))))))) := by
  rw [zN]
  simp only [zP, beq_iff_eq, zO, Qu.mk.injEq]
 rw [e]
 clear e
 generalize decide (a4 = b4) = x4 at h4 ⊢
 generalize decide (a5 = b5) = x5 at h5 ⊢
 generalize decide (a7 = b7) = x7 at h7 ⊢
 generalize decide (a8 = b8) = x8 at h8 ⊢
 simp only [c83, Qu.cells]
 repeat' ((first | apply ah | apply ai | apply af | apply ak mixed | (with_reducible first | refine ac ?_ | refine ar ?_) | refine ae (h4) ?_ ?_ | refine ae (h5) ?_ ?_ | refine ae (h7) ?_ ?_ | refine ae (h8) ?_ ?_ | (refine aj ?_ ?_ <;> intro hc <;> (try simp only [hc]) <;> try simp at hc) | (with_reducible refine ⟨?_, ?_⟩; (focus ((repeat' with_reducible refine ⟨?_, ?_⟩) <;> first | exact trivial | assumption | (simp; done) | (simp only [zA] at *; omega) | omega | (simp [fs]; done)))) | (with_reducible intro x hx) | omega) <;> (try simp only [Nat.reduceBEq, reduceIte, Nat.reduceAdd, Nat.reduceLeDiff, reduceCtorEq, cond_true, cond_false, ne_eq, fw, fd]))
 all_goals (rw [zN]; simp [*]; try (exact fun h1 h2 => absurd h2 (hc h1)))
theorem wv (a b : Po) (ha : a.fits) (hb : b.fits) : aP Tryz.prog 40 [.agg a.row, .agg b.row] (.bool (decide (a = b))) := by
 obtain ⟨f1, f2, f3⟩ := ha
 obtain ⟨g1, g2, g3⟩ := hb
 refine bf Tryz.func40 low40 (by simp [c40]) ?_
 have h2 := rl a.qu b.qu f1 g1
 have h3 := mY a.slots b.slots f2 g2
 have h4 := tu a.votes b.votes f3 g3
 obtain ⟨a0, a1, a2, a3, a4, a5, a6, a7⟩ := a
 obtain ⟨b0, b1, b2, b3, b4, b5, b6, b7⟩ := b
 dsimp only at h2 h3 h4
 have e : decide (Po.mk a0 a1 a2 a3 a4 a5 a6 a7 = Po.mk b0 b1 b2 b3 b4 b5 b6 b7) = ((a0 == b0) && ((a1 == b1) && (decide (a2 = b2) && (decide (a3 = b3) && (decide (a4 = b4) && ((a5 == b5) && ((a6 == b6) && (a7 == b7)))))))) := by
  rw [zN]
  simp only [zP, beq_iff_eq, zO, Po.mk.injEq]
 rw [e]
 clear e
 generalize decide (a2 = b2) = x2 at h2 ⊢
 generalize decide (a3 = b3) = x3 at h3 ⊢
 generalize decide (a4 = b4) = x4 at h4 ⊢
 simp only [c40, Po.row]
 simp only [Qu.cells] at h2
 repeat' ((first | apply ah | apply ai | apply af | apply ak mixed | (with_reducible first | refine ac ?_ | refine ar ?_) | refine ae (h2) ?_ ?_ | refine ae (h3) ?_ ?_ | refine ae (h4) ?_ ?_ | (refine aj ?_ ?_ <;> intro hc <;> (try simp only [hc]) <;> try simp at hc) | (with_reducible refine ⟨?_, ?_⟩; (focus ((repeat' with_reducible refine ⟨?_, ?_⟩) <;> first | exact trivial | assumption | (simp; done) | (simp only [zA] at *; omega) | omega | (simp [fs]; done)))) | (with_reducible intro x hx) | omega) <;> (try simp only [Nat.reduceBEq, reduceIte, Nat.reduceAdd, Nat.reduceLeDiff, reduceCtorEq, cond_true, cond_false, ne_eq, fw, fd]))
 all_goals (rw [zN]; simp [*]; try (exact fun h1 h2 => absurd h2 (hc h1)))
end Go.Proofs.YtgefljdclekadaaGreat

namespace Go.Proofs.YtgefljdclekadaaGreat
open Go Go.Vi
deriving instance DecidableEq for As
theorem str_self (s : ByteArray) : (s == s) = true := by rw [nD]; simp
structure Re where
 err : Int
 ver : Int
 slots : List (Int × Int × Int)
 cursor : ByteArray
 po : Po
 deriving DecidableEq
def Re.cells (r : Re) : List D := [.int .i64 r.err, .int .u64 r.ver, L (bo r.slots), .str r.cursor, .int .u32 r.po.id, .int .u32 r.po.owner, .int .i64 r.po.qu.a, .int .i64 r.po.qu.b, .int .i64 r.po.qu.long, .int .i64 r.po.qu.grid, L (aJ .u32 r.po.qu.must), L (aV .u32 .i64 r.po.qu.may), .int .i64 r.po.qu.seats, L (aV .u32 .u32 r.po.qu.apart), L (bo r.po.qu.prefer), L (aJ .i64 r.po.slots), L (aV .u32 .i64 r.po.votes), .int .i64 r.po.til, .int .i64 r.po.state, .int .i64 r.po.winner]
def As.fits (a : As) : Prop := a.se.fits ∧ a.ev.fits ∧ a.qu.fits
def Re.fits (a : Re) : Prop := a.slots.length ≤ 140737488351232 ∧ a.po.fits
def As.great (a : As) : Bool := a.se.great || a.ev.great || a.qu.great || decide (200 < a.cursor.size)
def Re.great (a : Re) : Bool := decide (150 < a.slots.length) || decide (200 < a.cursor.size) || a.po.great
set_option maxHeartbeats 2000000 in
theorem wt (a b : As) (ha : a.fits) (hb : b.fits) : aP Tryz.prog 51 [.agg a.cells, .agg b.cells] (.bool (decide (a = b))) := by
 obtain ⟨f1, f2, f3⟩ := ha
 obtain ⟨g1, g2, g3⟩ := hb
 refine bf Tryz.func51 low51 (by simp [c51]) ?_
 have h5 := rn a.se b.se f1 g1
 have h6 := rk a.ev b.ev f2 g2
 have h7 := rl a.qu b.qu f3 g3
 obtain ⟨a0, a1, a2, a3, a4, a5, a6, a7, a8, a9, a10, a11, a12, a13⟩ := a
 obtain ⟨b0, b1, b2, b3, b4, b5, b6, b7, b8, b9, b10, b11, b12, b13⟩ := b
 dsimp only at h5 h6 h7
 have e : decide (As.mk a0 a1 a2 a3 a4 a5 a6 a7 a8 a9 a10 a11 a12 a13 = As.mk b0 b1 b2 b3 b4 b5 b6 b7 b8 b9 b10 b11 b12 b13) = ((a0 == b0) && ((a1 == b1) && ((a2 == b2) && ((a3 == b3) && ((a4 == b4) && (decide (a5 = b5) && (decide (a6 = b6) && (decide (a7 = b7) && ((a8 == b8) && ((a9 == b9) && ((a10 == b10) && ((a11 == b11) && ((a12 == b12) && (a13 == b13)))))))))))))) := by
  rw [zN]
  simp only [zP, nD, beq_iff_eq, zO, As.mk.injEq]
 rw [e]
 clear e
 generalize decide (a5 = b5) = x5 at h5 ⊢
 generalize decide (a6 = b6) = x6 at h6 ⊢
 generalize decide (a7 = b7) = x7 at h7 ⊢
 simp only [c51, As.cells]
 simp only [Se.cells, Ev.cells, Qu.cells] at h5 h6 h7
 repeat' ((first | apply ah | apply ai | apply af | apply ak mixed | (with_reducible first | refine ac ?_ | refine ar ?_) | refine ae (h5) ?_ ?_ | refine ae (h6) ?_ ?_ | refine ae (h7) ?_ ?_ | (refine aj ?_ ?_ <;> intro hc <;> (try simp only [hc]) <;> try simp at hc) | (with_reducible refine ⟨?_, ?_⟩; (focus ((repeat' with_reducible refine ⟨?_, ?_⟩) <;> first | exact trivial | assumption | (simp; done) | (simp only [zA] at *; omega) | omega | (simp [fs]; done)))) | (with_reducible intro x hx) | omega) <;> (try simp only [Nat.reduceBEq, reduceIte, Nat.reduceAdd, Nat.reduceLeDiff, reduceCtorEq, cond_true, cond_false, ne_eq, fw, fd]))
 all_goals (rw [zN]; simp [*, nD]; try (exact fun h1 h2 => absurd h2 (hc h1)))
theorem Re.eq_iff {a b : Re} : a = b ↔ (a.err = b.err ∧ a.ver = b.ver ∧ a.slots = b.slots ∧ a.cursor = b.cursor ∧ a.po = b.po) := by
 cases a; cases b; simp only [Re.mk.injEq]
end Go.Proofs.YtgefljdclekadaaGreat
