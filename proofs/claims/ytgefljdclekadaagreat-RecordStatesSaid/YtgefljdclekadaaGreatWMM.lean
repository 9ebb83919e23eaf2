import Derived.Test.YtgefljdclekadaaGreatWMH
import Derived.Test.YtgefljdclekadaaGreatVi25
import Derived.Test.YtgefljdclekadaaGreatWMK
import Derived.Test.YtgefljdclekadaaGreatWMI
set_option linter.unusedVariables false
set_option linter.unusedSimpArgs false
namespace Go.Proofs.YtgefljdclekadaaGreat
open Go Go.Vi
theorem kR {l : List Dn} {i : Nat} {x : Dn} (h : l[i]? = some x) : (eE l)[i]? = some [.int .u32 x.c, .int .u64 x.n, .int .u64 x.v] := by simp [eE, h, Dn.row]
theorem bDn {x y : Dn} : ((x.c == y.c) && ((x.n == y.n) && (x.v == y.v))) = decide (x = y) := by
 cases x; cases y
 rw [zN]
 simp only [zP, beq_iff_eq, zO, Dn.mk.injEq]
theorem tn (a b : List Dn) (ha : a.length ≤ 140737488351232) (hb : b.length ≤ 140737488351232) : aP Tryz.prog 38 [L (eE a), L (eE b)] (.bool (decide (a = b))) := by
 refine bf Tryz.func38 low38 (by simp [c38]) ?_
 simp only [c38]
 by_cases hl : ¬ a.length = b.length
 ·have c1 := gp hl
  rw [cY hl]
  repeat' ((first | apply ah | apply al | apply ao | apply av | refine aq rfl ?_ | apply ai | apply af | apply ab | apply ak mixed | apply ap mixed | with_reducible refine ac ?_ | simp (disch := omega) only [aW, aF, aK, aL, bg, zI, zH] | (refine aa ?_ ?_ <;> intro hc <;> (try simp only [hc]) <;> try simp at hc) | (with_reducible refine ⟨?_, ?_⟩; (focus ((repeat' with_reducible refine ⟨?_, ?_⟩) <;> first | exact trivial | assumption | (simp; done) | (simp only [zA] at *; omega) | omega | (simp [fs]; done)))) | (with_reducible intro x hx) | omega) <;> (try simp only [cL, Nat.reduceBEq, reduceIte, fw, fd]))
 have hl : a.length = b.length := by omega
 have c1 : ((a.length : Int) == (b.length : Int)) = true := by simp [hl]
 repeat' ((first | apply ah | apply al | apply ao | apply av | refine aq rfl ?_ | apply ai | apply af | apply ab | apply ak mixed | apply ap mixed | with_reducible refine ac ?_ | simp (disch := omega) only [aW, aF, aK, aL, bg, zI, zH] | (refine aa ?_ ?_ <;> intro hc <;> (try simp only [hc]) <;> try simp at hc) | (with_reducible refine ⟨?_, ?_⟩; (focus ((repeat' with_reducible refine ⟨?_, ?_⟩) <;> first | exact trivial | assumption | (simp; done) | (simp only [zA] at *; omega) | omega | (simp [fs]; done)))) | (with_reducible intro x hx) | omega) <;> (try simp only [cL, Nat.reduceBEq, reduceIte, fw, fd]))
 refine aM (ι := {i : Nat // i ≤ a.length ∧ a.take i = b.take i}) (fun i => ([(0, L (eE a)), (1, L (eE b)), (12, .int .i64 a.length), (13, .int .i64 i.1)], [])) (fun i => a.length - i.1) ⟨0, by simp⟩ ?_ ?_
 ·refine aC [] (by rfl) (by simp) (by simp [bx]) (by simp [fg])
 rintro ⟨i, hi, ht⟩ hk
 dsimp only at hk ⊢
 by_cases hlt : i < a.length
 ·have c2 : ((i : Int) < (a.length : Int)) = True := by simp; omega
  obtain ⟨x, hx⟩ : ∃ x, a[i]? = some x := ⟨_, zD hlt⟩
  obtain ⟨y, hy⟩ : ∃ y, b[i]? = some y := ⟨_, zD (by omega)⟩
  have rx := kR hx
  have ry := kR hy
  by_cases hxy : x = y
  ·have c3 : ((x.c == y.c) && ((x.n == y.n) && (x.v == y.v))) = true := by rw [bDn]; simpa using hxy
   repeat' ((first | apply ah | apply al | apply ao | apply av | refine aq rfl ?_ | apply ai | apply af | apply ab | apply ak mixed | apply ap mixed | with_reducible refine ac ?_ | simp (disch := omega) only [aW] | (refine aa ?_ ?_ <;> intro hc <;> (try simp only [hc]) <;> try simp at hc) | (with_reducible refine ⟨?_, ?_⟩; (focus ((repeat' with_reducible refine ⟨?_, ?_⟩) <;> first | exact trivial | assumption | (simp; done) | (simp only [zA] at *; omega) | omega | (simp [fs]; done)))) | (with_reducible intro x hx) | omega) <;> (try simp only [cL, c2, c3, rx, ry, Nat.reduceBEq, reduceIte, Nat.reduceAdd, cond_true, fw, fd]))
   refine hk ⟨i + 1, by omega, bw ht hx hy hxy⟩ _ _ (by dsimp only; omega) ?_
   dsimp only
   refine aC [] (by rfl) (by simp) (by simp [bx]) (by simp [fg])
  ·have c3 : ((x.c == y.c) && ((x.n == y.n) && (x.v == y.v))) = false := by rw [bDn]; simpa using hxy
   rw [cF hx hy hxy]
   repeat' ((first | apply ah | apply al | apply ao | apply av | refine aq rfl ?_ | apply ai | apply af | apply ab | apply ak mixed | apply ap mixed | with_reducible refine ac ?_ | simp (disch := omega) only [aW, aF, aK, aL, bg, zI, zH] | (refine aa ?_ ?_ <;> intro hc <;> (try simp only [hc]) <;> try simp at hc) | (with_reducible refine ⟨?_, ?_⟩; (focus ((repeat' with_reducible refine ⟨?_, ?_⟩) <;> first | exact trivial | assumption | (simp; done) | (simp only [zA] at *; omega) | omega | (simp [fs]; done)))) | (with_reducible intro x hx) | omega) <;> (try simp only [cL, c2, c3, rx, ry, Nat.reduceBEq, reduceIte, Nat.reduceAdd, cond_true, fw, fd]))
 ·have c2 : ((i : Int) < (a.length : Int)) = False := by simp; omega
  rw [bQ ht hlt hl]
  repeat' ((first | apply ah | apply al | apply ao | apply av | refine aq rfl ?_ | apply ai | apply af | apply ab | apply ak mixed | apply ap mixed | with_reducible refine ac ?_ | simp (disch := omega) only [aW, aF, aK, aL, bg, zI, zH] | (refine aa ?_ ?_ <;> intro hc <;> (try simp only [hc]) <;> try simp at hc) | (with_reducible refine ⟨?_, ?_⟩; (focus ((repeat' with_reducible refine ⟨?_, ?_⟩) <;> first | exact trivial | assumption | (simp; done) | (simp only [zA] at *; omega) | omega | (simp [fs]; done)))) | (with_reducible intro x hx) | omega) <;> (try simp only [c2, Nat.reduceBEq, reduceIte, fw, fd]))
set_option maxHeartbeats 4000000 in
theorem vY (a b : List Po) (ha : a.length ≤ 140737488351232) (hb : b.length ≤ 140737488351232) (fa : ∀ x ∈ a, x.fits) (fb : ∀ x ∈ b, x.fits) : aP Tryz.prog 39 [L (bO a), L (bO b), .fn 40 []] (.bool (decide (a = b))) := by
 refine bf Tryz.func39 low39 (by simp [c39]) ?_
 simp only [c39]
 by_cases hl : ¬ a.length = b.length
 ·have c1 := gp hl
  rw [cY hl]
  repeat' ((first | apply ah | apply al | apply ao | apply av | refine aq rfl ?_ | apply ai | apply af | apply ab | apply ak mixed | (with_reducible first | refine ac ?_ | refine ar ?_) | simp (disch := omega) only [aW, aF, aK, aL, bg, zI, zH] | (refine aa ?_ ?_ <;> intro hc <;> (try simp only [hc]) <;> try simp at hc) | (with_reducible refine ⟨?_, ?_⟩; (focus ((repeat' with_reducible refine ⟨?_, ?_⟩) <;> first | exact trivial | assumption | (simp; done) | (simp only [zA] at *; omega) | omega | (simp [fs]; done)))) | (with_reducible intro x hx) | omega) <;> (try simp only [dD, Nat.reduceBEq, reduceIte, Nat.reduceAdd, fw, fd]))
 have hl : a.length = b.length := by omega
 have c1 : ((a.length : Int) == (b.length : Int)) = true := by simp [hl]
 repeat' ((first | apply ah | apply al | apply ao | apply av | refine aq rfl ?_ | apply ai | apply af | apply ab | apply ak mixed | (with_reducible first | refine ac ?_ | refine ar ?_) | simp (disch := omega) only [aW, aF, aK, aL, bg, zI, zH] | (refine aa ?_ ?_ <;> intro hc <;> (try simp only [hc]) <;> try simp at hc) | (with_reducible refine ⟨?_, ?_⟩; (focus ((repeat' with_reducible refine ⟨?_, ?_⟩) <;> first | exact trivial | assumption | (simp; done) | (simp only [zA] at *; omega) | omega | (simp [fs]; done)))) | (with_reducible intro x hx) | omega) <;> (try simp only [dD, Nat.reduceBEq, reduceIte, Nat.reduceAdd, fw, fd]))
 refine aM (ι := {i : Nat // i ≤ a.length ∧ a.take i = b.take i}) (fun i => ([(1, L (bO b)), (2, .fn 40 []), (15, L (bO a)), (16, .int .i64 a.length), (17, .int .i64 i.1)], [])) (fun i => a.length - i.1) ⟨0, by simp⟩ ?_ ?_
 ·refine aC [] (by rfl) (by simp) (by simp [bx]) (by simp [fg])
 rintro ⟨i, hi, ht⟩ hk
 dsimp only at hk ⊢
 by_cases hlt : i < a.length
 ·have c2 : ((i : Int) < (a.length : Int)) = True := by simp; omega
  obtain ⟨x, hx⟩ : ∃ x, a[i]? = some x := ⟨_, zD hlt⟩
  obtain ⟨y, hy⟩ : ∃ y, b[i]? = some y := ⟨_, zD (by omega)⟩
  have rx := iR hx
  have ry := iR hy
  have h := wv x y (fa x (zE hx)) (fb y (zE hy))
  unfold Po.row at rx ry h
  by_cases hxy : x = y
  ·rw [decide_eq_true hxy] at h
   repeat' ((first | apply ah | apply al | apply ao | apply av | refine aq rfl ?_ | apply ai | apply af | apply ab | apply ak mixed | (with_reducible first | refine ac ?_ | refine ar ?_) | refine ae (h) ?_ ?_ | simp (disch := omega) only [aW] | (refine aa ?_ ?_ <;> intro hc <;> (try simp only [hc]) <;> try simp at hc) | (with_reducible refine ⟨?_, ?_⟩; (focus ((repeat' with_reducible refine ⟨?_, ?_⟩) <;> first | exact trivial | assumption | (simp; done) | (simp only [zA] at *; omega) | omega | (simp [fs]; done)))) | (with_reducible intro x hx) | omega) <;> (try simp only [dD, c2, rx, ry, Nat.reduceBEq, reduceIte, Nat.reduceAdd, reduceCtorEq, ne_eq, fw, fd]))
   refine hk ⟨i + 1, by omega, bw ht hx hy hxy⟩ _ _ (by dsimp only; omega) ?_
   dsimp only
   refine aC [] (by rfl) (by simp) (by simp [bx]) (by simp [fg])
  ·rw [decide_eq_false hxy] at h
   rw [cF hx hy hxy]
   repeat' ((first | apply ah | apply al | apply ao | apply av | refine aq rfl ?_ | apply ai | apply af | apply ab | apply ak mixed | (with_reducible first | refine ac ?_ | refine ar ?_) | refine ae (h) ?_ ?_ | simp (disch := omega) only [aW, aF, aK, aL, bg, zI, zH] | (refine aa ?_ ?_ <;> intro hc <;> (try simp only [hc]) <;> try simp at hc) | (with_reducible refine ⟨?_, ?_⟩; (focus ((repeat' with_reducible refine ⟨?_, ?_⟩) <;> first | exact trivial | assumption | (simp; done) | (simp only [zA] at *; omega) | omega | (simp [fs]; done)))) | (with_reducible intro x hx) | omega) <;> (try simp only [dD, c2, rx, ry, Nat.reduceBEq, reduceIte, Nat.reduceAdd, reduceCtorEq, ne_eq, fw, fd]))
 ·have c2 : ((i : Int) < (a.length : Int)) = False := by simp; omega
  rw [bQ ht hlt hl]
  repeat' ((first | apply ah | apply al | apply ao | apply av | refine aq rfl ?_ | apply ai | apply af | apply ab | apply ak mixed | (with_reducible first | refine ac ?_ | refine ar ?_) | simp (disch := omega) only [aW, aF, aK, aL, bg, zI, zH] | (refine aa ?_ ?_ <;> intro hc <;> (try simp only [hc]) <;> try simp at hc) | (with_reducible refine ⟨?_, ?_⟩; (focus ((repeat' with_reducible refine ⟨?_, ?_⟩) <;> first | exact trivial | assumption | (simp; done) | (simp only [zA] at *; omega) | omega | (simp [fs]; done)))) | (with_reducible intro x hx) | omega) <;> (try simp only [c2, Nat.reduceBEq, reduceIte, fw, fd]))
theorem wu (a b : En) (ha : a.ev.fits) (hb : b.ev.fits) : aP Tryz.prog 45 [.agg a.row, .agg b.row] (.bool (decide (a = b))) := by
 refine bf Tryz.func45 low45 (by simp [c45]) ?_
 have h2 := rk a.ev b.ev ha hb
 obtain ⟨a0, a1⟩ := a
 obtain ⟨b0, b1⟩ := b
 dsimp only at h2
 have e : decide (En.mk a0 a1 = En.mk b0 b1) = ((a0 == b0) && decide (a1 = b1)) := by
  rw [zN]
  simp only [zP, beq_iff_eq, zO, En.mk.injEq]
 rw [e]
 clear e
 generalize decide (a1 = b1) = x2 at h2 ⊢
 simp only [c45, En.row]
 simp only [Ev.cells] at h2
 repeat' ((first | apply ah | apply ai | apply af | apply ak mixed | (with_reducible first | refine ac ?_ | refine ar ?_) | refine ae (h2) ?_ ?_ | (refine aj ?_ ?_ <;> intro hc <;> (try simp only [hc]) <;> try simp at hc) | (with_reducible refine ⟨?_, ?_⟩; (focus ((repeat' with_reducible refine ⟨?_, ?_⟩) <;> first | exact trivial | assumption | (simp; done) | (simp only [zA] at *; omega) | omega | (simp [fs]; done)))) | (with_reducible intro x hx) | omega) <;> (try simp only [Nat.reduceBEq, reduceIte, Nat.reduceAdd, reduceCtorEq, cond_true, cond_false, ne_eq, fw, fd]))
 all_goals (rw [zN]; simp [*]; try (exact fun h1 h2 => absurd h2 (hc h1)))
def En.fitS (e : En) : Prop := e.ev.fits
theorem uC (a b : En) (ha : a.fitS) (hb : b.fitS) : aP Tryz.prog 45 [.agg a.row, .agg b.row] (.bool (decide (a = b))) := wu a b ha hb
set_option maxHeartbeats 4000000 in
theorem vX (a b : List En) (ha : a.length ≤ 140737488351232) (hb : b.length ≤ 140737488351232) (fa : ∀ x ∈ a, x.fitS) (fb : ∀ x ∈ b, x.fitS) : aP Tryz.prog 44 [L (cW a), L (cW b), .fn 45 []] (.bool (decide (a = b))) := by
 refine bf Tryz.func44 low44 (by simp [c44]) ?_
 simp only [c44]
 by_cases hl : ¬ a.length = b.length
 ·have c1 := gp hl
  rw [cY hl]
  repeat' ((first | apply ah | apply al | apply ao | apply av | refine aq rfl ?_ | apply ai | apply af | apply ab | apply ak mixed | (with_reducible first | refine ac ?_ | refine ar ?_) | simp (disch := omega) only [aW, aF, aK, aL, bg, zI, zH] | (refine aa ?_ ?_ <;> intro hc <;> (try simp only [hc]) <;> try simp at hc) | (with_reducible refine ⟨?_, ?_⟩; (focus ((repeat' with_reducible refine ⟨?_, ?_⟩) <;> first | exact trivial | assumption | (simp; done) | (simp only [zA] at *; omega) | omega | (simp [fs]; done)))) | (with_reducible intro x hx) | omega) <;> (try simp only [fq, Nat.reduceBEq, reduceIte, Nat.reduceAdd, fw, fd]))
 have hl : a.length = b.length := by omega
 have c1 : ((a.length : Int) == (b.length : Int)) = true := by simp [hl]
 repeat' ((first | apply ah | apply al | apply ao | apply av | refine aq rfl ?_ | apply ai | apply af | apply ab | apply ak mixed | (with_reducible first | refine ac ?_ | refine ar ?_) | simp (disch := omega) only [aW, aF, aK, aL, bg, zI, zH] | (refine aa ?_ ?_ <;> intro hc <;> (try simp only [hc]) <;> try simp at hc) | (with_reducible refine ⟨?_, ?_⟩; (focus ((repeat' with_reducible refine ⟨?_, ?_⟩) <;> first | exact trivial | assumption | (simp; done) | (simp only [zA] at *; omega) | omega | (simp [fs]; done)))) | (with_reducible intro x hx) | omega) <;> (try simp only [fq, Nat.reduceBEq, reduceIte, Nat.reduceAdd, fw, fd]))
 refine aM (ι := {i : Nat // i ≤ a.length ∧ a.take i = b.take i}) (fun i => ([(1, L (cW b)), (2, .fn 45 []), (15, L (cW a)), (16, .int .i64 a.length), (17, .int .i64 i.1)], [])) (fun i => a.length - i.1) ⟨0, by simp⟩ ?_ ?_
 ·refine aC [] (by rfl) (by simp) (by simp [bx]) (by simp [fg])
 rintro ⟨i, hi, ht⟩ hk
 dsimp only at hk ⊢
 by_cases hlt : i < a.length
 ·have c2 : ((i : Int) < (a.length : Int)) = True := by simp; omega
  obtain ⟨x, hx⟩ : ∃ x, a[i]? = some x := ⟨_, zD hlt⟩
  obtain ⟨y, hy⟩ : ∃ y, b[i]? = some y := ⟨_, zD (by omega)⟩
  have rx := kQ hx
  have ry := kQ hy
  have h := uC x y (fa x (zE hx)) (fb y (zE hy))
  unfold En.row at rx ry h
  by_cases hxy : x = y
  ·rw [decide_eq_true hxy] at h
   repeat' ((first | apply ah | apply al | apply ao | apply av | refine aq rfl ?_ | apply ai | apply af | apply ab | apply ak mixed | (with_reducible first | refine ac ?_ | refine ar ?_) | refine ae (h) ?_ ?_ | simp (disch := omega) only [aW] | (refine aa ?_ ?_ <;> intro hc <;> (try simp only [hc]) <;> try simp at hc) | (with_reducible refine ⟨?_, ?_⟩; (focus ((repeat' with_reducible refine ⟨?_, ?_⟩) <;> first | exact trivial | assumption | (simp; done) | (simp only [zA] at *; omega) | omega | (simp [fs]; done)))) | (with_reducible intro x hx) | omega) <;> (try simp only [fq, c2, rx, ry, Nat.reduceBEq, reduceIte, Nat.reduceAdd, reduceCtorEq, ne_eq, fw, fd]))
   refine hk ⟨i + 1, by omega, bw ht hx hy hxy⟩ _ _ (by dsimp only; omega) ?_
   dsimp only
   refine aC [] (by rfl) (by simp) (by simp [bx]) (by simp [fg])
  ·rw [decide_eq_false hxy] at h
   rw [cF hx hy hxy]
   repeat' ((first | apply ah | apply al | apply ao | apply av | refine aq rfl ?_ | apply ai | apply af | apply ab | apply ak mixed | (with_reducible first | refine ac ?_ | refine ar ?_) | refine ae (h) ?_ ?_ | simp (disch := omega) only [aW, aF, aK, aL, bg, zI, zH] | (refine aa ?_ ?_ <;> intro hc <;> (try simp only [hc]) <;> try simp at hc) | (with_reducible refine ⟨?_, ?_⟩; (focus ((repeat' with_reducible refine ⟨?_, ?_⟩) <;> first | exact trivial | assumption | (simp; done) | (simp only [zA] at *; omega) | omega | (simp [fs]; done)))) | (with_reducible intro x hx) | omega) <;> (try simp only [fq, c2, rx, ry, Nat.reduceBEq, reduceIte, Nat.reduceAdd, reduceCtorEq, ne_eq, fw, fd]))
 ·have c2 : ((i : Int) < (a.length : Int)) = False := by simp; omega
  rw [bQ ht hlt hl]
  repeat' ((first | apply ah | apply al | apply ao | apply av | refine aq rfl ?_ | apply ai | apply af | apply ab | apply ak mixed | (with_reducible first | refine ac ?_ | refine ar ?_) | simp (disch := omega) only [aW, aF, aK, aL, bg, zI, zH] | (refine aa ?_ ?_ <;> intro hc <;> (try simp only [hc]) <;> try simp at hc) | (with_reducible refine ⟨?_, ?_⟩; (focus ((repeat' with_reducible refine ⟨?_, ?_⟩) <;> first | exact trivial | assumption | (simp; done) | (simp only [zA] at *; omega) | omega | (simp [fs]; done)))) | (with_reducible intro x hx) | omega) <;> (try simp only [c2, Nat.reduceBEq, reduceIte, fw, fd]))
theorem ww (a b : Us) (ha : a.fit) (hb : b.fit) : aP Tryz.prog 42 [.agg a.row, .agg b.row] (.bool (decide (a = b))) := by
 obtain ⟨f1, f2, f3⟩ := ha
 obtain ⟨g1, g2, g3⟩ := hb
 refine bf Tryz.func42 low42 (by simp [c42]) ?_
 have h2 := rn a.se b.se f1 g1
 have h3 := vX a.evs b.evs f2 g2 f3 g3
 obtain ⟨a0, a1, a2, a3⟩ := a
 obtain ⟨b0, b1, b2, b3⟩ := b
 dsimp only at h2 h3
 have e : decide (Us.mk a0 a1 a2 a3 = Us.mk b0 b1 b2 b3) = ((a0 == b0) && ((a2 == b2) && (decide (a1 = b1) && decide (a3 = b3)))) := by
  rw [zN]
  simp only [zP, beq_iff_eq, zO, Us.mk.injEq]
  exact ⟨fun ⟨x1, x2, x3, x4⟩ => ⟨x1, x3, x2, x4⟩, fun ⟨x1, x2, x3, x4⟩ => ⟨x1, x3, x2, x4⟩⟩
 rw [e]
 clear e
 generalize decide (a1 = b1) = x1 at h2 ⊢
 generalize decide (a3 = b3) = x3 at h3 ⊢
 simp only [c42, Us.row]
 simp only [Se.cells] at h2
 repeat' ((first | apply ah | apply ai | apply af | apply ak mixed | (with_reducible first | refine ac ?_ | refine ar ?_) | refine ae (h2) ?_ ?_ | refine ae (h3) ?_ ?_ | (refine aj ?_ ?_ <;> intro hc <;> (try simp only [hc]) <;> try simp at hc) | (with_reducible refine ⟨?_, ?_⟩; (focus ((repeat' with_reducible refine ⟨?_, ?_⟩) <;> first | exact trivial | assumption | (simp; done) | (simp only [zA] at *; omega) | omega | (simp [fs]; done)))) | (with_reducible intro x hx) | omega) <;> (try simp only [Nat.reduceBEq, reduceIte, Nat.reduceAdd, Nat.reduceLeDiff, reduceCtorEq, cond_true, cond_false, ne_eq, fw, fd]))
 all_goals (rw [zN]; simp [*]; try (exact fun h1 h2 => absurd h2 (hc h1)))
set_option maxHeartbeats 4000000 in
theorem vZ (a b : List Us) (ha : a.length ≤ 140737488351232) (hb : b.length ≤ 140737488351232) (fa : ∀ x ∈ a, x.fit) (fb : ∀ x ∈ b, x.fit) : aP Tryz.prog 41 [L (bP a), L (bP b), .fn 42 []] (.bool (decide (a = b))) := by
 refine bf Tryz.func41 low41 (by simp [c41]) ?_
 simp only [c41]
 by_cases hl : ¬ a.length = b.length
 ·have c1 := gp hl
  rw [cY hl]
  repeat' ((first | apply ah | apply al | apply ao | apply av | refine aq rfl ?_ | apply ai | apply af | apply ab | apply ak mixed | (with_reducible first | refine ac ?_ | refine ar ?_) | simp (disch := omega) only [aW, aF, aK, aL, bg, zI, zH] | (refine aa ?_ ?_ <;> intro hc <;> (try simp only [hc]) <;> try simp at hc) | (with_reducible refine ⟨?_, ?_⟩; (focus ((repeat' with_reducible refine ⟨?_, ?_⟩) <;> first | exact trivial | assumption | (simp; done) | (simp only [zA] at *; omega) | omega | (simp [fs]; done)))) | (with_reducible intro x hx) | omega) <;> (try simp only [dE, Nat.reduceBEq, reduceIte, Nat.reduceAdd, fw, fd]))
 have hl : a.length = b.length := by omega
 have c1 : ((a.length : Int) == (b.length : Int)) = true := by simp [hl]
 repeat' ((first | apply ah | apply al | apply ao | apply av | refine aq rfl ?_ | apply ai | apply af | apply ab | apply ak mixed | (with_reducible first | refine ac ?_ | refine ar ?_) | simp (disch := omega) only [aW, aF, aK, aL, bg, zI, zH] | (refine aa ?_ ?_ <;> intro hc <;> (try simp only [hc]) <;> try simp at hc) | (with_reducible refine ⟨?_, ?_⟩; (focus ((repeat' with_reducible refine ⟨?_, ?_⟩) <;> first | exact trivial | assumption | (simp; done) | (simp only [zA] at *; omega) | omega | (simp [fs]; done)))) | (with_reducible intro x hx) | omega) <;> (try simp only [dE, Nat.reduceBEq, reduceIte, Nat.reduceAdd, fw, fd]))
 refine aM (ι := {i : Nat // i ≤ a.length ∧ a.take i = b.take i}) (fun i => ([(1, L (bP b)), (2, .fn 42 []), (15, L (bP a)), (16, .int .i64 a.length), (17, .int .i64 i.1)], [])) (fun i => a.length - i.1) ⟨0, by simp⟩ ?_ ?_
 ·refine aC [] (by rfl) (by simp) (by simp [bx]) (by simp [fg])
 rintro ⟨i, hi, ht⟩ hk
 dsimp only at hk ⊢
 by_cases hlt : i < a.length
 ·have c2 : ((i : Int) < (a.length : Int)) = True := by simp; omega
  obtain ⟨x, hx⟩ : ∃ x, a[i]? = some x := ⟨_, zD hlt⟩
  obtain ⟨y, hy⟩ : ∃ y, b[i]? = some y := ⟨_, zD (by omega)⟩
  have rx := iS hx
  have ry := iS hy
  have h := ww x y (fa x (zE hx)) (fb y (zE hy))
  unfold Us.row at rx ry h
  by_cases hxy : x = y
  ·rw [decide_eq_true hxy] at h
   repeat' ((first | apply ah | apply al | apply ao | apply av | refine aq rfl ?_ | apply ai | apply af | apply ab | apply ak mixed | (with_reducible first | refine ac ?_ | refine ar ?_) | refine ae (h) ?_ ?_ | simp (disch := omega) only [aW] | (refine aa ?_ ?_ <;> intro hc <;> (try simp only [hc]) <;> try simp at hc) | (with_reducible refine ⟨?_, ?_⟩; (focus ((repeat' with_reducible refine ⟨?_, ?_⟩) <;> first | exact trivial | assumption | (simp; done) | (simp only [zA] at *; omega) | omega | (simp [fs]; done)))) | (with_reducible intro x hx) | omega) <;> (try simp only [dE, c2, rx, ry, Nat.reduceBEq, reduceIte, Nat.reduceAdd, reduceCtorEq, ne_eq, fw, fd]))
   refine hk ⟨i + 1, by omega, bw ht hx hy hxy⟩ _ _ (by dsimp only; omega) ?_
   dsimp only
   refine aC [] (by rfl) (by simp) (by simp [bx]) (by simp [fg])
  ·rw [decide_eq_false hxy] at h
   rw [cF hx hy hxy]
   repeat' ((first | apply ah | apply al | apply ao | apply av | refine aq rfl ?_ | apply ai | apply af | apply ab | apply ak mixed | (with_reducible first | refine ac ?_ | refine ar ?_) | refine ae (h) ?_ ?_ | simp (disch := omega) only [aW, aF, aK, aL, bg, zI, zH] | (refine aa ?_ ?_ <;> intro hc <;> (try simp only [hc]) <;> try simp at hc) | (with_reducible refine ⟨?_, ?_⟩; (focus ((repeat' with_reducible refine ⟨?_, ?_⟩) <;> first | exact trivial | assumption | (simp; done) | (simp only [zA] at *; omega) | omega | (simp [fs]; done)))) | (with_reducible intro x hx) | omega) <;> (try simp only [dE, c2, rx, ry, Nat.reduceBEq, reduceIte, Nat.reduceAdd, reduceCtorEq, ne_eq, fw, fd]))
 ·have c2 : ((i : Int) < (a.length : Int)) = False := by simp; omega
  rw [bQ ht hlt hl]
  repeat' ((first | apply ah | apply al | apply ao | apply av | refine aq rfl ?_ | apply ai | apply af | apply ab | apply ak mixed | (with_reducible first | refine ac ?_ | refine ar ?_) | simp (disch := omega) only [aW, aF, aK, aL, bg, zI, zH] | (refine aa ?_ ?_ <;> intro hc <;> (try simp only [hc]) <;> try simp at hc) | (with_reducible refine ⟨?_, ?_⟩; (focus ((repeat' with_reducible refine ⟨?_, ?_⟩) <;> first | exact trivial | assumption | (simp; done) | (simp only [zA] at *; omega) | omega | (simp [fs]; done)))) | (with_reducible intro x hx) | omega) <;> (try simp only [c2, Nat.reduceBEq, reduceIte, fw, fd]))
theorem kN (a b : dp) (ha : a.fits) (hb : b.fits) : aP Tryz.prog 14 [.agg a.cells, .agg b.cells] (.bool (decide (a = b))) := by
 obtain ⟨f1, f2, f3, f4, f5⟩ := ha
 obtain ⟨g1, g2, g3, g4, g5⟩ := hb
 refine bf Tryz.func14 low14 (by simp [c14]) ?_
 have h2 := vZ a.us b.us (by omega) (by omega) f4 g4
 have h3 := vY a.ps b.ps (by omega) (by omega) f5 g5
 have h4 := tn a.ds b.ds (by omega) (by omega)
 obtain ⟨a0, a1, a2, a3⟩ := a
 obtain ⟨b0, b1, b2, b3⟩ := b
 dsimp only at h2 h3 h4
 have e : decide (dp.mk a0 a1 a2 a3 = dp.mk b0 b1 b2 b3) = ((a0 == b0) && (decide (a3 = b3) && (decide (a2 = b2) && decide (a1 = b1)))) := by
  rw [zN]
  simp only [zP, beq_iff_eq, zO, dp.mk.injEq]
  exact ⟨fun ⟨x1, x2, x3, x4⟩ => ⟨x1, x4, x3, x2⟩, fun ⟨x1, x2, x3, x4⟩ => ⟨x1, x4, x3, x2⟩⟩
 rw [e]
 clear e
 generalize decide (a1 = b1) = x1 at h2 ⊢
 generalize decide (a2 = b2) = x2 at h3 ⊢
 generalize decide (a3 = b3) = x3 at h4 ⊢
 simp only [c14, dp.cells]
 repeat' ((first | apply ah | apply ai | apply af | apply ak mixed | (with_reducible first | refine ac ?_ | refine ar ?_) | refine ae (h2) ?_ ?_ | refine ae (h3) ?_ ?_ | refine ae (h4) ?_ ?_ | (refine aj ?_ ?_ <;> intro hc <;> (try simp only [hc]) <;> try simp at hc) | (with_reducible refine ⟨?_, ?_⟩; (focus ((repeat' with_reducible refine ⟨?_, ?_⟩) <;> first | exact trivial | assumption | (simp; done) | (simp only [zA] at *; omega) | omega | (simp [fs]; done)))) | (with_reducible intro x hx) | omega) <;> (try simp only [Nat.reduceBEq, reduceIte, Nat.reduceAdd, reduceCtorEq, cond_true, cond_false, ne_eq, fw, fd]))
 all_goals (rw [zN]; simp [*]; try (exact fun h1 h2 => absurd h2 (hc h1)))
end Go.Proofs.YtgefljdclekadaaGreat

namespace Go.Proofs.YtgefljdclekadaaGreat
open Go Go.Vi
theorem xT {α : Type} {re : Rs → α × Rs} {e : α → List UInt8} {nm : α → α} : ∀ (l : List α) (a : List α) (t : List UInt8), (∀ y ∈ l, ∀ u, re ⟨e y ++ u, false, false⟩ = (nm y, ⟨u, false, false⟩)) → dz re l.length ⟨l.flatMap e ++ t, false, false⟩ a = (a ++ l.map nm, ⟨t, false, false⟩)
 | [], a, t, _ => by simp [dz]
 | y :: l, a, t, h => by
  have h1 := h y (List.mem_cons_self) (l.flatMap e ++ t)
  rw [List.flatMap_cons, zJ, zK, dz, h1]
  dsimp only
  rw [if_neg (by simp), xT l _ t (fun z hz => h z (List.mem_cons_of_mem _ hz)), zJ]
  rfl
theorem uX {α : Type} {re : Rs → α × Rs} {e : α → List UInt8} {x : α → Bool} {f : α → Prop} {nm : α → α} (most : Nat) (l : List α) (hm : most < 18446744073709551616) (hx : bn x most l = false) (hf : l.length ≤ 140737488351232 ∧ ∀ y ∈ l, f y) (h : ∀ y, f y → x y = false → ∀ u, re ⟨e y ++ u, false, false⟩ = (nm y, ⟨u, false, false⟩)) (t : List UInt8) :
  aG re most ⟨aY e l ++ t, false, false⟩ = (l.map nm, ⟨t, false, false⟩) := by
 unfold bn at hx
 simp only [zM] at hx
 unfold aG aY
 rw [zJ, zl most l.length (by omega) (by simpa using hx.1)]
 dsimp only
 rw [xT l [] t (fun y hy => h y (hf.2 y hy) (by
  have := hx.2
  rw [List.any_eq_false] at this
  simpa using this y hy)), List.nil_append]
theorem rtDn (x : Int × Int × Int) (hf : vq x) (hx : mH x = false) (t : List UInt8) : nR ⟨lQ x ++ t, false, false⟩ = (x, ⟨t, false, false⟩) := by
 unfold vq at hf
 unfold nR lQ
 simp only [zJ]
 simp only [sy 4294967295 x.1 (by omega) hf.1]
 simp only [sy 18446744073709551615 x.2.1 (by omega) hf.2.1]
 simp only [sy 18446744073709551615 x.2.2 (by omega) hf.2.2]
 rw [dX hf.1.1 (by have := hf.1.2; omega), dX hf.2.1.1 hf.2.1.2, dX hf.2.2.1 hf.2.2.2]
def nEn (x : En) : En := ⟨x.id, pl x.ev⟩
theorem rtEn (x : En) (hf : yR x) (hx : nU x = false) (t : List UInt8) : mw ⟨lr x ++ t, false, false⟩ = (nEn x, ⟨t, false, false⟩) := by
 unfold yR at hf
 unfold nU at hx
 unfold mw lr
 rw [zJ, sy 4294967295 x.id (by omega) hf.1]
 dsimp only
 rw [rtEv x.ev hf.2 hx]
 dsimp only
 rw [dX hf.1.1 (by have := hf.1.2; omega)]
 rfl
def zd (u : Us) : Us := ⟨u.id, u.se, u.ver, u.evs.map nEn⟩
theorem rtUs (u : Us) (hf : tz u) (hx : iW u = false) (t : List UInt8) : gW ⟨hU u ++ t, false, false⟩ = (zd u, ⟨t, false, false⟩) := by
 unfold tz at hf
 unfold iW at hx
 simp only [zM] at hx
 unfold gW hU
 simp only [zJ]
 rw [sy 4294967295 u.id (by omega) hf.1]
 try dsimp only
 rw [rtSe u.se hf.2.1 hx.1]
 try dsimp only
 rw [sy 18446744073709551615 u.ver (by omega) hf.2.2.1]
 try dsimp only
 rw [uX 64 u.evs (by omega) hx.2 hf.2.2.2 rtEn]
 try dsimp only
 rw [dX hf.1.1 (by have := hf.1.2; omega), dX hf.2.2.1.1 hf.2.2.1.2]
 rfl
def pR (s : Sq) : Sq := ⟨s.t, s.us.map zd, s.ps, s.ds⟩
theorem rtSq (s : Sq) (hf : sW s) (hx : sY s = false) (t : List UInt8) : nS ⟨gA s ++ t, false, false⟩ = (pR s, ⟨t, false, false⟩) := by
 unfold sW at hf
 unfold sY at hx
 simp only [zM] at hx
 unfold nS gA
 simp only [zJ]
 rw [sA s.t hf.1]
 try dsimp only
 rw [uX 100 s.us (by omega) hx.1 hf.2.1 rtUs]
 try dsimp only
 rw [ft 50 s.ps (by omega) hx.2.1 hf.2.2.1 rtPo]
 try dsimp only
 rw [ft 4096 s.ds (by omega) hx.2.2 hf.2.2.2 rtDn]
 try dsimp only
 rfl
def dp.sq (s : dp) : Sq := ⟨s.t, s.us, s.ps, s.ds.map fun d => (d.c, d.n, d.v)⟩
def Sq.sta (s : Sq) : dp := ⟨s.t, s.us, s.ps, s.ds.map fun d => ⟨d.1, d.2.1, d.2.2⟩⟩
theorem dp.sq_cells (s : dp) : s.sq.cells = s.cells := by
 unfold dp.sq Sq.cells dp.cells fY eE
 simp only [List.map_map]
 rfl
theorem Sq.sta_cells (s : Sq) : s.sta.cells = s.cells := by
 unfold Sq.sta Sq.cells dp.cells fY eE
 simp only [List.map_map]
 rfl
theorem dp.sq_sta (s : dp) : s.sq.sta = s := by
 obtain ⟨t, us, ps, ds⟩ := s
 unfold dp.sq Sq.sta
 simp only [List.map_map, dp.mk.injEq, true_and]
 conv => rhs; rw [← List.map_id ds]
 rfl
theorem wk {u : Us} (h : u.fit) : (zd u).fit := by
 obtain ⟨h1, h2, h3⟩ := h
 refine ⟨h1, by simpa [zd] using h2, fun e he => ?_⟩
 simp only [zd, List.mem_map] at he
 obtain ⟨e', he', rfl⟩ := he
 exact wn (h3 e' he')
theorem tZ {s : dp} (h : s.fits) : (pR s.sq).sta.fits := by
 obtain ⟨h1, h2, h3, h4, h5⟩ := h
 refine ⟨by simpa [pR, dp.sq, Sq.sta] using h1, h2, by simpa [pR, dp.sq, Sq.sta] using h3, fun u hu => ?_, h5⟩
 simp only [pR, dp.sq, Sq.sta, List.mem_map] at hu
 obtain ⟨u', hu', rfl⟩ := hu
 exact wk (h4 u' hu')
def rV (q : Sq × Rs) (b : List UInt8) : Bool := !q.2.cb && (!q.2.rb && q.2.l.isEmpty) && decide (b.length ≤ 1048576)
def Sz : Sq := ⟨0, [], [], []⟩
def jP (b : List UInt8) : D := .tup [.agg (if rV (nS ⟨b, false, false⟩) b = true then (nS ⟨b, false, false⟩).1.cells else Sz.cells), .bool (rV (nS ⟨b, false, false⟩) b)]
theorem kl (b : List UInt8) (hl : b.length ≤ 1099511627776) : aP Tryz.prog 16 [.list none false (r8 b)] (jP b) := by
 refine bf Tryz.func16 low16 (by simp [c16]) ?_
 unfold jP
 have ha : az Tryz.prog 34 [.ptr 0 0 0 1, .ptr 2 0 0 1] [Cr 1 false, Rd b false, Va 4 [.int .i64 0, .list (some true) true [], .list (some true) true [], .list (some true) true []]] (.tup []) [Cr 1 (nS ⟨b, false, false⟩).2.cb, Rd (nS ⟨b, false, false⟩).2.l (nS ⟨b, false, false⟩).2.rb, Va 4 (nS ⟨b, false, false⟩).1.cells] := cSq_r ⟨b, false, false⟩ 4 [.int .i64 0, .list (some true) true [], .list (some true) true [], .list (some true) true []] 0 rfl rfl rfl rfl (by omega) hl
 have hn := jB none false b hl
 generalize nS ⟨b, false, false⟩ = q at ha ⊢
 obtain ⟨v, s⟩ := q
 dsimp only at ha ⊢
 have hr := uB 1048576 b s.l s.rb s.cb hl (by omega)
 have hg : rV (v, s) b = (!s.cb && (!s.rb && s.l.isEmpty) && decide (b.length ≤ 1048576)) := rfl
 rw [← hg] at hr
 generalize rV (v, s) b = ok at hr ⊢
 clear hg
 simp only [c16]
 simp only [Sq.cells] at ha ⊢
 cases ok
 ·simp only [zS, reduceIte, Sz, bP, bO, fY, List.map_nil]
  repeat' ((first | apply ah | apply al | apply ai | apply af | apply ab | apply ak mixed | (with_reducible first | refine ac ?_ | refine aB (f := .c (.fn 30 [])) ?_ | refine aB (f := .c (.fn 34 [])) ?_ | refine aB (f := .c (.fn 31 [])) ?_ | refine ar ?_ | refine am (hn) (by simp) ?_ | refine am (ha) (by simp) ?_ | refine am (hr) (by simp) ?_) | (refine aa ?_ ?_ <;> intro hc <;> (try simp only [hc]) <;> try simp at hc) | (with_reducible refine ⟨?_, ?_⟩; (focus ((repeat' with_reducible refine ⟨?_, ?_⟩) <;> first | exact trivial | assumption | (simp; done) | (simp only [zA] at *; omega) | omega | (simp [fs]; done) | exact ax))) | (with_reducible intro x hx) | omega) <;> (try simp only [Nat.reduceBEq, reduceIte, Nat.reduceEqDiff, Nat.reduceAdd, Nat.reduceSub, Nat.reduceLT, Nat.reduceLeDiff, reduceCtorEq, ne_eq, fw, fd]))
 ·simp only [reduceIte]
  repeat' ((first | apply ah | apply al | apply ai | apply af | apply ab | apply ak mixed | (with_reducible first | refine ac ?_ | refine aB (f := .c (.fn 30 [])) ?_ | refine aB (f := .c (.fn 34 [])) ?_ | refine aB (f := .c (.fn 31 [])) ?_ | refine ar ?_ | refine am (hn) (by simp) ?_ | refine am (ha) (by simp) ?_ | refine am (hr) (by simp) ?_) | (refine aa ?_ ?_ <;> intro hc <;> (try simp only [hc]) <;> try simp at hc) | (with_reducible refine ⟨?_, ?_⟩; (focus ((repeat' with_reducible refine ⟨?_, ?_⟩) <;> first | exact trivial | assumption | (simp; done) | (simp only [zA] at *; omega) | omega | (simp [fs]; done) | exact ax))) | (with_reducible intro x hx) | omega) <;> (try simp only [Nat.reduceBEq, reduceIte, Nat.reduceEqDiff, Nat.reduceAdd, Nat.reduceSub, Nat.reduceLT, Nat.reduceLeDiff, reduceCtorEq, ne_eq, fw, fd]))
def nE (a : Sq) : Bool := !sY a && decide ((gA a).length ≤ 1048576)
def fF (s : dp) : Bool := nE s.sq && decide ((pR s.sq).sta = s)
def m8 (s : dp) : D := if fF s = true then .tup [.list none false (r8 (gA s.sq)), .bool true] else .tup [.list none false [], .bool false]
theorem jx {a : Sq} (hf : sW a) (h : nE a = true) : jP (gA a) = .tup [.agg (pR a).cells, .bool true] := by
 unfold nE at h
 simp only [zP, Bool.not_eq_true', zO] at h
 have e := rtSq a hf h.1 []
 rw [List.append_nil] at e
 have g : rV (pR a, ⟨[], false, false⟩) (gA a) = true := by unfold rV; simp [h.2]
 unfold jP
 rw [e, g]
 rfl
set_option maxHeartbeats 4000000 in
theorem pV (s : dp) (hf : sW s.sq) (hfit : s.fits) (hl : (gA s.sq).length ≤ 1099511627776) : aP Tryz.prog 12 [.agg s.cells] (m8 s) := by
 refine bf Tryz.func12 low12 (by simp [c12]) ?_
 simp only [c12]
 have h1 := jC
 have h2 := cSq_w [] false 4 s.sq.cells 0 s.sq rfl rfl rfl rfl hf (by simpa using hl)
 simp only [List.nil_append, Bool.false_or, zL] at h2
 have h3 := mG 1048576 (gA s.sq) (sY s.sq) hl (by omega) (nE s.sq) rfl
 have h4 := kl (gA s.sq) hl
 have h5 := kN (pR s.sq).sta s (tZ hfit) hfit
 unfold m8 fF
 rw [Sq.sta_cells] at h5
 rw [dp.sq_cells] at h2
 cases hw : nE s.sq
 ·rw [hw] at h3
  simp only [zS, reduceIte, Bool.false_and] at h3 ⊢
  clear h4 h5
  unfold dp.cells at h2 ⊢
  repeat' ((first | apply ah | apply al | apply ai | apply af | apply ab | apply ak mixed | (with_reducible first | refine ac ?_ | refine aB (f := .c (.fn 19 [])) ?_ | refine aB (f := .c (.fn 34 [])) ?_ | refine aB (f := .c (.fn 21 [])) ?_ | refine ar ?_ | refine am (h1) (by simp) ?_ | refine am (h2) (by simp) ?_ | refine am (h3) (by simp) ?_) | ((first | refine aj ?_ ?_ | refine aa ?_ ?_) <;> intro hc <;> (try simp only [hc]) <;> try simp at hc) | (with_reducible refine ⟨?_, ?_⟩; (focus ((repeat' with_reducible refine ⟨?_, ?_⟩) <;> first | exact trivial | assumption | (simp; done) | (simp only [zA] at *; omega) | omega | (simp [fs]; done) | exact ax))) | (with_reducible intro x hx) | omega) <;> (try simp only [Wr, Nat.reduceBEq, reduceIte, Nat.reduceEqDiff, Nat.reduceAdd, Nat.reduceSub, Nat.reduceLT, Nat.reduceLeDiff, reduceCtorEq, ne_eq, fw, fd]))
 ·rw [hw] at h3
  rw [jx hf hw] at h4
  simp only [reduceIte, Bool.true_and] at h3 ⊢
  generalize hd : decide ((pR s.sq).sta = s) = d at h5 ⊢
  generalize pR s.sq = x at h4 h5
  unfold dp.cells at h2 h5 ⊢
  unfold Sq.cells at h4 h5
  clear hd
  cases d
  ·simp only [zS, reduceIte]
   repeat' ((first | apply ah | apply al | apply ai | apply af | apply ab | apply ak mixed | (with_reducible first | refine ac ?_ | refine aB (f := .c (.fn 19 [])) ?_ | refine aB (f := .c (.fn 34 [])) ?_ | refine aB (f := .c (.fn 21 [])) ?_ | refine ar ?_ | refine am (h1) (by simp) ?_ | refine am (h2) (by simp) ?_ | refine am (h3) (by simp) ?_) | refine ae (h4) ?_ ?_ | refine ae (h5) ?_ ?_ | ((first | refine aj ?_ ?_ | refine aa ?_ ?_) <;> intro hc <;> (try simp only [hc]) <;> try simp at hc) | (with_reducible refine ⟨?_, ?_⟩; (focus ((repeat' with_reducible refine ⟨?_, ?_⟩) <;> first | exact trivial | assumption | (simp; done) | (simp only [zA] at *; omega) | omega | (simp [fs]; done) | exact ax))) | (with_reducible intro x hx) | omega) <;> (try simp only [Wr, Nat.reduceBEq, reduceIte, Nat.reduceEqDiff, Nat.reduceAdd, Nat.reduceSub, Nat.reduceLT, Nat.reduceLeDiff, reduceCtorEq, cond_false, ne_eq, fw, fd]))
  ·simp only [reduceIte]
   repeat' ((first | apply ah | apply al | apply ai | apply af | apply ab | apply ak mixed | (with_reducible first | refine ac ?_ | refine aB (f := .c (.fn 19 [])) ?_ | refine aB (f := .c (.fn 34 [])) ?_ | refine aB (f := .c (.fn 21 [])) ?_ | refine ar ?_ | refine am (h1) (by simp) ?_ | refine am (h2) (by simp) ?_ | refine am (h3) (by simp) ?_) | refine ae (h4) ?_ ?_ | refine ae (h5) ?_ ?_ | ((first | refine aj ?_ ?_ | refine aa ?_ ?_) <;> intro hc <;> (try simp only [hc]) <;> try simp at hc) | (with_reducible refine ⟨?_, ?_⟩; (focus ((repeat' with_reducible refine ⟨?_, ?_⟩) <;> first | exact trivial | assumption | (simp; done) | (simp only [zA] at *; omega) | omega | (simp [fs]; done) | exact ax))) | (with_reducible intro x hx) | omega) <;> (try simp only [Wr, Nat.reduceBEq, reduceIte, Nat.reduceEqDiff, Nat.reduceAdd, Nat.reduceSub, Nat.reduceLT, Nat.reduceLeDiff, reduceCtorEq, cond_false, ne_eq, fw, fd]))
end Go.Proofs.YtgefljdclekadaaGreat
