import Derived.Test.YtgefljdclekadaaGreatWML
import Derived.Test.YtgefljdclekadaaGreatVi25
import Derived.Test.YtgefljdclekadaaGreatWMG
import Derived.Test.YtgefljdclekadaaGreatWMM
set_option linter.unusedVariables false
set_option linter.unusedSimpArgs false
namespace Go.Proofs.YtgefljdclekadaaGreat
open Go Go.Vi
theorem bZ (S : List UInt8) (bad : Bool) (n lo hi : Int) (hn : dv n) (hl : S.length ≤ 1099511628776) :
  nZ 79 [.int .i64 n, .int .i64 lo, .int .i64 hi] S bad (decide (n < lo ∨ hi < n)) (bl (zz n)) := by
 have h10 := bv (fu hn.1 hn.2)
 have e := (i2 (l := S) (m := bl (zz n))).symm
 refine ⟨S ++ bl (zz n), ?_, fun _ => rfl, by rw [zB]; omega⟩
 have hs := jF n hn.1 hn.2
 refine bf Tryz.func79 low79 (by simp [c79]) ?_
 simp only [c79]
 by_cases h1 : n < lo
 ·have c1 : (n < lo) = True := by simpa using h1
  rw [decide_eq_true (Or.inl h1), Bool.or_true]
  cases bad
  ·repeat' ((first | apply ah | apply ai | apply af | apply ak mixed | apply ap mixed | (with_reducible first | refine ac ?_ | refine aw ?_) | refine ae (hs) ?_ ?_ | simp (disch := omega) only [aW, aF, aK, aL, bg, zI, zH] | (refine aj ?_ ?_ <;> intro hc <;> (try simp only [hc]) <;> try simp at hc) | (with_reducible refine ⟨?_, ?_⟩; (focus ((repeat' with_reducible refine ⟨?_, ?_⟩) <;> first | exact trivial | assumption | (simp; done) | (simp only [zA] at *; omega) | omega | (simp [fs]; done) | exact ax))) | (with_reducible intro x hx) | omega) <;> (try simp only [ce, dq, c1, e, Nat.reduceBEq, reduceIte, Nat.reduceAdd, Nat.reduceSub, Nat.reduceLeDiff, reduceCtorEq, cond_true, cond_false, ne_eq, fw, fd]))
  ·repeat' ((first | apply ah | apply ai | apply af | apply ak mixed | apply ap mixed | (with_reducible first | refine ac ?_ | refine aw ?_) | refine ae (hs) ?_ ?_ | simp (disch := omega) only [aW, aF, aK, aL, bg, zI, zH] | (refine aj ?_ ?_ <;> intro hc <;> (try simp only [hc]) <;> try simp at hc) | (with_reducible refine ⟨?_, ?_⟩; (focus ((repeat' with_reducible refine ⟨?_, ?_⟩) <;> first | exact trivial | assumption | (simp; done) | (simp only [zA] at *; omega) | omega | (simp [fs]; done) | exact ax))) | (with_reducible intro x hx) | omega) <;> (try simp only [ce, dq, e, Nat.reduceBEq, reduceIte, Nat.reduceAdd, Nat.reduceSub, Nat.reduceLeDiff, reduceCtorEq, cond_true, ne_eq, fw, fd]))
 ·have c1 : (n < lo) = False := by simpa using h1
  by_cases h2 : hi < n
  ·have c2 : (n > hi) = True := by simpa using h2
   rw [decide_eq_true (Or.inr h2), Bool.or_true]
   cases bad
   ·repeat' ((first | apply ah | apply ai | apply af | apply ak mixed | apply ap mixed | (with_reducible first | refine ac ?_ | refine aw ?_) | refine ae (hs) ?_ ?_ | simp (disch := omega) only [aW, aF, aK, aL, bg, zI, zH] | (refine aj ?_ ?_ <;> intro hc <;> (try simp only [hc]) <;> try simp at hc) | (with_reducible refine ⟨?_, ?_⟩; (focus ((repeat' with_reducible refine ⟨?_, ?_⟩) <;> first | exact trivial | assumption | (simp; done) | (simp only [zA] at *; omega) | omega | (simp [fs]; done) | exact ax))) | (with_reducible intro x hx) | omega) <;> (try simp only [ce, dq, c1, c2, e, Nat.reduceBEq, reduceIte, Nat.reduceAdd, Nat.reduceSub, Nat.reduceLeDiff, reduceCtorEq, cond_false, ne_eq, fw, fd]))
   ·repeat' ((first | apply ah | apply ai | apply af | apply ak mixed | apply ap mixed | (with_reducible first | refine ac ?_ | refine aw ?_) | refine ae (hs) ?_ ?_ | simp (disch := omega) only [aW, aF, aK, aL, bg, zI, zH] | (refine aj ?_ ?_ <;> intro hc <;> (try simp only [hc]) <;> try simp at hc) | (with_reducible refine ⟨?_, ?_⟩; (focus ((repeat' with_reducible refine ⟨?_, ?_⟩) <;> first | exact trivial | assumption | (simp; done) | (simp only [zA] at *; omega) | omega | (simp [fs]; done) | exact ax))) | (with_reducible intro x hx) | omega) <;> (try simp only [ce, dq, e, Nat.reduceBEq, reduceIte, Nat.reduceAdd, Nat.reduceSub, Nat.reduceLeDiff, reduceCtorEq, cond_true, ne_eq, fw, fd]))
  ·have c2 : (n > hi) = False := by simpa using h2
   rw [decide_eq_false (by omega), zR]
   cases bad
   ·repeat' ((first | apply ah | apply ai | apply af | apply ak mixed | apply ap mixed | (with_reducible first | refine ac ?_ | refine aw ?_) | refine ae (hs) ?_ ?_ | simp (disch := omega) only [aW, aF, aK, aL, bg, zI, zH] | (refine aj ?_ ?_ <;> intro hc <;> (try simp only [hc]) <;> try simp at hc) | (with_reducible refine ⟨?_, ?_⟩; (focus ((repeat' with_reducible refine ⟨?_, ?_⟩) <;> first | exact trivial | assumption | (simp; done) | (simp only [zA] at *; omega) | omega | (simp [fs]; done) | exact ax))) | (with_reducible intro x hx) | omega) <;> (try simp only [ce, dq, c1, c2, e, Nat.reduceBEq, reduceIte, Nat.reduceAdd, Nat.reduceSub, Nat.reduceLeDiff, reduceCtorEq, cond_false, ne_eq, fw, fd]))
   ·repeat' ((first | apply ah | apply ai | apply af | apply ak mixed | apply ap mixed | (with_reducible first | refine ac ?_ | refine aw ?_) | refine ae (hs) ?_ ?_ | simp (disch := omega) only [aW, aF, aK, aL, bg, zI, zH] | (refine aj ?_ ?_ <;> intro hc <;> (try simp only [hc]) <;> try simp at hc) | (with_reducible refine ⟨?_, ?_⟩; (focus ((repeat' with_reducible refine ⟨?_, ?_⟩) <;> first | exact trivial | assumption | (simp; done) | (simp only [zA] at *; omega) | omega | (simp [fs]; done) | exact ax))) | (with_reducible intro x hx) | omega) <;> (try simp only [ce, dq, e, Nat.reduceBEq, reduceIte, Nat.reduceAdd, Nat.reduceSub, Nat.reduceLeDiff, reduceCtorEq, cond_true, ne_eq, fw, fd]))
def uJ (y : Int) (b : Bool) (S S2 : List UInt8) : Prop := aP Tryz.prog 79 [Bd S b, .int .i64 y, .int .i64 (-400), .int .i64 400] (Bd S2 (b || decide (y < (-400) ∨ 400 < y)))
theorem exSm (y : Int) (hy : vz y) (S : List UInt8) (b : Bool) (hl : S.length ≤ 1099511627776) : ∃ S2, uJ y b S S2 ∧ ((b || nK y) = false → S2 = S ++ nQ y) ∧ S2.length ≤ S.length + (nQ y).length := by
 unfold vz at hy
 have w0 := bv (fu hy.1 hy.2)
 obtain ⟨U1, a0, c0, l0⟩ := bZ S b y (-400) 400 hy (by omega)
 refine ⟨U1, a0, fun h => ?_, by simp only [nQ]; omega⟩
 unfold nK at h
 have h0 := h
 rw [c0 h0]
 rfl
def xO (y : Int × Int) (b : Bool) (S S2 : List UInt8) : Prop := ∃ T1, aP Tryz.prog 25 [Bd S b, .int .i64 y.1] (Bd T1 b) ∧ aP Tryz.prog 79 [Bd T1 b, .int .i64 y.2, .int .i64 (-900), .int .i64 900] (Bd S2 (b || decide (y.2 < (-900) ∨ 900 < y.2)))
theorem exTu (y : Int × Int) (hy : vA y) (S : List UInt8) (b : Bool) (hl : S.length ≤ 1099511627776) : ∃ S2, xO y b S S2 ∧ ((b || nL y) = false → S2 = S ++ mV y) ∧ S2.length ≤ S.length + (mV y).length := by
 unfold vA at hy
 have w0 := bv (fu hy.1.1 hy.1.2)
 obtain ⟨U1, a0, c0, l0⟩ := bM S b y.1 hy.1 (by omega)
 rw [zR] at a0 c0
 have w1 := bv (fu hy.2.1 hy.2.2)
 obtain ⟨U2, a1, c1, l1⟩ := bZ U1 b y.2 (-900) 900 hy.2 (by omega)
 refine ⟨U2, ⟨U1, a0, a1⟩, fun h => ?_, by simp only [mV, zB]; omega⟩
 unfold nL at h
 have h1 := h
 have h0 := (zM.1 h1).1
 rw [c1 h1, c0 h0]
 simp only [mV, zJ]
def uG (y : Int) (b : Bool) (S S2 : List UInt8) : Prop := aP Tryz.prog 23 [Bd S b, .int .i64 y, .int .i64 109937] (Bd S2 (b || decide (109937 < uI y)))
theorem exOf (y : Int) (hy : vu y) (S : List UInt8) (b : Bool) (hl : S.length ≤ 1099511627776) : ∃ S2, uG y b S S2 ∧ ((b || nI y) = false → S2 = S ++ nP y) ∧ S2.length ≤ S.length + (nP y).length := by
 unfold vu at hy
 have w0 := bv (cy y)
 obtain ⟨U1, a0, c0, l0⟩ := bN S b y 109937 hy (by omega) (by omega)
 refine ⟨U1, a0, fun h => ?_, by simp only [nP]; omega⟩
 unfold nI at h
 have h0 := h
 rw [c0 h0]
 rfl
def xM (y : Int × Int) (b : Bool) (S S2 : List UInt8) : Prop := ∃ T1, aP Tryz.prog 79 [Bd S b, .int .i64 y.1, .int .i64 (-5), .int .i64 5] (Bd T1 (b || decide (y.1 < (-5) ∨ 5 < y.1))) ∧ aP Tryz.prog 23 [Bd T1 (b || decide (y.1 < (-5) ∨ 5 < y.1)), .int .i64 y.2, .int .i64 6] (Bd S2 ((b || decide (y.1 < (-5) ∨ 5 < y.1)) || decide (6 < uI y.2)))
theorem exDa (y : Int × Int) (hy : vp y) (S : List UInt8) (b : Bool) (hl : S.length ≤ 1099511627776) : ∃ S2, xM y b S S2 ∧ ((b || nG y) = false → S2 = S ++ mS y) ∧ S2.length ≤ S.length + (mS y).length := by
 unfold vp at hy
 have w0 := bv (fu hy.1.1 hy.1.2)
 obtain ⟨U1, a0, c0, l0⟩ := bZ S b y.1 (-5) 5 hy.1 (by omega)
 have w1 := bv (cy y.2)
 obtain ⟨U2, a1, c1, l1⟩ := bN U1 (b || decide (y.1 < (-5) ∨ 5 < y.1)) y.2 6 hy.2 (by omega) (by omega)
 refine ⟨U2, ⟨U1, a0, a1⟩, fun h => ?_, by simp only [mS, zB]; omega⟩
 unfold nG at h
 simp only [← zQ] at h
 have h1 := h
 have h0 := (zM.1 h1).1
 rw [c1 h1, c0 h0]
 simp only [mS, zJ]
def xL (y : Int × Int × Int) (b : Bool) (S S2 : List UInt8) : Prop := ∃ T1 T2, aP Tryz.prog 25 [Bd S b, .int .i64 y.1] (Bd T1 b) ∧ aP Tryz.prog 25 [Bd T1 b, .int .i64 y.2.1] (Bd T2 b) ∧ aP Tryz.prog 23 [Bd T2 b, .int .i64 y.2.2, .int .i64 10080] (Bd S2 (b || decide (10080 < uI y.2.2)))
theorem exCh (y : Int × Int × Int) (hy : vo y) (S : List UInt8) (b : Bool) (hl : S.length ≤ 1099511627776) : ∃ S2, xL y b S S2 ∧ ((b || nF y) = false → S2 = S ++ mR y) ∧ S2.length ≤ S.length + (mR y).length := by
 unfold vo at hy
 have w0 := bv (fu hy.1.1 hy.1.2)
 obtain ⟨U1, a0, c0, l0⟩ := bM S b y.1 hy.1 (by omega)
 rw [zR] at a0 c0
 have w1 := bv (fu hy.2.1.1 hy.2.1.2)
 obtain ⟨U2, a1, c1, l1⟩ := bM U1 b y.2.1 hy.2.1 (by omega)
 rw [zR] at a1 c1
 have w2 := bv (cy y.2.2)
 obtain ⟨U3, a2, c2, l2⟩ := bN U2 b y.2.2 10080 hy.2.2 (by omega) (by omega)
 refine ⟨U3, ⟨U1, U2, a0, a1, a2⟩, fun h => ?_, by simp only [mR, zB]; omega⟩
 unfold nF at h
 have h2 := h
 have h1 := (zM.1 h2).1
 have h0 := h1
 rw [c2 h2, c1 h1, c0 h0]
 simp only [mR, zJ]
set_option maxHeartbeats 4000000 in
set_option maxRecDepth 8000 in
theorem rK (S : List UInt8) (bad : Bool) (xs : List (Int × Int × Int)) (hf : vr xs) (hl : (S ++ ke xs).length ≤ 1099511627776) :
  nZ 80 [L (bo xs), .int .i64 10] S bad (pc 10 xs) (ke xs) := by
 unfold vr at hf
 unfold ke at hl
 simp only [zB] at hl
 have L1 : xs.length ≤ 140737488351232 := hf.1
 have u1 := dA (k := xs.length) (by have := hf.1; omega)
 obtain ⟨Q1, h1, p1, q1⟩ := bN S bad xs.length 10 (by have := hf.1; constructor <;> omega) (by omega) (by omega)
 rw [u1] at h1 p1 q1
 obtain ⟨s1, z1, ⟨c1, g1⟩, r1⟩ := eg (x := iX) (e := lR) (Rel := uH) hf.2 (by rw [zB]; omega) p1 q1 exSh
 rw [← z1, ← cD (x := iX)] at h1
 obtain ⟨b1, d1⟩ : ∃ b1, b1 = (bad || bn iX 10 xs) := ⟨_, rfl⟩
 have y1 : bI bad 10 iX xs xs.length = b1 := by rw [df, d1]
 rw [← d1] at c1
 obtain ⟨S1, t1⟩ : ∃ S1, S1 = s1 xs.length := ⟨_, rfl⟩
 rw [← t1] at c1 g1
 have eb : (bad || pc 10 xs) = b1 := by rw [d1]; simp only [pc]
 refine ⟨S1, ?_, fun h => ?_, by unfold ke; (try simp only [zB]); omega⟩
 rotate_left
 ·rw [eb] at h
  have k1 := h
  rw [c1 k1]
  simp only [ke]
 rw [eb]
 clear eb c1 d1
 refine bf Tryz.func80 low80 (by simp [c80]) ?_
 simp only [c80]
 repeat' ((first | apply ah | apply al | apply ao | apply av | refine aq rfl ?_ | apply ai | apply af | apply ab | apply ak mixed | apply ap mixed | (with_reducible first | refine ac ?_ | refine ar ?_ | refine aw ?_) | refine ae (h1) ?_ ?_ | simp (disch := omega) only [aW, aF, aK, aL, bg, zI, zH] | (refine aa ?_ ?_ <;> intro hc <;> (try simp only [hc]) <;> try simp at hc) | (with_reducible refine ⟨?_, ?_⟩; (focus ((repeat' with_reducible refine ⟨?_, ?_⟩) <;> first | exact trivial | assumption | (simp; done) | (simp only [zA] at *; omega) | omega | (simp [fs]; done) | exact ax))) | (with_reducible intro x hx) | omega) <;> (try simp only [ce, aR, Nat.reduceBEq, reduceIte, Nat.reduceAdd, reduceCtorEq, ne_eq, fw, fd]))
 refine aM (ι := {i : Nat // i ≤ xs.length}) (fun i => ([(1, L (bo xs)), (3, .ptr 0 0 0 1), (6, .ptr 1 0 0 1), (14, .int .i64 xs.length), (15, .int .i64 i.1)], [Vb (s1 i.1) (bI bad 10 iX xs i.1), Vb [] false])) (fun i => xs.length - i.1) ⟨0, by omega⟩ ?_ ?_
 ·refine aC [0, 1] (by rfl) (by simp) (by simp [fg]) (by simp [fg])
 rintro ⟨i, hi⟩ hk
 dsimp only at hk ⊢
 by_cases hlt : i < xs.length
 ·have c1 : ((i : Int) < (xs.length : Int)) = True := by simp; omega
  obtain ⟨y, hy⟩ : ∃ y, xs[i]? = some y := ⟨_, zD hlt⟩
  have hr := dj hy
  have hb : bI bad 10 iX xs (i + 1) = (bI bad 10 iX xs i || iX y) := cm hy
  have hm := hf.2 y (zE hy)
  unfold tx at hm
  obtain ⟨W1, W2, v0, v1, v2⟩ := (r1 i y hy).2
  repeat' ((first | apply ah | apply al | apply ao | apply av | refine aq rfl ?_ | apply ai | apply af | apply ab | apply ak mixed | apply ap mixed | (with_reducible first | refine ac ?_ | refine ar ?_ | refine aw ?_) | refine ae (v0) ?_ ?_ | refine ae (v1) ?_ ?_ | refine ae (v2) ?_ ?_ | simp (disch := omega) only [aW] | (refine aa ?_ ?_ <;> intro hc <;> (try simp only [hc]) <;> try simp at hc) | (with_reducible refine ⟨?_, ?_⟩; (focus ((repeat' with_reducible refine ⟨?_, ?_⟩) <;> first | exact trivial | assumption | (simp; done) | (simp only [zA] at *; omega) | omega | (simp [fs]; done) | exact ax))) | (with_reducible intro x hx) | omega) <;> (try simp only [aR, c1, hr, Nat.reduceBEq, reduceIte, Nat.reduceAdd, fw, fd]))
  refine hk ⟨i + 1, by omega⟩ _ _ (by dsimp only; omega) ?_
  dsimp only
  rw [hb]
  unfold iX
  simp only [← zQ]
  refine aC [0, 1] (by rfl) (by simp) (by simp [fg]) (by simp [fg])
 have c1 : ((i : Int) < (xs.length : Int)) = False := by simp; omega
 obtain rfl : i = xs.length := by omega
 clear hk hlt hi
 rw [← t1, y1]
 repeat' ((first | apply ah | apply al | apply ao | apply av | refine aq rfl ?_ | apply ai | apply af | apply ab | apply ak mixed | apply ap mixed | (with_reducible first | refine ac ?_ | refine ar ?_ | refine aw ?_) | simp (disch := omega) only [aW, aF, aK, aL, bg, zI, zH] | (refine aa ?_ ?_ <;> intro hc <;> (try simp only [hc]) <;> try simp at hc) | (with_reducible refine ⟨?_, ?_⟩; (focus ((repeat' with_reducible refine ⟨?_, ?_⟩) <;> first | exact trivial | assumption | (simp; done) | (simp only [zA] at *; omega) | omega | (simp [fs]; done) | exact ax))) | (with_reducible intro x hx) | omega) <;> (try simp only [c1, Nat.reduceBEq, reduceIte, Nat.reduceAdd, fw, fd]))
set_option maxHeartbeats 4000000 in
set_option maxRecDepth 8000 in
theorem pC (S : List UInt8) (bad : Bool) (xs : List Int) (hf : wc xs) (hl : (S ++ mU xs).length ≤ 1099511627776) :
  nZ 81 [L (aJ .i64 xs)] S bad (pd xs) (mU xs) := by
 unfold wc at hf
 unfold mU at hl
 simp only [zB] at hl
 have L1 : xs.length ≤ 140737488351232 := hf.1
 have u1 := dA (k := xs.length) (by have := hf.1; omega)
 obtain ⟨Q1, h1, p1, q1⟩ := bN S bad xs.length 400 (by have := hf.1; constructor <;> omega) (by omega) (by omega)
 rw [u1] at h1 p1 q1
 obtain ⟨s1, z1, ⟨c1, g1⟩, r1⟩ := eg (x := nK) (e := nQ) (Rel := uJ) hf.2 (by rw [zB]; omega) p1 q1 exSm
 rw [← z1, ← cD (x := nK)] at h1
 obtain ⟨b1, d1⟩ : ∃ b1, b1 = (bad || bn nK 400 xs) := ⟨_, rfl⟩
 have y1 : bI bad 400 nK xs xs.length = b1 := by rw [df, d1]
 rw [← d1] at c1
 obtain ⟨S1, t1⟩ : ∃ S1, S1 = s1 xs.length := ⟨_, rfl⟩
 rw [← t1] at c1 g1
 have eb : (bad || pd xs) = b1 := by rw [d1]; simp only [pd]
 refine ⟨S1, ?_, fun h => ?_, by unfold mU; (try simp only [zB]); omega⟩
 rotate_left
 ·rw [eb] at h
  have k1 := h
  rw [c1 k1]
  simp only [mU]
 rw [eb]
 clear eb c1 d1
 refine bf Tryz.func81 low81 (by simp [c81]) ?_
 simp only [c81]
 repeat' ((first | apply ah | apply al | apply ao | apply av | refine aq rfl ?_ | apply ai | apply af | apply ab | apply ak mixed | apply ap mixed | (with_reducible first | refine ac ?_ | refine ar ?_ | refine aw ?_) | refine ae (h1) ?_ ?_ | simp (disch := omega) only [aW, aF, aK, aL, bg, zI, zH] | (refine aa ?_ ?_ <;> intro hc <;> (try simp only [hc]) <;> try simp at hc) | (with_reducible refine ⟨?_, ?_⟩; (focus ((repeat' with_reducible refine ⟨?_, ?_⟩) <;> first | exact trivial | assumption | (simp; done) | (simp only [zA] at *; omega) | omega | (simp [fs]; done) | exact ax))) | (with_reducible intro x hx) | omega) <;> (try simp only [ce, aI, Nat.reduceBEq, reduceIte, Nat.reduceAdd, reduceCtorEq, ne_eq, fw, fd]))
 refine aM (ι := {i : Nat // i ≤ xs.length}) (fun i => ([(1, L (aJ .i64 xs)), (2, .ptr 0 0 0 1), (4, .ptr 1 0 0 1), (11, .int .i64 xs.length), (12, .int .i64 i.1)], [Vb (s1 i.1) (bI bad 400 nK xs i.1), Vb [] false])) (fun i => xs.length - i.1) ⟨0, by omega⟩ ?_ ?_
 ·refine aC [0, 1] (by rfl) (by simp) (by simp [fg]) (by simp [fg])
 rintro ⟨i, hi⟩ hk
 dsimp only at hk ⊢
 by_cases hlt : i < xs.length
 ·have c1 : ((i : Int) < (xs.length : Int)) = True := by simp; omega
  obtain ⟨y, hy⟩ : ∃ y, xs[i]? = some y := ⟨_, zD hlt⟩
  have hr := bS (k := .i64) hy
  have hb : bI bad 400 nK xs (i + 1) = (bI bad 400 nK xs i || nK y) := cm hy
  have hm := hf.2 y (zE hy)
  unfold vz at hm
  have v0 := (r1 i y hy).2
  unfold uJ at v0
  repeat' ((first | apply ah | apply al | apply ao | apply av | refine aq rfl ?_ | apply ai | apply af | apply ab | apply ak mixed | apply ap mixed | (with_reducible first | refine ac ?_ | refine ar ?_ | refine aw ?_) | refine ae (v0) ?_ ?_ | simp (disch := omega) only [aW] | (refine aa ?_ ?_ <;> intro hc <;> (try simp only [hc]) <;> try simp at hc) | (with_reducible refine ⟨?_, ?_⟩; (focus ((repeat' with_reducible refine ⟨?_, ?_⟩) <;> first | exact trivial | assumption | (simp; done) | (simp only [zA] at *; omega) | omega | (simp [fs]; done) | exact ax))) | (with_reducible intro x hx) | omega) <;> (try simp only [aI, c1, hr, Nat.reduceBEq, reduceIte, Nat.reduceAdd, Int.reduceNeg, fw, fd]))
  refine hk ⟨i + 1, by omega⟩ _ _ (by dsimp only; omega) ?_
  dsimp only
  rw [hb]
  unfold nK
  refine aC [0, 1] (by rfl) (by simp) (by simp [fg]) (by simp [fg])
 have c1 : ((i : Int) < (xs.length : Int)) = False := by simp; omega
 obtain rfl : i = xs.length := by omega
 clear hk hlt hi
 rw [← t1, y1]
 repeat' ((first | apply ah | apply al | apply ao | apply av | refine aq rfl ?_ | apply ai | apply af | apply ab | apply ak mixed | apply ap mixed | (with_reducible first | refine ac ?_ | refine ar ?_ | refine aw ?_) | simp (disch := omega) only [aW, aF, aK, aL, bg, zI, zH] | (refine aa ?_ ?_ <;> intro hc <;> (try simp only [hc]) <;> try simp at hc) | (with_reducible refine ⟨?_, ?_⟩; (focus ((repeat' with_reducible refine ⟨?_, ?_⟩) <;> first | exact trivial | assumption | (simp; done) | (simp only [zA] at *; omega) | omega | (simp [fs]; done) | exact ax))) | (with_reducible intro x hx) | omega) <;> (try simp only [c1, Nat.reduceBEq, reduceIte, Nat.reduceAdd, fw, fd]))
set_option maxHeartbeats 4000000 in
set_option maxRecDepth 8000 in
theorem rJ (S : List UInt8) (bad : Bool) (s : Se) (hf : wb s) (hl : (S ++ pk s).length ≤ 1099511627776) :
  nZ 35 [.agg s.cells] S bad (mI s) (pk s) := by
 unfold wb at hf
 unfold pk at hl
 unfold rQ at hl
 simp only [zB] at hl
 obtain ⟨S1, h1, c1, g1⟩ := bZ S bad s.base (-900) 900 hf.1.1 (by omega)
 obtain ⟨b1, d1⟩ : ∃ b1, b1 = (bad || decide (s.base < (-900) ∨ 900 < s.base)) := ⟨_, rfl⟩
 rw [← d1] at h1 c1
 have L2 : s.turns.length ≤ 140737488351232 := hf.1.2.1
 have u2 := dA (k := s.turns.length) (by have := hf.1.2.1; omega)
 obtain ⟨Q2, h2, p2, q2⟩ := bN S1 b1 s.turns.length 700 (by have := hf.1.2.1; constructor <;> omega) (by omega) (by omega)
 rw [u2] at h2 p2 q2
 obtain ⟨s2, z2, ⟨c2, g2⟩, r2⟩ := eg (x := nL) (e := mV) (Rel := xO) hf.1.2.2 (by rw [zB]; omega) p2 q2 exTu
 rw [← z2, ← cD (x := nL)] at h2
 obtain ⟨b2, d2⟩ : ∃ b2, b2 = (b1 || bn nL 700 s.turns) := ⟨_, rfl⟩
 have y2 : bI b1 700 nL s.turns s.turns.length = b2 := by rw [df, d2]
 rw [← d2] at c2
 obtain ⟨S2, t2⟩ : ∃ S2, S2 = s2 s.turns.length := ⟨_, rfl⟩
 rw [← t2] at c2 g2
 obtain ⟨S3, h3, c3, g3⟩ := rK S2 b2 s.shifts hf.2.1 (by rw [zB]; omega)
 obtain ⟨b3, d3⟩ : ∃ b3, b3 = (b2 || pc 10 s.shifts) := ⟨_, rfl⟩
 rw [← d3] at h3 c3
 have L4 : s.off.length ≤ 140737488351232 := hf.2.2.1.1
 have u4 := dA (k := s.off.length) (by have := hf.2.2.1.1; omega)
 obtain ⟨Q4, h4, p4, q4⟩ := bN S3 b3 s.off.length 60 (by have := hf.2.2.1.1; constructor <;> omega) (by omega) (by omega)
 rw [u4] at h4 p4 q4
 obtain ⟨s4, z4, ⟨c4, g4⟩, r4⟩ := eg (x := nI) (e := nP) (Rel := uG) hf.2.2.1.2 (by rw [zB]; omega) p4 q4 exOf
 rw [← z4, ← cD (x := nI)] at h4
 obtain ⟨b4, d4⟩ : ∃ b4, b4 = (b3 || bn nI 60 s.off) := ⟨_, rfl⟩
 have y4 : bI b3 60 nI s.off s.off.length = b4 := by rw [df, d4]
 rw [← d4] at c4
 obtain ⟨S4, t4⟩ : ∃ S4, S4 = s4 s.off.length := ⟨_, rfl⟩
 rw [← t4] at c4 g4
 obtain ⟨S5, h5, c5, g5⟩ := bN S4 b4 s.before 240 hf.2.2.2.1 (by omega) (by omega)
 obtain ⟨b5, d5⟩ : ∃ b5, b5 = (b4 || decide (240 < uI s.before)) := ⟨_, rfl⟩
 rw [← d5] at h5 c5
 obtain ⟨S6, h6, c6, g6⟩ := bN S5 b5 s.after 240 hf.2.2.2.2 (by omega) (by omega)
 obtain ⟨b6, d6⟩ : ∃ b6, b6 = (b5 || decide (240 < uI s.after)) := ⟨_, rfl⟩
 rw [← d6] at h6 c6
 have eb : (bad || mI s) = b6 := by rw [d6, d5, d4, d3, d2, d1]; simp only [mI, xZ, zQ]
 refine ⟨S6, ?_, fun h => ?_, by unfold pk; unfold rQ; (try simp only [zB]); omega⟩
 rotate_left
 ·rw [eb] at h
  have k6 := h
  have k5 := k6
  rw [d6, zM] at k5
  replace k5 := k5.1
  have k4 := k5
  rw [d5, zM] at k4
  replace k4 := k4.1
  have k3 := k4
  rw [d4, zM] at k3
  replace k3 := k3.1
  have k2 := k3
  rw [d3, zM] at k2
  replace k2 := k2.1
  have k1 := k2
  rw [d2, zM] at k1
  replace k1 := k1.1
  rw [c6 k6, c5 k5, c4 k4, c3 k3, c2 k2, c1 k1]
  simp only [pk, rQ, zJ]
 rw [eb]
 clear eb c1 c2 c3 c4 c5 c6 d1 d2 d3 d4 d5 d6
 unfold Se.cells
 refine bf Tryz.func35 low35 (by simp [c35]) ?_
 simp only [c35]
 repeat' ((first | apply ah | apply al | apply ao | apply av | refine aq rfl ?_ | apply ai | apply af | apply ab | apply ak mixed | apply ap mixed | (with_reducible first | refine ac ?_ | refine aw ?_) | refine ae (h1) ?_ ?_ | refine ae (h2) ?_ ?_ | refine ae (h3) ?_ ?_ | refine ae (h4) ?_ ?_ | refine ae (h5) ?_ ?_ | refine ae (h6) ?_ ?_ | simp (disch := omega) only [aW, aF, aK, aL, bg, zI, zH] | (refine aa ?_ ?_ <;> intro hc <;> (try simp only [hc]) <;> try simp at hc) | (with_reducible refine ⟨?_, ?_⟩; (focus ((repeat' with_reducible refine ⟨?_, ?_⟩) <;> first | exact trivial | assumption | (simp; done) | (simp only [zA] at *; omega) | omega | (simp [fs]; done) | exact ax))) | (with_reducible intro x hx) | omega) <;> (try simp only [ce, aD, Nat.reduceBEq, reduceIte, Nat.reduceAdd, reduceCtorEq, ne_eq, Int.reduceNeg, fw, fd]))
 refine aM (ι := {i : Nat // i ≤ s.turns.length}) (fun i => ([(2, .ptr 0 0 0 1), (3, .ptr 1 0 0 1), (4, .ptr 2 0 0 1), (20, .int .i64 s.turns.length), (21, .int .i64 i.1)], [Vb (s2 i.1) (bI b1 700 nL s.turns i.1), Va 6 [.int .i64 s.base, L (aV .i64 .i64 s.turns), L (bo s.shifts), L (aJ .i64 s.off), .int .i64 s.before, .int .i64 s.after], Vb [] false])) (fun i => s.turns.length - i.1) ⟨0, by omega⟩ ?_ ?_
 ·refine aC [0, 1, 2] (by rfl) (by simp) (by simp [fg]) (by simp [fg])
 rintro ⟨i, hi⟩ hk
 dsimp only at hk ⊢
 by_cases hlt : i < s.turns.length
 ·have c1 : ((i : Int) < (s.turns.length : Int)) = True := by simp; omega
  obtain ⟨y, hy⟩ : ∃ y, s.turns[i]? = some y := ⟨_, zD hlt⟩
  have hr := bu (k := .i64) (m := .i64) hy
  have hb : bI b1 700 nL s.turns (i + 1) = (bI b1 700 nL s.turns i || nL y) := cm hy
  have hm := hf.1.2.2 y (zE hy)
  unfold vA at hm
  obtain ⟨W1, v0, v1⟩ := (r2 i y hy).2
  repeat' ((first | apply ah | apply al | apply ao | apply av | refine aq rfl ?_ | apply ai | apply af | apply ab | apply ak mixed | apply ap mixed | (with_reducible first | refine ac ?_ | refine aw ?_) | refine ae (v0) ?_ ?_ | refine ae (v1) ?_ ?_ | simp (disch := omega) only [aW] | (refine aa ?_ ?_ <;> intro hc <;> (try simp only [hc]) <;> try simp at hc) | (with_reducible refine ⟨?_, ?_⟩; (focus ((repeat' with_reducible refine ⟨?_, ?_⟩) <;> first | exact trivial | assumption | (simp; done) | (simp only [zA] at *; omega) | omega | (simp [fs]; done) | exact ax))) | (with_reducible intro x hx) | omega) <;> (try simp only [aD, c1, hr, Nat.reduceBEq, reduceIte, Nat.reduceAdd, Int.reduceNeg, fw, fd]))
  refine hk ⟨i + 1, by omega⟩ _ _ (by dsimp only; omega) ?_
  dsimp only
  rw [hb]
  unfold nL
  refine aC [0, 1, 2] (by rfl) (by simp) (by simp [fg]) (by simp [fg])
 have c1 : ((i : Int) < (s.turns.length : Int)) = False := by simp; omega
 obtain rfl : i = s.turns.length := by omega
 clear hk hlt hi
 rw [← t2, y2]
 repeat' ((first | apply ah | apply al | apply ao | apply av | refine aq rfl ?_ | apply ai | apply af | apply ab | apply ak mixed | apply ap mixed | (with_reducible first | refine ac ?_ | refine aw ?_) | refine ae (h3) ?_ ?_ | refine ae (h4) ?_ ?_ | refine ae (h5) ?_ ?_ | refine ae (h6) ?_ ?_ | simp (disch := omega) only [aW, aF, aK, aL, bg, zI, zH] | (refine aa ?_ ?_ <;> intro hc <;> (try simp only [hc]) <;> try simp at hc) | (with_reducible refine ⟨?_, ?_⟩; (focus ((repeat' with_reducible refine ⟨?_, ?_⟩) <;> first | exact trivial | assumption | (simp; done) | (simp only [zA] at *; omega) | omega | (simp [fs]; done) | exact ax))) | (with_reducible intro x hx) | omega) <;> (try simp only [aI, c1, Nat.reduceBEq, reduceIte, Nat.reduceAdd, reduceCtorEq, fw, fd]))
 refine aM (ι := {i : Nat // i ≤ s.off.length}) (fun i => ([(2, .ptr 0 0 0 1), (3, .ptr 1 0 0 1), (4, .ptr 2 0 0 1), (55, .int .i64 s.off.length), (56, .int .i64 i.1)], [Vb (s4 i.1) (bI b3 60 nI s.off i.1), Va 6 [.int .i64 s.base, L (aV .i64 .i64 s.turns), L (bo s.shifts), L (aJ .i64 s.off), .int .i64 s.before, .int .i64 s.after], Vb [] false])) (fun i => s.off.length - i.1) ⟨0, by omega⟩ ?_ ?_
 ·refine aC [0, 1, 2] (by rfl) (by simp) (by simp [fg]) (by simp [fg])
 rintro ⟨i, hi⟩ hk
 dsimp only at hk ⊢
 by_cases hlt : i < s.off.length
 ·have c1 : ((i : Int) < (s.off.length : Int)) = True := by simp; omega
  obtain ⟨y, hy⟩ : ∃ y, s.off[i]? = some y := ⟨_, zD hlt⟩
  have hr := bS (k := .i64) hy
  have hb : bI b3 60 nI s.off (i + 1) = (bI b3 60 nI s.off i || nI y) := cm hy
  have hm := hf.2.2.1.2 y (zE hy)
  unfold vu at hm
  have v0 := (r4 i y hy).2
  unfold uG at v0
  repeat' ((first | apply ah | apply al | apply ao | apply av | refine aq rfl ?_ | apply ai | apply af | apply ab | apply ak mixed | apply ap mixed | (with_reducible first | refine ac ?_ | refine aw ?_) | refine ae (v0) ?_ ?_ | simp (disch := omega) only [aW] | (refine aa ?_ ?_ <;> intro hc <;> (try simp only [hc]) <;> try simp at hc) | (with_reducible refine ⟨?_, ?_⟩; (focus ((repeat' with_reducible refine ⟨?_, ?_⟩) <;> first | exact trivial | assumption | (simp; done) | (simp only [zA] at *; omega) | omega | (simp [fs]; done) | exact ax))) | (with_reducible intro x hx) | omega) <;> (try simp only [aI, c1, hr, Nat.reduceBEq, reduceIte, Nat.reduceAdd, fw, fd]))
  refine hk ⟨i + 1, by omega⟩ _ _ (by dsimp only; omega) ?_
  dsimp only
  rw [hb]
  unfold nI
  refine aC [0, 1, 2] (by rfl) (by simp) (by simp [fg]) (by simp [fg])
 have c1 : ((i : Int) < (s.off.length : Int)) = False := by simp; omega
 obtain rfl : i = s.off.length := by omega
 clear hk hlt hi
 rw [← t4, y4]
 repeat' ((first | apply ah | apply al | apply ao | apply av | refine aq rfl ?_ | apply ai | apply af | apply ab | apply ak mixed | apply ap mixed | (with_reducible first | refine ac ?_ | refine aw ?_) | refine ae (h5) ?_ ?_ | refine ae (h6) ?_ ?_ | simp (disch := omega) only [aW, aF, aK, aL, bg, zI, zH] | (refine aa ?_ ?_ <;> intro hc <;> (try simp only [hc]) <;> try simp at hc) | (with_reducible refine ⟨?_, ?_⟩; (focus ((repeat' with_reducible refine ⟨?_, ?_⟩) <;> first | exact trivial | assumption | (simp; done) | (simp only [zA] at *; omega) | omega | (simp [fs]; done) | exact ax))) | (with_reducible intro x hx) | omega) <;> (try simp only [c1, Nat.reduceBEq, reduceIte, Nat.reduceAdd, fw, fd]))
theorem bStE (S : List UInt8) (bad : Bool) (xs : List Int) (hx : xs.length ≤ 140737488351232 ∧ ∀ x ∈ xs, xE x) (hl : (S ++ aY pg xs).length ≤ 1099511627776) :
  nZ 68 [L (aJ .i64 xs), .int .i64 50] S bad (bn vF 50 xs) (aY pg xs) := mQ S bad xs 50 (by omega) hx.1 hx.2 hl
theorem bStP (S : List UInt8) (bad : Bool) (xs : List Int) (hx : xs.length ≤ 140737488351232 ∧ ∀ x ∈ xs, xF x) (hl : (S ++ aY ph xs).length ≤ 1099511627776) :
  nZ 68 [L (aJ .i64 xs), .int .i64 50] S bad (bn vG 50 xs) (aY ph xs) := mQ S bad xs 50 (by omega) hx.1 hx.2 hl
set_option maxHeartbeats 4000000 in
set_option maxRecDepth 8000 in
theorem bEv0 (S : List UInt8) (bad : Bool) (e : Ev) (ha : e.again = false) (hf : zu e) (hl : (S ++ rO e).length ≤ 1099511627776) :
  nZ 36 [.agg e.cells] S bad (xW e) (rO e) := by
 unfold zu at hf
 unfold rO at hl
 simp only [zB] at hl
 obtain ⟨S1, h1, c1, g1⟩ := bM S bad e.start hf.1 (by omega)
 rw [zR] at h1 c1
 obtain ⟨S2, h2, c2, g2⟩ := bN S1 bad e.long 10080 hf.2.1 (by omega) (by omega)
 obtain ⟨b2, d2⟩ : ∃ b2, b2 = (bad || decide (10080 < uI e.long)) := ⟨_, rfl⟩
 rw [← d2] at h2 c2
 obtain ⟨S3, h3, c3, g3⟩ := bF S2 b2 e.again (by omega)
 rw [zR] at h3 c3
 obtain ⟨S4, h4, c4, g4⟩ := bF S3 b2 e.world (by omega)
 rw [zR] at h4 c4
 have eb : (bad || xW e) = b2 := by rw [d2]; simp only [xW]
 refine ⟨S4, ?_, fun h => ?_, by unfold rO; (try simp only [zB]); omega⟩
 rotate_left
 ·rw [eb] at h
  have k4 := h
  have k3 := k4
  have k2 := k3
  have k1 := k2
  rw [d2, zM] at k1
  replace k1 := k1.1
  rw [c4 k4, c3 k3, c2 k2, c1 k1]
  simp only [rO, zJ]
 rw [eb]
 clear eb c1 c2 c3 c4 d2
 unfold Ev.cells
 rw [ha] at h3 ⊢
 refine bf Tryz.func36 low36 (by simp [c36]) ?_
 simp only [c36]
 repeat' ((first | apply ah | apply al | apply ao | apply av | refine aq rfl ?_ | apply ai | apply af | apply ab | apply ak mixed | apply ap mixed | (with_reducible first | refine ac ?_ | refine ar ?_ | refine aw ?_) | refine ae (h1) ?_ ?_ | refine ae (h2) ?_ ?_ | refine ae (h3) ?_ ?_ | refine ae (h4) ?_ ?_ | simp (disch := omega) only [aW, aF, aK, aL, bg, zI, zH] | (refine aa ?_ ?_ <;> intro hc <;> (try simp only [hc]) <;> try simp at hc) | (with_reducible refine ⟨?_, ?_⟩; (focus ((repeat' with_reducible refine ⟨?_, ?_⟩) <;> first | exact trivial | assumption | (simp; done) | (simp only [zA] at *; omega) | omega | (simp [fs]; done) | exact ax))) | (with_reducible intro x hx) | omega) <;> (try simp only [ce, Nat.reduceBEq, reduceIte, Nat.reduceAdd, reduceCtorEq, ne_eq, fw, fd]))
set_option maxHeartbeats 4000000 in
set_option maxRecDepth 8000 in
theorem bEv1 (S : List UInt8) (bad : Bool) (e : Ev) (ha : e.again = true) (hf : zv e) (hl : (S ++ rP e).length ≤ 1099511627776) :
  nZ 36 [.agg e.cells] S bad (xX e) (rP e) := by
 unfold zv at hf
 unfold rP at hl
 unfold qP at hl
 simp only [zB] at hl
 obtain ⟨S1, h1, c1, g1⟩ := bM S bad e.start hf.1 (by omega)
 rw [zR] at h1 c1
 obtain ⟨S2, h2, c2, g2⟩ := bN S1 bad e.long 10080 hf.2.1 (by omega) (by omega)
 obtain ⟨b2, d2⟩ : ∃ b2, b2 = (bad || decide (10080 < uI e.long)) := ⟨_, rfl⟩
 rw [← d2] at h2 c2
 obtain ⟨S3, h3, c3, g3⟩ := bF S2 b2 e.again (by omega)
 rw [zR] at h3 c3
 obtain ⟨S4, h4, c4, g4⟩ := bN S3 b2 e.rule.freq 4 hf.2.2.2.1.1 (by omega) (by omega)
 obtain ⟨b4, d4⟩ : ∃ b4, b4 = (b2 || decide (4 < uI e.rule.freq)) := ⟨_, rfl⟩
 rw [← d4] at h4 c4
 obtain ⟨S5, h5, c5, g5⟩ := bN S4 b4 e.rule.interval 999 hf.2.2.2.1.2.1 (by omega) (by omega)
 obtain ⟨b5, d5⟩ : ∃ b5, b5 = (b4 || decide (999 < uI e.rule.interval)) := ⟨_, rfl⟩
 rw [← d5] at h5 c5
 obtain ⟨S6, h6, c6, g6⟩ := bN S5 b5 e.rule.count 5000 hf.2.2.2.1.2.2.1 (by omega) (by omega)
 obtain ⟨b6, d6⟩ : ∃ b6, b6 = (b5 || decide (5000 < uI e.rule.count)) := ⟨_, rfl⟩
 rw [← d6] at h6 c6
 obtain ⟨S7, h7, c7, g7⟩ := bM S6 b6 e.rule.til hf.2.2.2.1.2.2.2.1 (by omega)
 rw [zR] at h7 c7
 obtain ⟨S8, h8, c8, g8⟩ := pC S7 b6 e.rule.bm hf.2.2.2.1.2.2.2.2.1 (by rw [zB]; omega)
 obtain ⟨b8, d8⟩ : ∃ b8, b8 = (b6 || pd e.rule.bm) := ⟨_, rfl⟩
 rw [← d8] at h8 c8
 obtain ⟨S9, h9, c9, g9⟩ := pC S8 b8 e.rule.bmd hf.2.2.2.1.2.2.2.2.2.1 (by rw [zB]; omega)
 obtain ⟨b9, d9⟩ : ∃ b9, b9 = (b8 || pd e.rule.bmd) := ⟨_, rfl⟩
 rw [← d9] at h9 c9
 have L10 : e.rule.bd.length ≤ 140737488351232 := hf.2.2.2.1.2.2.2.2.2.2.1.1
 have u10 := dA (k := e.rule.bd.length) (by have := hf.2.2.2.1.2.2.2.2.2.2.1.1; omega)
 obtain ⟨Q10, h10, p10, q10⟩ := bN S9 b9 e.rule.bd.length 400 (by have := hf.2.2.2.1.2.2.2.2.2.2.1.1; constructor <;> omega) (by omega) (by omega)
 rw [u10] at h10 p10 q10
 obtain ⟨s10, nV, ⟨c10, g10⟩, r10⟩ := eg (x := nG) (e := mS) (Rel := xM) hf.2.2.2.1.2.2.2.2.2.2.1.2 (by rw [zB]; omega) p10 q10 exDa
 rw [← nV, ← cD (x := nG)] at h10
 obtain ⟨b10, d10⟩ : ∃ b10, b10 = (b9 || bn nG 400 e.rule.bd) := ⟨_, rfl⟩
 have y10 : bI b9 400 nG e.rule.bd e.rule.bd.length = b10 := by rw [df, d10]
 rw [← d10] at c10
 obtain ⟨S10, t10⟩ : ∃ S10, S10 = s10 e.rule.bd.length := ⟨_, rfl⟩
 rw [← t10] at c10 g10
 obtain ⟨S11, h11, c11, g11⟩ := pC S10 b10 e.rule.bsp hf.2.2.2.1.2.2.2.2.2.2.2.1 (by rw [zB]; omega)
 obtain ⟨b11, d11⟩ : ∃ b11, b11 = (b10 || pd e.rule.bsp) := ⟨_, rfl⟩
 rw [← d11] at h11 c11
 obtain ⟨S12, h12, c12, g12⟩ := bN S11 b11 e.rule.start 6 hf.2.2.2.1.2.2.2.2.2.2.2.2 (by omega) (by omega)
 obtain ⟨b12, d12⟩ : ∃ b12, b12 = (b11 || decide (6 < uI e.rule.start)) := ⟨_, rfl⟩
 rw [← d12] at h12 c12
 obtain ⟨S13, h13, c13, g13⟩ := bStE S12 b12 e.ex hf.2.2.2.2.1 (by rw [zB]; omega)
 obtain ⟨b13, d13⟩ : ∃ b13, b13 = (b12 || bn vF 50 e.ex) := ⟨_, rfl⟩
 rw [← d13] at h13 c13
 obtain ⟨S14, h14, c14, g14⟩ := bStP S13 b13 e.plus hf.2.2.2.2.2.1 (by rw [zB]; omega)
 obtain ⟨b14, d14⟩ : ∃ b14, b14 = (b13 || bn vG 50 e.plus) := ⟨_, rfl⟩
 rw [← d14] at h14 c14
 have L15 : e.ch.length ≤ 140737488351232 := hf.2.2.2.2.2.2.1
 have u15 := dA (k := e.ch.length) (by have := hf.2.2.2.2.2.2.1; omega)
 obtain ⟨Q15, h15, p15, q15⟩ := bN S14 b14 e.ch.length 50 (by have := hf.2.2.2.2.2.2.1; constructor <;> omega) (by omega) (by omega)
 rw [u15] at h15 p15 q15
 obtain ⟨s15, z15, ⟨c15, g15⟩, r15⟩ := eg (x := nF) (e := mR) (Rel := xL) hf.2.2.2.2.2.2.2 (by rw [zB]; omega) p15 q15 exCh
 rw [← z15, ← cD (x := nF)] at h15
 obtain ⟨b15, d15⟩ : ∃ b15, b15 = (b14 || bn nF 50 e.ch) := ⟨_, rfl⟩
 have y15 : bI b14 50 nF e.ch e.ch.length = b15 := by rw [df, d15]
 rw [← d15] at c15
 obtain ⟨S15, t15⟩ : ∃ S15, S15 = s15 e.ch.length := ⟨_, rfl⟩
 rw [← t15] at c15 g15
 have eb : (bad || xX e) = b15 := by rw [d15, d14, d13, d12, d11, d10, d9, d8, d6, d5, d4, d2]; simp only [xX, xY, zQ]
 refine ⟨S15, ?_, fun h => ?_, by unfold rP; unfold qP; (try simp only [zB]); omega⟩
 rotate_left
 ·rw [eb] at h
  have k15 := h
  have k14 := k15
  rw [d15, zM] at k14
  replace k14 := k14.1
  have k13 := k14
  rw [d14, zM] at k13
  replace k13 := k13.1
  have k12 := k13
  rw [d13, zM] at k12
  replace k12 := k12.1
  have k11 := k12
  rw [d12, zM] at k11
  replace k11 := k11.1
  have k10 := k11
  rw [d11, zM] at k10
  replace k10 := k10.1
  have k9 := k10
  rw [d10, zM] at k9
  replace k9 := k9.1
  have k8 := k9
  rw [d9, zM] at k8
  replace k8 := k8.1
  have k7 := k8
  rw [d8, zM] at k7
  replace k7 := k7.1
  have k6 := k7
  have k5 := k6
  rw [d6, zM] at k5
  replace k5 := k5.1
  have k4 := k5
  rw [d5, zM] at k4
  replace k4 := k4.1
  have k3 := k4
  rw [d4, zM] at k3
  replace k3 := k3.1
  have k2 := k3
  have k1 := k2
  rw [d2, zM] at k1
  replace k1 := k1.1
  rw [c15 k15, c14 k14, c13 k13, c12 k12, c11 k11, c10 k10, c9 k9, c8 k8, c7 k7, c6 k6, c5 k5, c4 k4, c3 k3, c2 k2, c1 k1]
  simp only [rP, qP, zJ]
 rw [eb]
 clear eb c1 c2 c3 c4 c5 c6 c7 c8 c9 c10 c11 c12 c13 c14 c15 d2 d4 d5 d6 d8 d9 d10 d11 d12 d13 d14 d15
 unfold Ev.cells
 rw [ha] at h3 ⊢
 refine bf Tryz.func36 low36 (by simp [c36]) ?_
 simp only [c36]
 repeat' ((first | apply ah | apply al | apply ao | apply av | refine aq rfl ?_ | apply ai | apply af | apply ab | apply ak mixed | apply ap mixed | (with_reducible first | refine ac ?_ | refine ar ?_ | refine aw ?_) | refine ae (h1) ?_ ?_ | refine ae (h2) ?_ ?_ | refine ae (h3) ?_ ?_ | refine ae (h4) ?_ ?_ | refine ae (h5) ?_ ?_ | refine ae (h6) ?_ ?_ | refine ae (h7) ?_ ?_ | refine ae (h8) ?_ ?_ | refine ae (h9) ?_ ?_ | refine ae (h10) ?_ ?_ | refine ae (h11) ?_ ?_ | refine ae (h12) ?_ ?_ | refine ae (h13) ?_ ?_ | refine ae (h14) ?_ ?_ | refine ae (h15) ?_ ?_ | simp (disch := omega) only [aW, aF, aK, aL, bg, zI, zH] | (refine aa ?_ ?_ <;> intro hc <;> (try simp only [hc]) <;> try simp at hc) | (with_reducible refine ⟨?_, ?_⟩; (focus ((repeat' with_reducible refine ⟨?_, ?_⟩) <;> first | exact trivial | assumption | (simp; done) | (simp only [zA] at *; omega) | omega | (simp [fs]; done) | exact ax))) | (with_reducible intro x hx) | omega) <;> (try simp only [ce, aD, Nat.reduceBEq, reduceIte, Nat.reduceAdd, Nat.reduceLeDiff, reduceCtorEq, ne_eq, fw, fd]))
 refine aM (ι := {i : Nat // i ≤ e.rule.bd.length}) (fun i => ([(2, .ptr 0 0 0 1), (3, .ptr 1 0 0 1), (4, .ptr 2 0 0 1), (5, .ptr 3 0 0 1), (52, .int .i64 e.rule.bd.length), (53, .int .i64 i.1)], [Vb (s10 i.1) (bI b9 400 nG e.rule.bd i.1), Va 16 [.int .i64 e.start, .int .i64 e.long, .bool e.world, .bool true, .int .i64 e.rule.freq, .int .i64 e.rule.interval, .int .i64 e.rule.count, .int .i64 e.rule.til, L (aJ .i64 e.rule.bm), L (aJ .i64 e.rule.bmd), L (aV .i64 .i64 e.rule.bd), L (aJ .i64 e.rule.bsp), .int .i64 e.rule.start, L (aJ .i64 e.ex), L (aJ .i64 e.plus), L (bo e.ch)], Vb [] false, Va 9 [.int .i64 e.rule.freq, .int .i64 e.rule.interval, .int .i64 e.rule.count, .int .i64 e.rule.til, L (aJ .i64 e.rule.bm), L (aJ .i64 e.rule.bmd), L (aV .i64 .i64 e.rule.bd), L (aJ .i64 e.rule.bsp), .int .i64 e.rule.start]])) (fun i => e.rule.bd.length - i.1) ⟨0, by omega⟩ ?_ ?_
 ·refine aC [0, 1, 2, 3] (by rfl) (by simp) (by simp [fg]) (by simp [fg])
 rintro ⟨i, hi⟩ hk
 dsimp only at hk ⊢
 by_cases hlt : i < e.rule.bd.length
 ·have c1 : ((i : Int) < (e.rule.bd.length : Int)) = True := by simp; omega
  obtain ⟨y, hy⟩ : ∃ y, e.rule.bd[i]? = some y := ⟨_, zD hlt⟩
  have hr := bu (k := .i64) (m := .i64) hy
  have hb : bI b9 400 nG e.rule.bd (i + 1) = (bI b9 400 nG e.rule.bd i || nG y) := cm hy
  have hm := hf.2.2.2.1.2.2.2.2.2.2.1.2 y (zE hy)
  unfold vp at hm
  obtain ⟨W1, v0, v1⟩ := (r10 i y hy).2
  repeat' ((first | apply ah | apply al | apply ao | apply av | refine aq rfl ?_ | apply ai | apply af | apply ab | apply ak mixed | apply ap mixed | (with_reducible first | refine ac ?_ | refine ar ?_ | refine aw ?_) | refine ae (v0) ?_ ?_ | refine ae (v1) ?_ ?_ | simp (disch := omega) only [aW] | (refine aa ?_ ?_ <;> intro hc <;> (try simp only [hc]) <;> try simp at hc) | (with_reducible refine ⟨?_, ?_⟩; (focus ((repeat' with_reducible refine ⟨?_, ?_⟩) <;> first | exact trivial | assumption | (simp; done) | (simp only [zA] at *; omega) | omega | (simp [fs]; done) | exact ax))) | (with_reducible intro x hx) | omega) <;> (try simp only [aD, c1, hr, Nat.reduceBEq, reduceIte, Nat.reduceAdd, Int.reduceNeg, fw, fd]))
  refine hk ⟨i + 1, by omega⟩ _ _ (by dsimp only; omega) ?_
  dsimp only
  rw [hb]
  unfold nG
  simp only [← zQ]
  refine aC [0, 1, 2, 3] (by rfl) (by simp) (by simp [fg]) (by simp [fg])
 have c1 : ((i : Int) < (e.rule.bd.length : Int)) = False := by simp; omega
 obtain rfl : i = e.rule.bd.length := by omega
 clear hk hlt hi
 rw [← t10, y10]
 repeat' ((first | apply ah | apply al | apply ao | apply av | refine aq rfl ?_ | apply ai | apply af | apply ab | apply ak mixed | apply ap mixed | (with_reducible first | refine ac ?_ | refine ar ?_ | refine aw ?_) | refine ae (h11) ?_ ?_ | refine ae (h12) ?_ ?_ | refine ae (h13) ?_ ?_ | refine ae (h14) ?_ ?_ | refine ae (h15) ?_ ?_ | simp (disch := omega) only [aW, aF, aK, aL, bg, zI, zH] | (refine aa ?_ ?_ <;> intro hc <;> (try simp only [hc]) <;> try simp at hc) | (with_reducible refine ⟨?_, ?_⟩; (focus ((repeat' with_reducible refine ⟨?_, ?_⟩) <;> first | exact trivial | assumption | (simp; done) | (simp only [zA] at *; omega) | omega | (simp [fs]; done) | exact ax))) | (with_reducible intro x hx) | omega) <;> (try simp only [aR, c1, Nat.reduceBEq, reduceIte, Nat.reduceAdd, reduceCtorEq, fw, fd]))
 refine aM (ι := {i : Nat // i ≤ e.ch.length}) (fun i => ([(2, .ptr 0 0 0 1), (3, .ptr 1 0 0 1), (4, .ptr 2 0 0 1), (91, .int .i64 e.ch.length), (92, .int .i64 i.1)], [Vb (s15 i.1) (bI b14 50 nF e.ch i.1), Va 16 [.int .i64 e.start, .int .i64 e.long, .bool e.world, .bool true, .int .i64 e.rule.freq, .int .i64 e.rule.interval, .int .i64 e.rule.count, .int .i64 e.rule.til, L (aJ .i64 e.rule.bm), L (aJ .i64 e.rule.bmd), L (aV .i64 .i64 e.rule.bd), L (aJ .i64 e.rule.bsp), .int .i64 e.rule.start, L (aJ .i64 e.ex), L (aJ .i64 e.plus), L (bo e.ch)], Vb [] false])) (fun i => e.ch.length - i.1) ⟨0, by omega⟩ ?_ ?_
 ·refine aC [0, 1, 2] (by rfl) (by simp) (by simp [fg]) (by simp [fg])
 rintro ⟨i, hi⟩ hk
 dsimp only at hk ⊢
 by_cases hlt : i < e.ch.length
 ·have c1 : ((i : Int) < (e.ch.length : Int)) = True := by simp; omega
  obtain ⟨y, hy⟩ : ∃ y, e.ch[i]? = some y := ⟨_, zD hlt⟩
  have hr := dj hy
  have hb : bI b14 50 nF e.ch (i + 1) = (bI b14 50 nF e.ch i || nF y) := cm hy
  have hm := hf.2.2.2.2.2.2.2 y (zE hy)
  unfold vo at hm
  obtain ⟨W1, W2, v0, v1, v2⟩ := (r15 i y hy).2
  repeat' ((first | apply ah | apply al | apply ao | apply av | refine aq rfl ?_ | apply ai | apply af | apply ab | apply ak mixed | apply ap mixed | (with_reducible first | refine ac ?_ | refine ar ?_ | refine aw ?_) | refine ae (v0) ?_ ?_ | refine ae (v1) ?_ ?_ | refine ae (v2) ?_ ?_ | simp (disch := omega) only [aW] | (refine aa ?_ ?_ <;> intro hc <;> (try simp only [hc]) <;> try simp at hc) | (with_reducible refine ⟨?_, ?_⟩; (focus ((repeat' with_reducible refine ⟨?_, ?_⟩) <;> first | exact trivial | assumption | (simp; done) | (simp only [zA] at *; omega) | omega | (simp [fs]; done) | exact ax))) | (with_reducible intro x hx) | omega) <;> (try simp only [aR, c1, hr, Nat.reduceBEq, reduceIte, Nat.reduceAdd, fw, fd]))
  refine hk ⟨i + 1, by omega⟩ _ _ (by dsimp only; omega) ?_
  dsimp only
  rw [hb]
  unfold nF
  refine aC [0, 1, 2] (by rfl) (by simp) (by simp [fg]) (by simp [fg])
 have c1 : ((i : Int) < (e.ch.length : Int)) = False := by simp; omega
 obtain rfl : i = e.ch.length := by omega
 clear hk hlt hi
 rw [← t15, y15]
 repeat' ((first | apply ah | apply al | apply ao | apply av | refine aq rfl ?_ | apply ai | apply af | apply ab | apply ak mixed | apply ap mixed | (with_reducible first | refine ac ?_ | refine ar ?_ | refine aw ?_) | simp (disch := omega) only [aW, aF, aK, aL, bg, zI, zH] | (refine aa ?_ ?_ <;> intro hc <;> (try simp only [hc]) <;> try simp at hc) | (with_reducible refine ⟨?_, ?_⟩; (focus ((repeat' with_reducible refine ⟨?_, ?_⟩) <;> first | exact trivial | assumption | (simp; done) | (simp only [zA] at *; omega) | omega | (simp [fs]; done) | exact ax))) | (with_reducible intro x hx) | omega) <;> (try simp only [c1, Nat.reduceBEq, reduceIte, Nat.reduceAdd, fw, fd]))
theorem yg (S : List UInt8) (bad : Bool) (e : Ev) (hf : zw e) (hl : (S ++ pE e).length ≤ 1099511627776) :
  nZ 36 [.agg e.cells] S bad (vE e) (pE e) := by
 unfold pE vE
 unfold pE at hl
 cases ha : e.again
 ·rw [if_neg (by rw [ha]; simp)] at hl
  rw [if_neg (by simp), if_neg (by simp)]
  exact bEv0 S bad e ha hf.1 hl
 ·rw [if_pos ha] at hl
  rw [if_pos rfl, if_pos rfl]
  exact bEv1 S bad e ha hf.2 hl
end Go.Proofs.YtgefljdclekadaaGreat

namespace Go.Proofs.YtgefljdclekadaaGreat
open Go Go.Vi
theorem wo (e : Ev) (he : e.fits) : aP Tryz.prog 37 [.agg e.cells] (.bool (decide (pl e = e))) := by
 refine bf Tryz.func37 low37 (by simp [c37]) ?_
 have h2 := oU e.rule vL he.1 (by simp [Ru.fits])
 obtain ⟨e1, e2, e3, e4, e5, e6, e7, e8⟩ := e
 dsimp only at h2
 simp only [c37]
 cases e4
 ·have hd : decide (pl ⟨e1, e2, e3, false, e5, e6, e7, e8⟩ = ⟨e1, e2, e3, false, e5, e6, e7, e8⟩) = (decide (e5 = vL) && (((e6.length : Int) == 0) && (((e7.length : Int) == 0) && ((e8.length : Int) == 0)))) := by
   rw [zN]
   simp only [pl, zS, reduceIte, zP, zO, beq_iff_eq, Ev.mk.injEq, true_and]
   constructor
   ·rintro ⟨rfl, rfl, rfl, rfl⟩
    simp
   ·rintro ⟨h1, h2, h3, h4⟩
    have a1 : e6 = [] := List.eq_nil_of_length_eq_zero (by omega)
    have a2 : e7 = [] := List.eq_nil_of_length_eq_zero (by omega)
    have a3 : e8 = [] := List.eq_nil_of_length_eq_zero (by omega)
    exact ⟨h1.symm, a1.symm, a2.symm, a3.symm⟩
  rw [hd]
  clear hd
  generalize decide (e5 = vL) = d at h2 ⊢
  simp only [Ev.cells]
  rw [show vL.cells = [.int .i64 0, .int .i64 0, .int .i64 0, .int .i64 0, L [], L [], L [], L [], .int .i64 0] from rfl] at h2
  simp only [Ru.cells] at h2
  repeat' ((first | apply ah | apply al | apply ai | apply af | apply ab | apply ak mixed | (with_reducible first | refine ac ?_ | refine ar ?_) | refine ae (h2) ?_ ?_ | ((first | refine aj ?_ ?_ | refine aa ?_ ?_) <;> intro hc <;> (try simp only [hc]) <;> try simp at hc) | (with_reducible refine ⟨?_, ?_⟩; (focus ((repeat' with_reducible refine ⟨?_, ?_⟩) <;> first | exact trivial | assumption | (simp; done) | (simp only [zA] at *; omega) | omega | (simp [fs]; done) | exact ax))) | (with_reducible intro x hx) | omega) <;> (try simp only [aI, aR, Nat.reduceBEq, reduceIte, Nat.reduceAdd, Nat.reduceLeDiff, reduceCtorEq, cond_true, cond_false, ne_eq, fw, fd]))
  all_goals (rw [zN]; simp [*]; try (exact fun h1 h2 => absurd h2 (hc h1)))
 ·have hd : decide (pl ⟨e1, e2, e3, true, e5, e6, e7, e8⟩ = ⟨e1, e2, e3, true, e5, e6, e7, e8⟩) = !e3 := by
   rw [zN]
   simp only [pl, reduceIte, zO, Ev.mk.injEq, true_and, and_true]
   cases e3 <;> simp
  rw [hd]
  clear hd h2
  simp only [Ev.cells]
  repeat' ((first | apply ah | apply al | apply ai | apply af | apply ab | apply ak mixed | (with_reducible first | refine ac ?_ | refine ar ?_) | ((first | refine aj ?_ ?_ | refine aa ?_ ?_) <;> intro hc <;> (try simp only [hc]) <;> try simp at hc) | (with_reducible refine ⟨?_, ?_⟩; (focus ((repeat' with_reducible refine ⟨?_, ?_⟩) <;> first | exact trivial | assumption | (simp; done) | (simp only [zA] at *; omega) | omega | (simp [fs]; done) | exact ax))) | (with_reducible intro x hx) | omega) <;> (try simp only [Nat.reduceBEq, reduceIte, Nat.reduceAdd, reduceCtorEq, ne_eq, fw, fd]))
theorem nu {α : Type} {S : List UInt8} {bad : Bool} {m : Nat} {e : α → List UInt8} {x : α → Bool} {f : α → Prop} {xs : List α} {S1 : List UInt8} {Rel : α → Bool → List UInt8 → List UInt8 → Prop} (hf : ∀ y ∈ xs, f y) (hl : (S ++ aY e xs).length ≤ 1099511627776)
  (h1 : (bad || decide (m < xs.length)) = false → S1 = S ++ bl xs.length) (h2 : S1.length ≤ S.length + (bl xs.length).length)
  (hb : ∀ y, f y → ∀ S b, (S ++ e y).length ≤ 1099511627776 → ∃ S2, Rel y b S S2 ∧ ((b || x y) = false → S2 = S ++ e y) ∧ S2.length ≤ S.length + (e y).length) :
  ∃ s : Nat → List UInt8, s 0 = S1 ∧ (((bad || bn x m xs) = false → s xs.length = S ++ aY e xs) ∧ (s xs.length).length ≤ S.length + (aY e xs).length) ∧
   ∀ i y, xs[i]? = some y → (s i).length ≤ 1099511627776 ∧ Rel y (bI bad m x xs i) (s i) (s (i + 1)) := by
 obtain ⟨s, e0, hn, hs⟩ := qn (P := yd S bad m e x xs) (Rel := fun i S' S2 => ∀ y, xs[i]? = some y → Rel y (bI bad m x xs i) S' S2) (S1 := S1) (oq h1 h2) xs.length (fun i S' hi hp => by
  obtain ⟨y, hy⟩ : ∃ y, xs[i]? = some y := ⟨_, zD hi⟩
  have hle : (S' ++ e y).length ≤ 1099511627776 := by
   have a1 := hp.2.2
   have a2 := lV e xs (i + 1)
   rw [fS e hy] at a2
   unfold aY at hl
   simp only [zB] at a1 a2 hl ⊢
   omega
  obtain ⟨S2, r1, r2, r3⟩ := hb y (hf y (zE hy)) S' (bI bad m x xs i) hle
  refine ⟨S2, fun z hz => ?_, oj hy hp (by rw [cm hy]; exact r2) r3⟩
  rw [hy] at hz
  cases hz
  exact r1)
 refine ⟨s, e0, qK hn, fun i y hy => ?_⟩
 have hi : i < xs.length := (zG.1 hy).1
 exact ⟨pz (hs i hi).1 hl, (hs i hi).2 y hy⟩
def uE (y : En) (b : Bool) (S S2 : List UInt8) : Prop := ∃ T, aP Tryz.prog 24 [Bd S b, .int .u64 y.id] (Bd T b) ∧ aP Tryz.prog 36 [Bd T b, .agg y.ev.cells] (Bd S2 (b || vE y.ev))
theorem exEn (y : En) (hy : yR y) (S : List UInt8) (b : Bool) (hl : (S ++ lr y).length ≤ 1099511627776) : ∃ S2, uE y b S S2 ∧ ((b || nU y) = false → S2 = S ++ lr y) ∧ S2.length ≤ S.length + (lr y).length := by
 unfold lr at hl
 simp only [zB] at hl
 obtain ⟨T, a1, c1, l1⟩ := bU S b y.id ⟨hy.1.1, by have := hy.1.2; omega⟩ (by omega)
 rw [zR] at a1 c1
 obtain ⟨S2, a2, c2, l2⟩ := yg T b y.ev hy.2 (by rw [zB]; omega)
 refine ⟨S2, ⟨T, a1, a2⟩, fun h => ?_, by unfold lr; rw [zB]; omega⟩
 unfold nU at h
 have h1 := (zM.1 h).1
 rw [c2 h, c1 h1]
 simp only [lr, zJ]
def uK (u : Us) (b : Bool) (S S' : List UInt8) : Prop := ∃ A1 A2 A3, ∃ q : Nat → List UInt8, aP Tryz.prog 24 [Bd S b, .int .u64 u.id] (Bd A1 b) ∧ aP Tryz.prog 35 [Bd A1 b, .agg u.se.cells] (Bd A2 (b || mI u.se)) ∧
 aP Tryz.prog 24 [Bd A2 (b || mI u.se), .int .u64 u.ver] (Bd A3 (b || mI u.se)) ∧ aP Tryz.prog 23 [Bd A3 (b || mI u.se), .int .i64 u.evs.length, .int .i64 64] (Bd (q 0) (bI (b || mI u.se) 64 nU u.evs 0)) ∧
 (∀ i y, u.evs[i]? = some y → uE y (bI (b || mI u.se) 64 nU u.evs i) (q i) (q (i + 1))) ∧ S' = q u.evs.length
theorem exUs (u : Us) (hu : tz u) (S : List UInt8) (b : Bool) (hl : (S ++ hU u).length ≤ 1099511627776) : ∃ S2, uK u b S S2 ∧ ((b || iW u) = false → S2 = S ++ hU u) ∧ S2.length ≤ S.length + (hU u).length := by
 unfold hU at hl
 unfold tz at hu
 simp only [zB] at hl
 obtain ⟨A1, a1, c1, l1⟩ := bU S b u.id ⟨hu.1.1, by have := hu.1.2; omega⟩ (by omega)
 rw [zR] at a1 c1
 obtain ⟨A2, a2, c2, l2⟩ := rJ A1 b u.se hu.2.1 (by rw [zB]; omega)
 obtain ⟨A3, a3, c3, l3⟩ := bU A2 (b || mI u.se) u.ver hu.2.2.1 (by omega)
 rw [zR] at a3 c3
 have un := dA (k := u.evs.length) (by have := hu.2.2.2.1; omega)
 obtain ⟨Q, a4, p4, q4⟩ := bN A3 (b || mI u.se) u.evs.length 64 (by have := hu.2.2.2.1; constructor <;> omega) (by omega) (by omega)
 rw [un] at a4 p4 q4
 obtain ⟨q, e0, ⟨c5, l5⟩, r5⟩ := nu (x := nU) (e := lr) (Rel := uE) hu.2.2.2.2 (by rw [zB]; omega) p4 q4 exEn
 rw [← e0, ← cD (x := nU)] at a4
 refine ⟨q u.evs.length, ⟨A1, A2, A3, q, a1, a2, a3, a4, fun i y hy => (r5 i y hy).2, rfl⟩, fun h => ?_, by unfold hU; simp only [zB]; omega⟩
 unfold iW at h
 rw [← zQ] at h
 have h1 := (zM.1 h).1
 have h2 := (zM.1 h1).1
 rw [c5 h, c3 h1, c2 h1, c1 h2]
 simp only [hU, zJ]
def ro (p : Po) (b : Bool) (S S2 : List UInt8) : Prop := aP Tryz.prog 28 [Bd S b, .agg p.row] (Bd S2 (b || im p))
theorem exPo (p : Po) (hp : tw p) (S : List UInt8) (b : Bool) (hl : (S ++ gz p).length ≤ 1099511627776) : ∃ S2, ro p b S S2 ∧ ((b || im p) = false → S2 = S ++ gz p) ∧ S2.length ≤ S.length + (gz p).length := bPoll S b p hp hl
def uD (y : Int × Int × Int) (b : Bool) (S S2 : List UInt8) : Prop := ∃ T1 T2, aP Tryz.prog 24 [Bd S b, .int .u64 y.1] (Bd T1 b) ∧ aP Tryz.prog 24 [Bd T1 b, .int .u64 y.2.1] (Bd T2 b) ∧ aP Tryz.prog 24 [Bd T2 b, .int .u64 y.2.2] (Bd S2 b)
theorem exDn (y : Int × Int × Int) (hy : vq y) (S : List UInt8) (b : Bool) (hl : S.length ≤ 1099511627776) : ∃ S2, uD y b S S2 ∧ ((b || mH y) = false → S2 = S ++ lQ y) ∧ S2.length ≤ S.length + (lQ y).length := by
 unfold vq at hy
 have w0 := bv (cy y.1)
 obtain ⟨U1, a0, c0, l0⟩ := bU S b y.1 ⟨hy.1.1, by have := hy.1.2; omega⟩ (by omega)
 rw [zR] at a0 c0
 have w1 := bv (cy y.2.1)
 obtain ⟨U2, a1, c1, l1⟩ := bU U1 b y.2.1 ⟨hy.2.1.1, by have := hy.2.1.2; omega⟩ (by omega)
 rw [zR] at a1 c1
 have w2 := bv (cy y.2.2)
 obtain ⟨U3, a2, c2, l2⟩ := bU U2 b y.2.2 ⟨hy.2.2.1, by have := hy.2.2.2; omega⟩ (by omega)
 rw [zR] at a2 c2
 refine ⟨U3, ⟨U1, U2, a0, a1, a2⟩, fun h => ?_, by simp only [lQ, zB]; omega⟩
 unfold mH at h
 rw [zR] at h
 have h2 := h
 have h1 := h2
 have h0 := h1
 rw [c2 h2, c1 h1, c0 h0]
 simp only [lQ, zJ]
structure StS (s : Sq) where
 S1 : List UInt8
 us : Nat → List UInt8
 ps : Nat → List UInt8
 ds : Nat → List UInt8
 b1 : Bool
 b2 : Bool
 b3 : Bool
 h1 : aP Tryz.prog 25 [Bd [] false, .int .i64 s.t] (Bd S1 false)
 h2 : aP Tryz.prog 23 [Bd S1 false, .int .i64 s.us.length, .int .i64 100] (Bd (us 0) (bI false 100 iW s.us 0))
 h3 : ∀ i y, s.us[i]? = some y → uK y (bI false 100 iW s.us i) (us i) (us (i + 1))
 e1 : bI false 100 iW s.us s.us.length = b1
 h4 : aP Tryz.prog 23 [Bd (us s.us.length) b1, .int .i64 s.ps.length, .int .i64 50] (Bd (ps 0) (bI b1 50 im s.ps 0))
 h5 : ∀ i y, s.ps[i]? = some y → ro y (bI b1 50 im s.ps i) (ps i) (ps (i + 1))
 e2 : bI b1 50 im s.ps s.ps.length = b2
 h6 : aP Tryz.prog 23 [Bd (ps s.ps.length) b2, .int .i64 s.ds.length, .int .i64 4096] (Bd (ds 0) (bI b2 4096 mH s.ds 0))
 h7 : ∀ i y, s.ds[i]? = some y → uD y (bI b2 4096 mH s.ds i) (ds i) (ds (i + 1))
 e3 : bI b2 4096 mH s.ds s.ds.length = b3
 hb : b3 = sY s
 he : b3 = false → ds s.ds.length = gA s
 hl : (ds s.ds.length).length ≤ (gA s).length
theorem zq (s : Sq) (hf : sW s) (hl : (gA s).length ≤ 1099511627776) : Nonempty (StS s) := by
 unfold sW at hf
 have hl' := hl
 unfold gA at hl
 simp only [zB] at hl
 obtain ⟨S1, a1, c1, l1⟩ := bM [] false s.t hf.1 (by simp)
 rw [zR] at a1 c1
 simp only [zL, Nat.zero_add] at l1
 have u2 := dA (k := s.us.length) (by have := hf.2.1.1; omega)
 obtain ⟨Q2, a2, p2, q2⟩ := bN S1 false s.us.length 100 (by have := hf.2.1.1; constructor <;> omega) (by omega) (by omega)
 rw [u2] at a2 p2 q2
 obtain ⟨us, z2, ⟨c2, l2⟩, r2⟩ := nu (x := iW) (e := hU) (Rel := uK) hf.2.1.2 (by rw [zB]; omega) p2 q2 exUs
 rw [← z2, ← cD (x := iW)] at a2
 obtain ⟨b1, d1⟩ : ∃ b1, b1 = (false || bn iW 100 s.us) := ⟨_, rfl⟩
 have y1 : bI false 100 iW s.us s.us.length = b1 := by rw [df, d1]
 rw [← d1] at c2
 have u3 := dA (k := s.ps.length) (by have := hf.2.2.1.1; omega)
 obtain ⟨Q3, a3, p3, q3⟩ := bN (us s.us.length) b1 s.ps.length 50 (by have := hf.2.2.1.1; constructor <;> omega) (by omega) (by omega)
 rw [u3] at a3 p3 q3
 obtain ⟨ps, z3, ⟨c3, l3⟩, r3⟩ := nu (x := im) (e := gz) (Rel := ro) hf.2.2.1.2 (by rw [zB]; omega) p3 q3 exPo
 rw [← z3, ← cD (x := im)] at a3
 obtain ⟨b2, d2⟩ : ∃ b2, b2 = (b1 || bn im 50 s.ps) := ⟨_, rfl⟩
 have y2 : bI b1 50 im s.ps s.ps.length = b2 := by rw [df, d2]
 rw [← d2] at c3
 have u4 := dA (k := s.ds.length) (by have := hf.2.2.2.1; omega)
 obtain ⟨Q4, a4, p4, q4⟩ := bN (ps s.ps.length) b2 s.ds.length 4096 (by have := hf.2.2.2.1; constructor <;> omega) (by omega) (by omega)
 rw [u4] at a4 p4 q4
 obtain ⟨ds, z4, ⟨c4, l4⟩, r4⟩ := eg (x := mH) (e := lQ) (Rel := uD) hf.2.2.2.2 (by rw [zB]; omega) p4 q4 exDn
 rw [← z4, ← cD (x := mH)] at a4
 obtain ⟨b3, d3⟩ : ∃ b3, b3 = (b2 || bn mH 4096 s.ds) := ⟨_, rfl⟩
 have y3 : bI b2 4096 mH s.ds s.ds.length = b3 := by rw [df, d3]
 rw [← d3] at c4
 refine ⟨⟨S1, us, ps, ds, b1, b2, b3, a1, a2, fun i y hy => (r2 i y hy).2, y1, a3, fun i y hy => (r3 i y hy).2, y2, a4, fun i y hy => (r4 i y hy).2, y3, ?_, fun h => ?_, ?_⟩⟩
 ·rw [d3, d2, d1]
  simp only [sY, zQ, Bool.false_or]
 ·have k3 := h
  rw [d3, zM] at k3
  have k2 := k3.1
  rw [d2, zM] at k2
  rw [c4 h, c3 k3.1, c2 k2.1, c1 rfl]
  simp only [gA, zJ, List.nil_append]
 ·unfold gA
  simp only [zB]
  omega
end Go.Proofs.YtgefljdclekadaaGreat

namespace Go.Proofs.YtgefljdclekadaaGreat
open Go Go.Vi
def pS (u : Us) : Prop := ∀ (k : Nat) e, u.evs[k]? = some e → pl e.ev = e.ev
def iu (s : Sq) : Prop := ∀ (k : Nat) u, s.us[k]? = some u → pS u
set_option maxHeartbeats 16000000 in
set_option maxRecDepth 8000 in
theorem wx (s : Sq) (hs : StS s) (A : D) (hul : s.us.length ≤ 140737488351232) (hpl : s.ps.length ≤ 140737488351232) (hdl : s.ds.length ≤ 140737488351232) (hfe : ∀ u ∈ s.us, tz u ∧ u.fit) (hfd : ∀ d ∈ s.ds, vq d)
  (hno : ¬ iu s → A = .tup [.str (bs []), .bool false]) (hbad : iu s → sY s = true → A = .tup [.str (bs []), .bool false]) (hlong : iu s → sY s = false → 1048576 < (gA s).length → A = .tup [.str (bs []), .bool false])
  (hyes : iu s → sY s = false → (gA s).length ≤ 1048576 → A = .tup [.str (bs (gA s)), .bool true]) (hel : (gA s).length ≤ 1099511627776) :
  aP Tryz.prog 13 [.agg s.cells] A := by
 obtain ⟨S1, us, ps, ds, b1, b2, b3, h1, h2, h3, e1, h4, h5, e2, h6, h7, e3, hb, he, hle⟩ := hs
 refine bf Tryz.func13 low13 (by simp [c13]) ?_
 simp only [c13, Sq.cells]
 repeat' ((first | apply ah | apply al | apply ao | apply av | refine aq rfl ?_ | apply ai | apply af | apply ab | apply ak mixed | apply ap mixed | (with_reducible first | refine ac ?_ | refine ar ?_ | refine aw ?_) | refine ae (h1) ?_ ?_ | refine ae (h2) ?_ ?_ | simp (disch := omega) only [aW, aF, aK, aL, bg, zI, zH] | ((first | refine aj ?_ ?_ | refine aa ?_ ?_) <;> intro hc <;> (try simp only [hc]) <;> try simp at hc) | (with_reducible refine ⟨?_, ?_⟩; (focus ((repeat' with_reducible refine ⟨?_, ?_⟩) <;> first | exact trivial | assumption | (simp; done) | (simp only [zA] at *; omega) | omega | (simp [fs]; done) | exact ax))) | (with_reducible intro x hx) | omega) <;> (try simp only [ce, dE, Nat.reduceBEq, reduceIte, Nat.reduceAdd, reduceCtorEq, ne_eq, fw, fd]))
 refine aM (ι := {i : Nat // i ≤ s.us.length ∧ ∀ (k : Nat) u, k < i → s.us[k]? = some u → pS u}) (fun i => ([(1, .ptr 0 0 0 1), (2, .str (bs [])), (3, .bool false), (4, .ptr 1 0 0 1), (20, .int .i64 s.us.length), (21, .int .i64 i.1)], [Va 4 [.int .i64 s.t, L (bP s.us), L (bO s.ps), L (fY s.ds)], Vb (us i.1) (bI false 100 iW s.us i.1)])) (fun i => s.us.length - i.1) ⟨0, by omega, fun k u hk => by omega⟩ ?_ ?_
 ·refine aC [0, 1] (by rfl) (by simp) (by simp [fg]) (by simp [fg])
 rintro ⟨i, hi, hpi⟩ hk
 dsimp only at hk ⊢
 by_cases hlt : i < s.us.length
 ·have c1 : ((i : Int) < (s.us.length : Int)) = True := by simp; omega
  obtain ⟨u, hg⟩ : ∃ u, s.us[i]? = some u := ⟨_, zD hlt⟩
  have hr := iS hg
  unfold Us.row at hr
  obtain ⟨A1, A2, A3, q, v1, v2, v3, v4, v5, v6⟩ := h3 i u hg
  obtain ⟨hfu, hfit⟩ := hfe u (zE hg)
  have hb2 : bI false 100 iW s.us (i + 1) = bI (bI false 100 iW s.us i || mI u.se) 64 nU u.evs u.evs.length := by
   rw [cm hg, df, zQ]
   rfl
  generalize bI false 100 iW s.us i = bi at v1 v2 v3 v4 v5 hb2 ⊢
  generalize hbj : (bi || mI u.se) = bj at v2 v3 v4 v5 hb2
  have o0 : IntKind.u64.wrap u.id = u.id := by rw [dm]; have := hfu.1; omega
  have hel2 : u.evs.length ≤ 140737488351232 := hfit.2.1
  unfold Se.cells at v2
  repeat' ((first | apply ah | apply al | apply ao | apply av | refine aq rfl ?_ | apply ai | apply af | apply ab | apply ak mixed | apply ap mixed | (with_reducible first | refine ac ?_ | refine ar ?_ | refine aw ?_) | refine ae (v1) ?_ ?_ | refine ae (v2) ?_ ?_ | refine ae (v3) ?_ ?_ | refine ae (v4) ?_ ?_ | simp (disch := omega) only [aW, aF, aK, aL, bg, zI, zH] | ((first | refine aj ?_ ?_ | refine aa ?_ ?_) <;> intro hc <;> (try simp only [hc]) <;> try simp at hc) | (with_reducible refine ⟨?_, ?_⟩; (focus ((repeat' with_reducible refine ⟨?_, ?_⟩) <;> first | exact trivial | assumption | (simp; done) | (simp only [zA] at *; omega) | omega | (simp [fs]; done) | exact ax))) | (with_reducible intro x hx) | omega) <;> (try simp only [fq, dE, c1, hr, o0, Nat.reduceBEq, reduceIte, Nat.reduceAdd, Nat.reduceLeDiff, reduceCtorEq, ne_eq, fw, fd]))
  refine aM (ι := {k : Nat // k ≤ u.evs.length ∧ ∀ (j : Nat) e, j < k → u.evs[j]? = some e → pl e.ev = e.ev}) (fun k => ([(1, .ptr 0 0 0 1), (2, .str (bs [])), (3, .bool false), (4, .ptr 1 0 0 1), (6, .ptr 2 0 0 1), (20, .int .i64 s.us.length), (21, .int .i64 i), (46, .int .i64 u.evs.length), (47, .int .i64 k.1)], [Va 4 [.int .i64 s.t, L (bP s.us), L (bO s.ps), L (fY s.ds)], Vb (q k.1) (bI bj 64 nU u.evs k.1), Va 9 [.int .u32 u.id, .int .i64 u.se.base, L (aV .i64 .i64 u.se.turns), L (bo u.se.shifts), L (aJ .i64 u.se.off), .int .i64 u.se.before, .int .i64 u.se.after, .int .u64 u.ver, L (cW u.evs)]])) (fun k => u.evs.length - k.1) ⟨0, by omega, fun j e hj => by omega⟩ ?_ ?_
  ·refine aC [0, 1, 2] (by rfl) (by simp) (by simp [fg]) (by simp [fg])
  rintro ⟨k, hk1, hpk⟩ hk2
  dsimp only at hk2 ⊢
  by_cases hlt2 : k < u.evs.length
  ·have c2 : ((k : Int) < (u.evs.length : Int)) = True := by simp; omega
   obtain ⟨e, hge⟩ : ∃ e, u.evs[k]? = some e := ⟨_, zD hlt2⟩
   have hre := kQ hge
   unfold En.row at hre
   obtain ⟨T, w1, w2⟩ := v5 k e hge
   have hfx := hfu.2.2.2.2 e (zE hge)
   have o1 : IntKind.u64.wrap e.id = e.id := by rw [dm]; have := hfx.1; omega
   have hb3 : bI bj 64 nU u.evs (k + 1) = (bI bj 64 nU u.evs k || vE e.ev) := cm hge
   have pp := wo e.ev (hfit.2.2 e (zE hge))
   unfold Ev.cells at w2 pp
   generalize bI bj 64 nU u.evs k = bk at w1 w2 hb3 ⊢
   by_cases hp : pl e.ev = e.ev
   ·rw [decide_eq_true hp] at pp
    repeat' ((first | apply ah | apply al | apply ao | apply av | refine aq rfl ?_ | apply ai | apply af | apply ab | apply ak mixed | apply ap mixed | (with_reducible first | refine ac ?_ | refine ar ?_ | refine aw ?_) | refine ae (w1) ?_ ?_ | refine ae (w2) ?_ ?_ | refine ae (pp) ?_ ?_ | simp (disch := omega) only [aW] | ((first | refine aj ?_ ?_ | refine aa ?_ ?_) <;> intro hc <;> (try simp only [hc]) <;> try simp at hc) | (with_reducible refine ⟨?_, ?_⟩; (focus ((repeat' with_reducible refine ⟨?_, ?_⟩) <;> first | exact trivial | assumption | (simp; done) | (simp only [zA] at *; omega) | omega | (simp [fs]; done) | exact ax))) | (with_reducible intro x hx) | omega) <;> (try simp only [fq, c2, hre, o1, Nat.reduceBEq, reduceIte, Nat.reduceAdd, fw, fd]))
    refine hk2 ⟨k + 1, by omega, fun j e' hj hje => ?_⟩ _ _ (by dsimp only; omega) ?_
    ·by_cases hjk : j < k
     ·exact hpk j e' hjk hje
     ·obtain rfl : j = k := by omega
      rw [hge] at hje
      cases hje
      exact hp
    dsimp only
    rw [hb3]
    refine aC [0, 1, 2] (by rfl) (by simp) (by simp [fg]) (by simp [fg])
   ·rw [decide_eq_false hp] at pp
    rw [hno (fun h => hp (h i u hg k e hge))]
    repeat' ((first | apply ah | apply al | apply ao | apply av | refine aq rfl ?_ | apply ai | apply af | apply ab | apply ak mixed | apply ap mixed | (with_reducible first | refine ac ?_ | refine ar ?_ | refine aw ?_) | refine ae (w1) ?_ ?_ | refine ae (w2) ?_ ?_ | refine ae (pp) ?_ ?_ | simp (disch := omega) only [aW, aF, aK, aL, bg, zI, zH] | ((first | refine aj ?_ ?_ | refine aa ?_ ?_) <;> intro hc <;> (try simp only [hc]) <;> try simp at hc) | (with_reducible refine ⟨?_, ?_⟩; (focus ((repeat' with_reducible refine ⟨?_, ?_⟩) <;> first | exact trivial | assumption | (simp; done) | (simp only [zA] at *; omega) | omega | (simp [fs]; done) | exact ax))) | (with_reducible intro x hx) | omega) <;> (try simp only [ce, fq, c2, hre, o1, Nat.reduceBEq, reduceIte, Nat.reduceAdd, fw, fd]))
  ·have c2 : ((k : Int) < (u.evs.length : Int)) = False := by simp; omega
   obtain rfl : k = u.evs.length := by omega
   repeat' ((first | apply ah | apply al | apply ao | apply av | refine aq rfl ?_ | apply ai | apply af | apply ab | apply ak mixed | apply ap mixed | (with_reducible first | refine ac ?_ | refine ar ?_ | refine aw ?_) | simp (disch := omega) only [aW] | ((first | refine aj ?_ ?_ | refine aa ?_ ?_) <;> intro hc <;> (try simp only [hc]) <;> try simp at hc) | (with_reducible refine ⟨?_, ?_⟩; (focus ((repeat' with_reducible refine ⟨?_, ?_⟩) <;> first | exact trivial | assumption | (simp; done) | (simp only [zA] at *; omega) | omega | (simp [fs]; done) | exact ax))) | (with_reducible intro x hx) | omega) <;> (try simp only [c2, Nat.reduceBEq, reduceIte, fH, bh, fw]))
   refine hk ⟨i + 1, by omega, fun j u' hj hju => ?_⟩ _ _ (by dsimp only; omega) ?_
   ·by_cases hji : j < i
    ·exact hpi j u' hji hju
    ·obtain rfl : j = i := by omega
     rw [hg] at hju
     cases hju
     intro m e hm
     exact hpk m e (zG.1 hm).1 hm
   dsimp only
   rw [hb2, v6]
   refine aC [0, 1] (by rfl) (by simp) (by simp [fg]) (by simp [fg])
 have c1 : ((i : Int) < (s.us.length : Int)) = False := by simp; omega
 obtain rfl : i = s.us.length := by omega
 have hP : iu s := fun k u hk => hpi k u (zG.1 hk).1 hk
 clear hk hlt hi hpi hno
 rw [e1]
 repeat' ((first | apply ah | apply al | apply ao | apply av | refine aq rfl ?_ | apply ai | apply af | apply ab | apply ak mixed | apply ap mixed | (with_reducible first | refine ac ?_ | refine ar ?_ | refine aw ?_) | refine ae (h4) ?_ ?_ | simp (disch := omega) only [aW, aF, aK, aL, bg, zI, zH] | ((first | refine aj ?_ ?_ | refine aa ?_ ?_) <;> intro hc <;> (try simp only [hc]) <;> try simp at hc) | (with_reducible refine ⟨?_, ?_⟩; (focus ((repeat' with_reducible refine ⟨?_, ?_⟩) <;> first | exact trivial | assumption | (simp; done) | (simp only [zA] at *; omega) | omega | (simp [fs]; done) | exact ax))) | (with_reducible intro x hx) | omega) <;> (try simp only [dD, c1, Nat.reduceBEq, reduceIte, Nat.reduceAdd, fw, fd]))
 refine aM (ι := {i : Nat // i ≤ s.ps.length}) (fun i => ([(1, .ptr 0 0 0 1), (2, .str (bs [])), (3, .bool false), (4, .ptr 1 0 0 1), (83, .int .i64 s.ps.length), (84, .int .i64 i.1)], [Va 4 [.int .i64 s.t, L (bP s.us), L (bO s.ps), L (fY s.ds)], Vb (ps i.1) (bI b1 50 im s.ps i.1)])) (fun i => s.ps.length - i.1) ⟨0, by omega⟩ ?_ ?_
 ·refine aC [0, 1] (by rfl) (by simp) (by simp [fg]) (by simp [fg])
 rintro ⟨i, hi⟩ hk
 dsimp only at hk ⊢
 by_cases hlt : i < s.ps.length
 ·have c1 : ((i : Int) < (s.ps.length : Int)) = True := by simp; omega
  obtain ⟨p, hg⟩ : ∃ p, s.ps[i]? = some p := ⟨_, zD hlt⟩
  have hr := iR hg
  have v0 := h5 i p hg
  unfold ro at v0
  have hb2 : bI b1 50 im s.ps (i + 1) = (bI b1 50 im s.ps i || im p) := cm hg
  unfold Po.row at hr v0
  repeat' ((first | apply ah | apply al | apply ao | apply av | refine aq rfl ?_ | apply ai | apply af | apply ab | apply ak mixed | apply ap mixed | (with_reducible first | refine ac ?_ | refine ar ?_ | refine aw ?_) | refine ae (v0) ?_ ?_ | simp (disch := omega) only [aW] | ((first | refine aj ?_ ?_ | refine aa ?_ ?_) <;> intro hc <;> (try simp only [hc]) <;> try simp at hc) | (with_reducible refine ⟨?_, ?_⟩; (focus ((repeat' with_reducible refine ⟨?_, ?_⟩) <;> first | exact trivial | assumption | (simp; done) | (simp only [zA] at *; omega) | omega | (simp [fs]; done) | exact ax))) | (with_reducible intro x hx) | omega) <;> (try simp only [dD, c1, hr, Nat.reduceBEq, reduceIte, Nat.reduceAdd, fw, fd]))
  refine hk ⟨i + 1, by omega⟩ _ _ (by dsimp only; omega) ?_
  dsimp only
  rw [hb2]
  refine aC [0, 1] (by rfl) (by simp) (by simp [fg]) (by simp [fg])
 have c1 : ((i : Int) < (s.ps.length : Int)) = False := by simp; omega
 obtain rfl : i = s.ps.length := by omega
 clear hk hlt hi
 rw [e2]
 repeat' ((first | apply ah | apply al | apply ao | apply av | refine aq rfl ?_ | apply ai | apply af | apply ab | apply ak mixed | apply ap mixed | (with_reducible first | refine ac ?_ | refine ar ?_ | refine aw ?_) | refine ae (h6) ?_ ?_ | simp (disch := omega) only [aW, aF, aK, aL, bg, zI, zH] | ((first | refine aj ?_ ?_ | refine aa ?_ ?_) <;> intro hc <;> (try simp only [hc]) <;> try simp at hc) | (with_reducible refine ⟨?_, ?_⟩; (focus ((repeat' with_reducible refine ⟨?_, ?_⟩) <;> first | exact trivial | assumption | (simp; done) | (simp only [zA] at *; omega) | omega | (simp [fs]; done) | exact ax))) | (with_reducible intro x hx) | omega) <;> (try simp only [bH, c1, Nat.reduceBEq, reduceIte, Nat.reduceAdd, fw, fd]))
 refine aM (ι := {i : Nat // i ≤ s.ds.length}) (fun i => ([(1, .ptr 0 0 0 1), (2, .str (bs [])), (3, .bool false), (4, .ptr 1 0 0 1), (102, .int .i64 s.ds.length), (103, .int .i64 i.1)], [Va 4 [.int .i64 s.t, L (bP s.us), L (bO s.ps), L (fY s.ds)], Vb (ds i.1) (bI b2 4096 mH s.ds i.1)])) (fun i => s.ds.length - i.1) ⟨0, by omega⟩ ?_ ?_
 ·refine aC [0, 1] (by rfl) (by simp) (by simp [fg]) (by simp [fg])
 rintro ⟨i, hi⟩ hk
 dsimp only at hk ⊢
 by_cases hlt : i < s.ds.length
 ·have c1 : ((i : Int) < (s.ds.length : Int)) = True := by simp; omega
  obtain ⟨y, hg⟩ : ∃ y, s.ds[i]? = some y := ⟨_, zD hlt⟩
  have hr := uW hg
  obtain ⟨W1, W2, w0, w1, w2⟩ := h7 i y hg
  have hfy := hfd y (zE hg)
  have o0 : IntKind.u64.wrap y.1 = y.1 := by rw [dm]; have := hfy.1; omega
  have hb2 : bI b2 4096 mH s.ds (i + 1) = bI b2 4096 mH s.ds i := by rw [cm hg, show mH y = false from rfl, zR]
  repeat' ((first | apply ah | apply al | apply ao | apply av | refine aq rfl ?_ | apply ai | apply af | apply ab | apply ak mixed | apply ap mixed | (with_reducible first | refine ac ?_ | refine ar ?_ | refine aw ?_) | refine ae (w0) ?_ ?_ | refine ae (w1) ?_ ?_ | refine ae (w2) ?_ ?_ | simp (disch := omega) only [aW] | ((first | refine aj ?_ ?_ | refine aa ?_ ?_) <;> intro hc <;> (try simp only [hc]) <;> try simp at hc) | (with_reducible refine ⟨?_, ?_⟩; (focus ((repeat' with_reducible refine ⟨?_, ?_⟩) <;> first | exact trivial | assumption | (simp; done) | (simp only [zA] at *; omega) | omega | (simp [fs]; done) | exact ax))) | (with_reducible intro x hx) | omega) <;> (try simp only [bH, c1, hr, o0, Nat.reduceBEq, reduceIte, Nat.reduceAdd, fw, fd]))
  refine hk ⟨i + 1, by omega⟩ _ _ (by dsimp only; omega) ?_
  dsimp only
  rw [hb2]
  refine aC [0, 1] (by rfl) (by simp) (by simp [fg]) (by simp [fg])
 have c1 : ((i : Int) < (s.ds.length : Int)) = False := by simp; omega
 obtain rfl : i = s.ds.length := by omega
 clear hk hlt hi
 rw [e3]
 cases b3
 ·rw [he rfl]
  by_cases hg : (gA s).length ≤ 1048576
  ·have c2 : (((gA s).length : Int) > 1048576) = False := by simp; omega
   rw [hyes hP hb.symm hg]
   repeat' ((first | apply ah | apply al | apply ao | apply av | refine aq rfl ?_ | apply ai | apply af | apply ab | apply ak mixed | apply ap mixed | (with_reducible first | refine ac ?_ | refine ar ?_ | refine aw ?_) | simp (disch := omega) only [aW, aF, aK, aL, bg, zI, zH] | ((first | refine aj ?_ ?_ | refine aa ?_ ?_) <;> intro hc <;> (try simp only [hc]) <;> try simp at hc) | (with_reducible refine ⟨?_, ?_⟩; (focus ((repeat' with_reducible refine ⟨?_, ?_⟩) <;> first | exact trivial | assumption | (simp; done) | (simp only [zA] at *; omega) | omega | (simp [fs]; done) | exact ax))) | (with_reducible intro x hx) | omega) <;> (try simp only [dq, c1, c2, Nat.reduceBEq, reduceIte, cond_false, fw, fd]))
  ·have c2 : (((gA s).length : Int) > 1048576) = True := by simp; omega
   rw [hlong hP hb.symm (by omega)]
   repeat' ((first | apply ah | apply al | apply ao | apply av | refine aq rfl ?_ | apply ai | apply af | apply ab | apply ak mixed | apply ap mixed | (with_reducible first | refine ac ?_ | refine ar ?_ | refine aw ?_) | simp (disch := omega) only [aW, aF, aK, aL, bg, zI, zH] | ((first | refine aj ?_ ?_ | refine aa ?_ ?_) <;> intro hc <;> (try simp only [hc]) <;> try simp at hc) | (with_reducible refine ⟨?_, ?_⟩; (focus ((repeat' with_reducible refine ⟨?_, ?_⟩) <;> first | exact trivial | assumption | (simp; done) | (simp only [zA] at *; omega) | omega | (simp [fs]; done) | exact ax))) | (with_reducible intro x hx) | omega) <;> (try simp only [ce, dq, c1, c2, Nat.reduceBEq, reduceIte, cond_false, fw, fd]))
 ·rw [hbad hP hb.symm]
  repeat' ((first | apply ah | apply al | apply ao | apply av | refine aq rfl ?_ | apply ai | apply af | apply ab | apply ak mixed | apply ap mixed | (with_reducible first | refine ac ?_ | refine ar ?_ | refine aw ?_) | simp (disch := omega) only [aW, aF, aK, aL, bg, zI, zH] | ((first | refine aj ?_ ?_ | refine aa ?_ ?_) <;> intro hc <;> (try simp only [hc]) <;> try simp at hc) | (with_reducible refine ⟨?_, ?_⟩; (focus ((repeat' with_reducible refine ⟨?_, ?_⟩) <;> first | exact trivial | assumption | (simp; done) | (simp only [zA] at *; omega) | omega | (simp [fs]; done) | exact ax))) | (with_reducible intro x hx) | omega) <;> (try simp only [ce, c1, Nat.reduceBEq, reduceIte, cond_true, fw, fd]))
end Go.Proofs.YtgefljdclekadaaGreat
