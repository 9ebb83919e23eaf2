import Derived.Test.YtgefljdclekadaaGreatWMC
import Derived.Test.YtgefljdclekadaaGreatVi25
set_option linter.unusedVariables false
set_option linter.unusedSimpArgs false
namespace Go.Proofs.YtgefljdclekadaaGreat
open Go Go.Vi
abbrev Cw (w : Nat) (bad : Bool) : Ob := ⟨true, false, false, false, 3, [[.ptr w 0 0 1, .nilp, .bool bad]], some 0⟩
abbrev Ww (b k : Nat) : Ob := ⟨true, false, false, false, 1, [[.own b 0 k k 1 none]], some 0⟩
abbrev Va (sz : Nat) (R : List D) : Ob := ⟨true, false, true, false, sz, [R], some 0⟩
def uI (x : Int) : Nat := (x % 18446744073709551616).toNat
theorem cy (x : Int) : uI x < 18446744073709551616 := by unfold uI; omega
theorem rE (x : Int) : IntKind.u64.wrap x = ((uI x : Nat) : Int) := by
 rw [dm]; unfold uI; omega
theorem dX {x : Int} (h1 : 0 ≤ x) (h2 : x ≤ 18446744073709551615) : ((uI x : Nat) : Int) = x := by unfold uI; omega
abbrev dv (x : Int) : Prop := -9223372036854775808 ≤ x ∧ x ≤ 9223372036854775807
theorem cA (l : List UInt8) (bad : Bool) (sz : Nat) (R : List D) (j most : Nat) (x : Int) (hR : R[j]? = some (.int .i64 x)) (hx : dv x) (hm : most < 18446744073709551616) (hl : l.length ≤ 1099511627776) :
  az Tryz.prog 57 [.ptr 0 0 0 1, .ptr 3 0 j 1, .int .u64 most] [Cw 1 bad, Ww 2 l.length, ba true 1 true (r8 l), Va sz R] (.tup [])
   [Cw 1 (bad || decide (most < uI x)), Ww 2 (l ++ bl (uI x)).length, ba true 1 true (r8 (l ++ bl (uI x))), Va sz R] := by
 refine aS Tryz.func57 low57 (by simp [c57]) ?_
 simp only [c57]
 have hu := rE x
 have hn := fN l (uI x) (uI x) rfl (cy x) hl
 have h10 := bv (cy x)
 unfold dv at hx
 cases bad
 ·simp only [Bool.false_or]
  by_cases hc : most < uI x
  ·have c1 : (((uI x : Nat) : Int) > ((most : Nat) : Int)) = True := by simp; omega
   rw [decide_eq_true hc]
   repeat' ((first | apply ah | apply al | apply ai | apply af | apply ab | apply ak mixed | apply ap mixed | (with_reducible first | refine au ?_ | refine aA (f := .c (.fn 97 [])) ?_ | refine ar ?_ | refine aw ?_ | refine am (hn) (by simp) ?_) | simp (disch := omega) only [aW, aF, aK, aL, bg, zI, zH] | ((first | refine aj ?_ ?_ | refine aa ?_ ?_) <;> intro hc <;> (try simp only [hc]) <;> try simp at hc) | (with_reducible refine ⟨?_, ?_⟩; (focus ((repeat' with_reducible refine ⟨?_, ?_⟩) <;> first | exact trivial | assumption | (simp; done) | (simp only [zA] at *; omega) | omega | (simp [fs]; done) | exact ax))) | (with_reducible intro x hx) | omega) <;> (try simp only [Wr, hR, hu, c1, Nat.reduceBEq, reduceIte, Nat.reduceEqDiff, Nat.reduceAdd, Nat.reduceSub, reduceCtorEq, cond_true, cond_false, fw, fd]))
   refine ay [0, 1, 2, 3] (by rfl) (by simp) (by simp [fg])
  ·have c1 : (((uI x : Nat) : Int) > ((most : Nat) : Int)) = False := by simp; omega
   rw [decide_eq_false hc]
   repeat' ((first | apply ah | apply al | apply ai | apply af | apply ab | apply ak mixed | apply ap mixed | (with_reducible first | refine au ?_ | refine aA (f := .c (.fn 97 [])) ?_ | refine ar ?_ | refine aw ?_ | refine am (hn) (by simp) ?_) | simp (disch := omega) only [aW, aF, aK, aL, bg, zI, zH] | ((first | refine aj ?_ ?_ | refine aa ?_ ?_) <;> intro hc <;> (try simp only [hc]) <;> try simp at hc) | (with_reducible refine ⟨?_, ?_⟩; (focus ((repeat' with_reducible refine ⟨?_, ?_⟩) <;> first | exact trivial | assumption | (simp; done) | (simp only [zA] at *; omega) | omega | (simp [fs]; done) | exact ax))) | (with_reducible intro x hx) | omega) <;> (try simp only [Wr, hR, hu, c1, Nat.reduceBEq, reduceIte, Nat.reduceEqDiff, Nat.reduceAdd, Nat.reduceSub, reduceCtorEq, cond_true, cond_false, fw, fd]))
   refine ay [0, 1, 2, 3] (by rfl) (by simp) (by simp [fg])
 ·simp only [Bool.true_or]
  repeat' ((first | apply ah | apply al | apply ai | apply af | apply ab | apply ak mixed | apply ap mixed | (with_reducible first | refine au ?_ | refine aA (f := .c (.fn 97 [])) ?_ | refine ar ?_ | refine aw ?_ | refine am (hn) (by simp) ?_) | simp (disch := omega) only [aW, aF, aK, aL, bg, zI, zH] | ((first | refine aj ?_ ?_ | refine aa ?_ ?_) <;> intro hc <;> (try simp only [hc]) <;> try simp at hc) | (with_reducible refine ⟨?_, ?_⟩; (focus ((repeat' with_reducible refine ⟨?_, ?_⟩) <;> first | exact trivial | assumption | (simp; done) | (simp only [zA] at *; omega) | omega | (simp [fs]; done) | exact ax))) | (with_reducible intro x hx) | omega) <;> (try simp only [Wr, hR, hu, Nat.reduceBEq, reduceIte, Nat.reduceEqDiff, Nat.reduceAdd, Nat.reduceSub, reduceCtorEq, cond_true, fw, fd]))
  refine ay [0, 1, 2, 3] (by rfl) (by simp) (by simp [fg])
theorem kJ (l : List UInt8) (bad : Bool) (sz : Nat) (R : List D) (j most : Nat) (x : Int) (hR : R[j]? = some (.int .u64 x)) (hx : 0 ≤ x ∧ x ≤ 18446744073709551615) (hm : most < 18446744073709551616) (hl : l.length ≤ 1099511627776) :
  az Tryz.prog 53 [.ptr 0 0 0 1, .ptr 3 0 j 1, .int .u64 most] [Cw 1 bad, Ww 2 l.length, ba true 1 true (r8 l), Va sz R] (.tup [])
   [Cw 1 (bad || decide (most < uI x)), Ww 2 (l ++ bl (uI x)).length, ba true 1 true (r8 (l ++ bl (uI x))), Va sz R] := by
 refine aS Tryz.func53 low53 (by simp [c53]) ?_
 simp only [c53]
 have hu := dX hx.1 hx.2
 have hn := fN l (uI x) x hu.symm (cy x) hl
 have h10 := bv (cy x)
 cases bad
 ·simp only [Bool.false_or]
  by_cases hc : most < uI x
  ·have c1 : (x > ((most : Nat) : Int)) = True := by simp; omega
   rw [decide_eq_true hc]
   repeat' ((first | apply ah | apply al | apply ai | apply af | apply ab | apply ak mixed | apply ap mixed | (with_reducible first | refine au ?_ | refine aA (f := .c (.fn 97 [])) ?_ | refine ar ?_ | refine aw ?_ | refine am (hn) (by simp) ?_) | ((first | refine aj ?_ ?_ | refine aa ?_ ?_) <;> intro hc <;> (try simp only [hc]) <;> try simp at hc) | (with_reducible refine ⟨?_, ?_⟩; (focus ((repeat' with_reducible refine ⟨?_, ?_⟩) <;> first | exact trivial | assumption | (simp; done) | (simp only [zA] at *; omega) | omega | (simp [fs]; done) | exact ax))) | (with_reducible intro x hx) | omega) <;> (try simp only [Wr, hR, c1, Nat.reduceBEq, reduceIte, Nat.reduceEqDiff, Nat.reduceAdd, Nat.reduceSub, reduceCtorEq, cond_true, cond_false, fw, fd]))
   refine ay [0, 1, 2, 3] (by rfl) (by simp) (by simp [fg])
  ·have c1 : (x > ((most : Nat) : Int)) = False := by simp; omega
   rw [decide_eq_false hc]
   repeat' ((first | apply ah | apply al | apply ai | apply af | apply ab | apply ak mixed | apply ap mixed | (with_reducible first | refine au ?_ | refine aA (f := .c (.fn 97 [])) ?_ | refine ar ?_ | refine aw ?_ | refine am (hn) (by simp) ?_) | ((first | refine aj ?_ ?_ | refine aa ?_ ?_) <;> intro hc <;> (try simp only [hc]) <;> try simp at hc) | (with_reducible refine ⟨?_, ?_⟩; (focus ((repeat' with_reducible refine ⟨?_, ?_⟩) <;> first | exact trivial | assumption | (simp; done) | (simp only [zA] at *; omega) | omega | (simp [fs]; done) | exact ax))) | (with_reducible intro x hx) | omega) <;> (try simp only [Wr, hR, c1, Nat.reduceBEq, reduceIte, Nat.reduceEqDiff, Nat.reduceAdd, Nat.reduceSub, reduceCtorEq, cond_true, cond_false, fw, fd]))
   refine ay [0, 1, 2, 3] (by rfl) (by simp) (by simp [fg])
 ·simp only [Bool.true_or]
  repeat' ((first | apply ah | apply al | apply ai | apply af | apply ab | apply ak mixed | apply ap mixed | (with_reducible first | refine au ?_ | refine aA (f := .c (.fn 97 [])) ?_ | refine ar ?_ | refine aw ?_ | refine am (hn) (by simp) ?_) | ((first | refine aj ?_ ?_ | refine aa ?_ ?_) <;> intro hc <;> (try simp only [hc]) <;> try simp at hc) | (with_reducible refine ⟨?_, ?_⟩; (focus ((repeat' with_reducible refine ⟨?_, ?_⟩) <;> first | exact trivial | assumption | (simp; done) | (simp only [zA] at *; omega) | omega | (simp [fs]; done) | exact ax))) | (with_reducible intro x hx) | omega) <;> (try simp only [Wr, hR, Nat.reduceBEq, reduceIte, Nat.reduceEqDiff, Nat.reduceAdd, Nat.reduceSub, reduceCtorEq, cond_true, fw, fd]))
  refine ay [0, 1, 2, 3] (by rfl) (by simp) (by simp [fg])
theorem zf (l : List UInt8) (bad : Bool) (sz : Nat) (R : List D) (j most : Nat) (x : Int) (hR : R[j]? = some (.int .u32 x)) (hx : 0 ≤ x ∧ x ≤ 4294967295) (hm : most < 18446744073709551616) (hl : l.length ≤ 1099511627776) :
  az Tryz.prog 111 [.ptr 0 0 0 1, .ptr 3 0 j 1, .int .u64 most] [Cw 1 bad, Ww 2 l.length, ba true 1 true (r8 l), Va sz R] (.tup [])
   [Cw 1 (bad || decide (most < uI x)), Ww 2 (l ++ bl (uI x)).length, ba true 1 true (r8 (l ++ bl (uI x))), Va sz R] := by
 refine aS Tryz.func111 low111 (by simp [c111]) ?_
 simp only [c111]
 have hu := dX hx.1 (by omega)
 have hn := fN l (uI x) x hu.symm (cy x) hl
 have h10 := bv (cy x)
 cases bad
 ·simp only [Bool.false_or]
  by_cases hc : most < uI x
  ·have c1 : (x > ((most : Nat) : Int)) = True := by simp; omega
   rw [decide_eq_true hc]
   repeat' ((first | apply ah | apply al | apply ai | apply af | apply ab | apply ak mixed | apply ap mixed | (with_reducible first | refine au ?_ | refine aA (f := .c (.fn 97 [])) ?_ | refine ar ?_ | refine aw ?_ | refine am (hn) (by simp) ?_) | simp (disch := omega) only [aF] | ((first | refine aj ?_ ?_ | refine aa ?_ ?_) <;> intro hc <;> (try simp only [hc]) <;> try simp at hc) | (with_reducible refine ⟨?_, ?_⟩; (focus ((repeat' with_reducible refine ⟨?_, ?_⟩) <;> first | exact trivial | assumption | (simp; done) | (simp only [zA] at *; omega) | omega | (simp [fs]; done) | exact ax))) | (with_reducible intro x hx) | omega) <;> (try simp only [Wr, hR, c1, Nat.reduceBEq, reduceIte, Nat.reduceEqDiff, Nat.reduceAdd, Nat.reduceSub, reduceCtorEq, cond_true, cond_false, fw, fd]))
   refine ay [0, 1, 2, 3] (by rfl) (by simp) (by simp [fg])
  ·have c1 : (x > ((most : Nat) : Int)) = False := by simp; omega
   rw [decide_eq_false hc]
   repeat' ((first | apply ah | apply al | apply ai | apply af | apply ab | apply ak mixed | apply ap mixed | (with_reducible first | refine au ?_ | refine aA (f := .c (.fn 97 [])) ?_ | refine ar ?_ | refine aw ?_ | refine am (hn) (by simp) ?_) | simp (disch := omega) only [aF] | ((first | refine aj ?_ ?_ | refine aa ?_ ?_) <;> intro hc <;> (try simp only [hc]) <;> try simp at hc) | (with_reducible refine ⟨?_, ?_⟩; (focus ((repeat' with_reducible refine ⟨?_, ?_⟩) <;> first | exact trivial | assumption | (simp; done) | (simp only [zA] at *; omega) | omega | (simp [fs]; done) | exact ax))) | (with_reducible intro x hx) | omega) <;> (try simp only [Wr, hR, c1, Nat.reduceBEq, reduceIte, Nat.reduceEqDiff, Nat.reduceAdd, Nat.reduceSub, reduceCtorEq, cond_true, cond_false, fw, fd]))
   refine ay [0, 1, 2, 3] (by rfl) (by simp) (by simp [fg])
 ·simp only [Bool.true_or]
  repeat' ((first | apply ah | apply al | apply ai | apply af | apply ab | apply ak mixed | apply ap mixed | (with_reducible first | refine au ?_ | refine aA (f := .c (.fn 97 [])) ?_ | refine ar ?_ | refine aw ?_ | refine am (hn) (by simp) ?_) | simp (disch := omega) only [aF] | ((first | refine aj ?_ ?_ | refine aa ?_ ?_) <;> intro hc <;> (try simp only [hc]) <;> try simp at hc) | (with_reducible refine ⟨?_, ?_⟩; (focus ((repeat' with_reducible refine ⟨?_, ?_⟩) <;> first | exact trivial | assumption | (simp; done) | (simp only [zA] at *; omega) | omega | (simp [fs]; done) | exact ax))) | (with_reducible intro x hx) | omega) <;> (try simp only [Wr, hR, Nat.reduceBEq, reduceIte, Nat.reduceEqDiff, Nat.reduceAdd, Nat.reduceSub, reduceCtorEq, cond_true, fw, fd]))
  refine ay [0, 1, 2, 3] (by rfl) (by simp) (by simp [fg])
theorem nA (l : List UInt8) (bad : Bool) (sz : Nat) (R : List D) (j : Nat) (x lo hi : Int) (hR : R[j]? = some (.int .i64 x)) (hx : dv x) (hl : l.length ≤ 1099511627776) :
  az Tryz.prog 136 [.ptr 0 0 0 1, .ptr 3 0 j 1, .int .i64 lo, .int .i64 hi] [Cw 1 bad, Ww 2 l.length, ba true 1 true (r8 l), Va sz R] (.tup [])
   [Cw 1 (bad || decide (x < lo ∨ hi < x)), Ww 2 (l ++ bl (zz x)).length, ba true 1 true (r8 (l ++ bl (zz x))), Va sz R] := by
 refine aS Tryz.func136 low136 (by simp [c136]) ?_
 simp only [c136]
 unfold dv at hx
 have hn := oX l x hx.1 hx.2 hl
 have h10 := bv (fu hx.1 hx.2)
 cases bad
 ·simp only [Bool.false_or]
  by_cases h1 : x < lo
  ·have c1 : (x < lo) = True := by simpa using h1
   rw [decide_eq_true (.inl h1)]
   repeat' ((first | apply ah | apply al | apply ai | apply af | apply ab | apply ak mixed | apply ap mixed | (with_reducible first | refine au ?_ | refine aA (f := .c (.fn 135 [])) ?_ | refine ar ?_ | refine aw ?_ | refine am (hn) (by simp) ?_) | ((first | refine aj ?_ ?_ | refine aa ?_ ?_) <;> intro hc <;> (try simp only [hc]) <;> try simp at hc) | (with_reducible refine ⟨?_, ?_⟩; (focus ((repeat' with_reducible refine ⟨?_, ?_⟩) <;> first | exact trivial | assumption | (simp; done) | (simp only [zA] at *; omega) | omega | (simp [fs]; done) | exact ax))) | (with_reducible intro x hx) | omega) <;> (try simp only [Wr, hR, c1, Nat.reduceBEq, reduceIte, Nat.reduceEqDiff, Nat.reduceAdd, Nat.reduceSub, reduceCtorEq, cond_true, cond_false, fw, fd]))
   refine ay [0, 1, 2, 3] (by rfl) (by simp) (by simp [fg])
  ·have c1 : (x < lo) = False := by simpa using h1
   by_cases h2 : hi < x
   ·have c2 : (x > hi) = True := by simpa using h2
    rw [decide_eq_true (.inr h2)]
    repeat' ((first | apply ah | apply al | apply ai | apply af | apply ab | apply ak mixed | apply ap mixed | (with_reducible first | refine au ?_ | refine aA (f := .c (.fn 135 [])) ?_ | refine ar ?_ | refine aw ?_ | refine am (hn) (by simp) ?_) | ((first | refine aj ?_ ?_ | refine aa ?_ ?_) <;> intro hc <;> (try simp only [hc]) <;> try simp at hc) | (with_reducible refine ⟨?_, ?_⟩; (focus ((repeat' with_reducible refine ⟨?_, ?_⟩) <;> first | exact trivial | assumption | (simp; done) | (simp only [zA] at *; omega) | omega | (simp [fs]; done) | exact ax))) | (with_reducible intro x hx) | omega) <;> (try simp only [Wr, hR, c1, c2, Nat.reduceBEq, reduceIte, Nat.reduceEqDiff, Nat.reduceAdd, Nat.reduceSub, reduceCtorEq, cond_true, cond_false, fw, fd]))
    refine ay [0, 1, 2, 3] (by rfl) (by simp) (by simp [fg])
   ·have c2 : (x > hi) = False := by simpa using h2
    rw [decide_eq_false (fun h => h.elim h1 h2)]
    repeat' ((first | apply ah | apply al | apply ai | apply af | apply ab | apply ak mixed | apply ap mixed | (with_reducible first | refine au ?_ | refine aA (f := .c (.fn 135 [])) ?_ | refine ar ?_ | refine aw ?_ | refine am (hn) (by simp) ?_) | ((first | refine aj ?_ ?_ | refine aa ?_ ?_) <;> intro hc <;> (try simp only [hc]) <;> try simp at hc) | (with_reducible refine ⟨?_, ?_⟩; (focus ((repeat' with_reducible refine ⟨?_, ?_⟩) <;> first | exact trivial | assumption | (simp; done) | (simp only [zA] at *; omega) | omega | (simp [fs]; done) | exact ax))) | (with_reducible intro x hx) | omega) <;> (try simp only [Wr, hR, c1, c2, Nat.reduceBEq, reduceIte, Nat.reduceEqDiff, Nat.reduceAdd, Nat.reduceSub, reduceCtorEq, cond_true, cond_false, fw, fd]))
    refine ay [0, 1, 2, 3] (by rfl) (by simp) (by simp [fg])
 ·simp only [Bool.true_or]
  repeat' ((first | apply ah | apply al | apply ai | apply af | apply ab | apply ak mixed | apply ap mixed | (with_reducible first | refine au ?_ | refine aA (f := .c (.fn 135 [])) ?_ | refine ar ?_ | refine aw ?_ | refine am (hn) (by simp) ?_) | ((first | refine aj ?_ ?_ | refine aa ?_ ?_) <;> intro hc <;> (try simp only [hc]) <;> try simp at hc) | (with_reducible refine ⟨?_, ?_⟩; (focus ((repeat' with_reducible refine ⟨?_, ?_⟩) <;> first | exact trivial | assumption | (simp; done) | (simp only [zA] at *; omega) | omega | (simp [fs]; done) | exact ax))) | (with_reducible intro x hx) | omega) <;> (try simp only [Wr, hR, Nat.reduceBEq, reduceIte, Nat.reduceEqDiff, Nat.reduceAdd, Nat.reduceSub, reduceCtorEq, cond_true, fw, fd]))
  refine ay [0, 1, 2, 3] (by rfl) (by simp) (by simp [fg])
theorem zp (l : List UInt8) (bad : Bool) (sz : Nat) (R : List D) (j : Nat) (x lo hi : Int) (hR : R[j]? = some (.int .i64 x)) (hx : dv x) (hl : l.length ≤ 1099511627776) :
  az Tryz.prog 99 [.ptr 0 0 0 1, .ptr 3 0 j 1, .int .i64 lo, .int .i64 hi] [Cw 1 bad, Ww 2 l.length, ba true 1 true (r8 l), Va sz R] (.tup [])
   [Cw 1 (bad || decide (x < lo ∨ hi < x)), Ww 2 (l ++ bl (zz x)).length, ba true 1 true (r8 (l ++ bl (zz x))), Va sz R] := by
 refine aS Tryz.func99 low99 (by simp [c99]) ?_
 simp only [c99]
 unfold dv at hx
 have hn := oX l x hx.1 hx.2 hl
 have h10 := bv (fu hx.1 hx.2)
 cases bad
 ·simp only [Bool.false_or]
  by_cases h1 : x < lo
  ·have c1 : (x < lo) = True := by simpa using h1
   rw [decide_eq_true (.inl h1)]
   repeat' ((first | apply ah | apply al | apply ai | apply af | apply ab | apply ak mixed | apply ap mixed | (with_reducible first | refine au ?_ | refine aA (f := .c (.fn 135 [])) ?_ | refine ar ?_ | refine aw ?_ | refine am (hn) (by simp) ?_) | ((first | refine aj ?_ ?_ | refine aa ?_ ?_) <;> intro hc <;> (try simp only [hc]) <;> try simp at hc) | (with_reducible refine ⟨?_, ?_⟩; (focus ((repeat' with_reducible refine ⟨?_, ?_⟩) <;> first | exact trivial | assumption | (simp; done) | (simp only [zA] at *; omega) | omega | (simp [fs]; done) | exact ax))) | (with_reducible intro x hx) | omega) <;> (try simp only [Wr, hR, c1, Nat.reduceBEq, reduceIte, Nat.reduceEqDiff, Nat.reduceAdd, Nat.reduceSub, reduceCtorEq, cond_true, cond_false, fw, fd]))
   refine ay [0, 1, 2, 3] (by rfl) (by simp) (by simp [fg])
  ·have c1 : (x < lo) = False := by simpa using h1
   by_cases h2 : hi < x
   ·have c2 : (x > hi) = True := by simpa using h2
    rw [decide_eq_true (.inr h2)]
    repeat' ((first | apply ah | apply al | apply ai | apply af | apply ab | apply ak mixed | apply ap mixed | (with_reducible first | refine au ?_ | refine aA (f := .c (.fn 135 [])) ?_ | refine ar ?_ | refine aw ?_ | refine am (hn) (by simp) ?_) | ((first | refine aj ?_ ?_ | refine aa ?_ ?_) <;> intro hc <;> (try simp only [hc]) <;> try simp at hc) | (with_reducible refine ⟨?_, ?_⟩; (focus ((repeat' with_reducible refine ⟨?_, ?_⟩) <;> first | exact trivial | assumption | (simp; done) | (simp only [zA] at *; omega) | omega | (simp [fs]; done) | exact ax))) | (with_reducible intro x hx) | omega) <;> (try simp only [Wr, hR, c1, c2, Nat.reduceBEq, reduceIte, Nat.reduceEqDiff, Nat.reduceAdd, Nat.reduceSub, reduceCtorEq, cond_true, cond_false, fw, fd]))
    refine ay [0, 1, 2, 3] (by rfl) (by simp) (by simp [fg])
   ·have c2 : (x > hi) = False := by simpa using h2
    rw [decide_eq_false (fun h => h.elim h1 h2)]
    repeat' ((first | apply ah | apply al | apply ai | apply af | apply ab | apply ak mixed | apply ap mixed | (with_reducible first | refine au ?_ | refine aA (f := .c (.fn 135 [])) ?_ | refine ar ?_ | refine aw ?_ | refine am (hn) (by simp) ?_) | ((first | refine aj ?_ ?_ | refine aa ?_ ?_) <;> intro hc <;> (try simp only [hc]) <;> try simp at hc) | (with_reducible refine ⟨?_, ?_⟩; (focus ((repeat' with_reducible refine ⟨?_, ?_⟩) <;> first | exact trivial | assumption | (simp; done) | (simp only [zA] at *; omega) | omega | (simp [fs]; done) | exact ax))) | (with_reducible intro x hx) | omega) <;> (try simp only [Wr, hR, c1, c2, Nat.reduceBEq, reduceIte, Nat.reduceEqDiff, Nat.reduceAdd, Nat.reduceSub, reduceCtorEq, cond_true, cond_false, fw, fd]))
    refine ay [0, 1, 2, 3] (by rfl) (by simp) (by simp [fg])
 ·simp only [Bool.true_or]
  repeat' ((first | apply ah | apply al | apply ai | apply af | apply ab | apply ak mixed | apply ap mixed | (with_reducible first | refine au ?_ | refine aA (f := .c (.fn 135 [])) ?_ | refine ar ?_ | refine aw ?_ | refine am (hn) (by simp) ?_) | ((first | refine aj ?_ ?_ | refine aa ?_ ?_) <;> intro hc <;> (try simp only [hc]) <;> try simp at hc) | (with_reducible refine ⟨?_, ?_⟩; (focus ((repeat' with_reducible refine ⟨?_, ?_⟩) <;> first | exact trivial | assumption | (simp; done) | (simp only [zA] at *; omega) | omega | (simp [fs]; done) | exact ax))) | (with_reducible intro x hx) | omega) <;> (try simp only [Wr, hR, Nat.reduceBEq, reduceIte, Nat.reduceEqDiff, Nat.reduceAdd, Nat.reduceSub, reduceCtorEq, cond_true, fw, fd]))
  refine ay [0, 1, 2, 3] (by rfl) (by simp) (by simp [fg])
theorem fh (l : List UInt8) (bad : Bool) (sz : Nat) (R : List D) (j : Nat) (x : Int) (hR : R[j]? = some (.int .u32 x)) (hx : 0 ≤ x ∧ x ≤ 4294967295) (hl : l.length ≤ 1099511627776) :
  az Tryz.prog 78 [.ptr 0 0 0 1, .ptr 3 0 j 1] [Cw 1 bad, Ww 2 l.length, ba true 1 true (r8 l), Va sz R] (.tup [])
   [Cw 1 bad, Ww 2 (l ++ bl (uI x)).length, ba true 1 true (r8 (l ++ bl (uI x))), Va sz R] := by
 refine aS Tryz.func78 low78 (by simp [c78]) ?_
 simp only [c78]
 have hn := zf l bad sz R j 4294967295 x hR hx (by omega) hl
 have e : decide (4294967295 < uI x) = false := by
  have := dX hx.1 (show x ≤ 18446744073709551615 by omega)
  rw [decide_eq_false_iff_not]; omega
 rw [e, zR] at hn
 repeat' ((first | apply ah | apply ai | apply af | apply ak mixed | (with_reducible first | refine au ?_ | refine aB (f := .c (.fn 111 [])) ?_ | refine ar ?_ | refine am (hn) (by simp) ?_) | (with_reducible refine ⟨?_, ?_⟩; (focus ((repeat' with_reducible refine ⟨?_, ?_⟩) <;> first | exact trivial | assumption | (simp; done) | (simp only [zA] at *; omega) | omega | (simp [fs]; done) | exact ax))) | (with_reducible intro x hx) | omega) <;> (try simp only [Nat.reduceBEq, reduceIte, Nat.reduceEqDiff, Nat.reduceAdd, Nat.reduceSub, Nat.reduceLT, reduceCtorEq, fw, fd]))
 refine ay [0, 1, 2, 3] (by rfl) (by simp) (by simp [fg])
theorem cr (l : List UInt8) (bad : Bool) (sz : Nat) (R : List D) (j : Nat) (x : Int) (hR : R[j]? = some (.int .i64 x)) (hx : dv x) (hl : l.length ≤ 1099511627776) :
  az Tryz.prog 56 [.ptr 0 0 0 1, .ptr 3 0 j 1] [Cw 1 bad, Ww 2 l.length, ba true 1 true (r8 l), Va sz R] (.tup [])
   [Cw 1 bad, Ww 2 (l ++ bl (zz x)).length, ba true 1 true (r8 (l ++ bl (zz x))), Va sz R] := by
 refine aS Tryz.func56 low56 (by simp [c56]) ?_
 simp only [c56]
 have hn := zp l bad sz R j x (-9223372036854775808) 9223372036854775807 hR hx hl
 have e : decide (x < -9223372036854775808 ∨ 9223372036854775807 < x) = false := by
  unfold dv at hx
  rw [decide_eq_false_iff_not]; omega
 rw [e, zR] at hn
 repeat' ((first | apply ah | apply ai | apply af | apply ak mixed | (with_reducible first | refine au ?_ | refine aB (f := .c (.fn 99 [])) ?_ | refine ar ?_ | refine am (hn) (by simp) ?_) | (with_reducible refine ⟨?_, ?_⟩; (focus ((repeat' with_reducible refine ⟨?_, ?_⟩) <;> first | exact trivial | assumption | (simp; done) | (simp only [zA] at *; omega) | omega | (simp [fs]; done) | exact ax))) | (with_reducible intro x hx) | omega) <;> (try simp only [Nat.reduceBEq, reduceIte, Nat.reduceEqDiff, Nat.reduceAdd, Nat.reduceSub, Nat.reduceLT, reduceCtorEq, Int.reduceNeg, fw, fd]))
 refine ay [0, 1, 2, 3] (by rfl) (by simp) (by simp [fg])
theorem qO (l : List UInt8) (bad : Bool) (sz : Nat) (R : List D) (j : Nat) (x : Int) (hR : R[j]? = some (.int .u64 x)) (hx : 0 ≤ x ∧ x ≤ 18446744073709551615) (hl : l.length ≤ 1099511627776) :
  az Tryz.prog 53 [.ptr 0 0 0 1, .ptr 3 0 j 1, .int .u64 18446744073709551615] [Cw 1 bad, Ww 2 l.length, ba true 1 true (r8 l), Va sz R] (.tup [])
   [Cw 1 bad, Ww 2 (l ++ bl (uI x)).length, ba true 1 true (r8 (l ++ bl (uI x))), Va sz R] := by
 have hn := kJ l bad sz R j 18446744073709551615 x hR hx (by omega) hl
 have e : decide (18446744073709551615 < uI x) = false := by
  have := cy x
  rw [decide_eq_false_iff_not]; omega
 rw [e, zR] at hn
 exact hn
def mZ (b : Bool) : List UInt8 := [if b then 1 else 0]
theorem pI (l : List UInt8) (bad : Bool) (sz : Nat) (R : List D) (j : Nat) (x : Bool) (hR : R[j]? = some (.bool x)) (hl : l.length ≤ 1099511627776) :
  az Tryz.prog 59 [.ptr 0 0 0 1, .ptr 3 0 j 1] [Cw 1 bad, Ww 2 l.length, ba true 1 true (r8 l), Va sz R] (.tup [])
   [Cw 1 bad, Ww 2 (l ++ mZ x).length, ba true 1 true (r8 (l ++ mZ x)), Va sz R] := by
 refine aS Tryz.func59 low59 (by simp [c59]) ?_
 simp only [c59]
 have hn := yV l x hl
 unfold mZ
 repeat' ((first | apply ah | apply al | apply ai | apply af | apply ab | apply ak mixed | apply ap mixed | (with_reducible first | refine au ?_ | refine aA (f := .c (.fn 103 [])) ?_ | refine ar ?_ | refine aw ?_ | refine am (hn) (by simp) ?_) | (refine aa ?_ ?_ <;> intro hc <;> (try simp only [hc]) <;> try simp at hc) | (with_reducible refine ⟨?_, ?_⟩; (focus ((repeat' with_reducible refine ⟨?_, ?_⟩) <;> first | exact trivial | assumption | (simp; done) | (simp only [zA] at *; omega) | omega | (simp [fs]; done) | exact ax))) | (with_reducible intro x hx) | omega) <;> (try simp only [Wr, hR, Nat.reduceBEq, reduceIte, Nat.reduceEqDiff, Nat.reduceAdd, Nat.reduceSub, reduceCtorEq, cond_true, fw, fd]))
 refine ay [0, 1, 2, 3] (by rfl) (by simp) (by simp [fg])
end Go.Proofs.YtgefljdclekadaaGreat

namespace Go.Proofs.YtgefljdclekadaaGreat
open Go Go.Vi
abbrev Cr (r : Nat) (bad : Bool) : Ob := ⟨true, false, false, false, 3, [[.nilp, .ptr r 0 0 1, .bool bad]], some 0⟩
def dc (most : Nat) (l : List UInt8) (rb : Bool) : Nat × List UInt8 × Bool := if rb = true then (0, l, true) else eU most l 0 0
theorem fp (m : Nat) (l : List UInt8) (rb : Bool) (hm : m < 18446744073709551616) : (dc m l rb).1 ≤ m ∧ (dc m l rb).2.1.length ≤ l.length := by
 unfold dc
 split
 ·simp
 ·have := rg m l 0 0 hm
  omega
theorem iP (l : List UInt8) (rb : Bool) (m : Nat) (x : Int) (hx : x = m) (hl : l.length ≤ 1099511627776) :
  az Tryz.prog 96 [.ptr 0 0 0 1, .int .u64 x] [Rd l rb] (.int .u64 (dc m l rb).1) [Rd (dc m l rb).2.1 (dc m l rb).2.2] := by
 unfold dc
 cases rb
 ·exact uA l m x hx hl
 ·exact sr l x
theorem rj (l : List UInt8) (rb : Bool) (hl : l.length ≤ 1099511627776) :
  az Tryz.prog 134 [.ptr 0 0 0 1] [Rd l rb] (.int .i64 (eK (dc 18446744073709551615 l rb).1)) [Rd (dc 18446744073709551615 l rb).2.1 (dc 18446744073709551615 l rb).2.2] := by
 refine aS Tryz.func134 low134 (by simp [c134]) ?_
 simp only [c134]
 have hv := (fp 18446744073709551615 l rb (by decide)).1
 have hc := iP l rb 18446744073709551615 18446744073709551615 rfl hl
 generalize dc 18446744073709551615 l rb = r at hv hc
 obtain ⟨v, rest, bad⟩ := r
 dsimp only at hv hc ⊢
 rw [← sR (by omega)]
 repeat' ((first | apply ah | apply ai | apply af | apply ak mixed | (with_reducible first | refine au ?_ | refine aT (f := .c (.fn 96 [])) (z := []) (q := [0]) ?_ | refine aO (f := .c (.fn 96 [])) (z := []) (q := [0]) ?_ | refine ar ?_ | refine am (hc) (by simp) ?_) | simp (disch := omega) only [aW] | (with_reducible refine ⟨?_, ?_⟩; (focus ((repeat' with_reducible refine ⟨?_, ?_⟩) <;> first | exact trivial | assumption | (simp; done) | (simp only [zA] at *; omega) | omega | (simp [fs]; done) | exact ax))) | (with_reducible intro x hx) | omega) <;> (try simp only [Rd, Nat.reduceBEq, reduceIte, Nat.reduceLeDiff, Int.reduceToNat, Int.reduceLE, IntKind.bits, Int.reducePow, fw, fd]))
 refine ay [0] (by rfl) (by simp) (by simp [fg])
theorem wr (l : List UInt8) (rb : Bool) (hl : l.length ≤ 1099511627776) :
  az Tryz.prog 102 [.ptr 0 0 0 1] [Rd l rb] (.bool (decide ((dc 1 l rb).1 = 1))) [Rd (dc 1 l rb).2.1 (dc 1 l rb).2.2] := by
 refine aS Tryz.func102 low102 (by simp [c102]) ?_
 simp only [c102]
 have hc := iP l rb 1 1 rfl hl
 generalize dc 1 l rb = r at hc
 obtain ⟨v, rest, bad⟩ := r
 dsimp only at hc ⊢
 have hb : ((v : Int) == 1) = decide (v = 1) := by
  rw [zN]; simp; omega
 repeat' ((first | apply ah | apply ai | apply af | apply ak mixed | (with_reducible first | refine au ?_ | refine aT (f := .c (.fn 96 [])) (z := []) (q := [0]) ?_ | refine aO (f := .c (.fn 96 [])) (z := []) (q := [0]) ?_ | refine ar ?_ | refine am (hc) (by simp) ?_) | (with_reducible refine ⟨?_, ?_⟩; (focus ((repeat' with_reducible refine ⟨?_, ?_⟩) <;> first | exact trivial | assumption | (simp; done) | (simp only [zA] at *; omega) | omega | (simp [fs]; done) | exact ax))) | (with_reducible intro x hx) | omega) <;> (try simp only [Rd, hb, Nat.reduceBEq, reduceIte, fw, fd]))
 refine ay [0] (by rfl) (by simp) (by simp [fg])
theorem kU {R : List D} {j : Nat} (h : j < R.length) (d : D) : R.take j ++ [d] ++ R.drop (j + 1) = R.set j d := by
 rw [List.set_eq_take_append_cons_drop, if_pos h]; simp
theorem cI (l : List UInt8) (rb cb : Bool) (sz : Nat) (R : List D) (j most : Nat) (hz : R.length = sz) (hj : j < sz) (hm : most < 9223372036854775808) (hl : l.length ≤ 1099511627776) :
  az Tryz.prog 57 [.ptr 0 0 0 1, .ptr 2 0 j 1, .int .u64 most] [Cr 1 cb, Rd l rb, Va sz R] (.tup [])
   [Cr 1 cb, Rd (dc most l rb).2.1 (dc most l rb).2.2, Va sz (R.set j (.int .i64 (dc most l rb).1))] := by
 refine aS Tryz.func57 low57 (by simp [c57]) ?_
 simp only [c57]
 have hc := iP l rb most _ rfl hl
 have hlt := fp most l rb (by omega)
 generalize dc most l rb = r at hc hlt ⊢
 obtain ⟨v, rest, bad⟩ := r
 dsimp only at hc hlt ⊢
 have hs := kU (show j < R.length by omega) (.int .i64 (v : Int))
 repeat' ((first | apply ah | apply al | apply ai | apply af | apply ab | apply ak mixed | apply ap mixed | (with_reducible first | refine au ?_ | refine aB (f := .c (.fn 96 [])) ?_ | refine ar ?_ | refine aw ?_ | refine am (hc) (by simp) ?_) | simp (disch := omega) only [aW] | ((first | refine aj ?_ ?_ | refine aa ?_ ?_) <;> intro hc <;> (try simp only [hc]) <;> try simp at hc) | (with_reducible refine ⟨?_, ?_⟩; (focus ((repeat' with_reducible refine ⟨?_, ?_⟩) <;> first | exact trivial | assumption | (simp; done) | (simp only [zA] at *; omega) | omega | (simp [fs]; done) | exact ax))) | (with_reducible intro x hx) | omega) <;> (try simp only [Rd, hs, Nat.reduceBEq, reduceIte, Nat.reduceAdd, reduceCtorEq, cond_true, fw, fd]))
 refine ay [0, 1, 2] (by rfl) (by simp) (by simp [fg])
theorem gI (l : List UInt8) (rb cb : Bool) (sz : Nat) (R : List D) (j most : Nat) (hz : R.length = sz) (hj : j < sz) (hm : most < 18446744073709551616) (hl : l.length ≤ 1099511627776) :
  az Tryz.prog 53 [.ptr 0 0 0 1, .ptr 2 0 j 1, .int .u64 most] [Cr 1 cb, Rd l rb, Va sz R] (.tup [])
   [Cr 1 cb, Rd (dc most l rb).2.1 (dc most l rb).2.2, Va sz (R.set j (.int .u64 (dc most l rb).1))] := by
 refine aS Tryz.func53 low53 (by simp [c53]) ?_
 simp only [c53]
 have hc := iP l rb most _ rfl hl
 have hlt := fp most l rb (by omega)
 generalize dc most l rb = r at hc hlt ⊢
 obtain ⟨v, rest, bad⟩ := r
 dsimp only at hc hlt ⊢
 have hs := kU (show j < R.length by omega) (.int .u64 (v : Int))
 repeat' ((first | apply ah | apply al | apply ai | apply af | apply ab | apply ak mixed | apply ap mixed | (with_reducible first | refine au ?_ | refine aB (f := .c (.fn 96 [])) ?_ | refine ar ?_ | refine aw ?_ | refine am (hc) (by simp) ?_) | ((first | refine aj ?_ ?_ | refine aa ?_ ?_) <;> intro hc <;> (try simp only [hc]) <;> try simp at hc) | (with_reducible refine ⟨?_, ?_⟩; (focus ((repeat' with_reducible refine ⟨?_, ?_⟩) <;> first | exact trivial | assumption | (simp; done) | (simp only [zA] at *; omega) | omega | (simp [fs]; done) | exact ax))) | (with_reducible intro x hx) | omega) <;> (try simp only [Rd, hs, Nat.reduceBEq, reduceIte, Nat.reduceAdd, reduceCtorEq, cond_true, fw, fd]))
 refine ay [0, 1, 2] (by rfl) (by simp) (by simp [fg])
theorem ze (l : List UInt8) (rb cb : Bool) (sz : Nat) (R : List D) (j most : Nat) (hz : R.length = sz) (hj : j < sz) (hm : most < 4294967296) (hl : l.length ≤ 1099511627776) :
  az Tryz.prog 111 [.ptr 0 0 0 1, .ptr 2 0 j 1, .int .u64 most] [Cr 1 cb, Rd l rb, Va sz R] (.tup [])
   [Cr 1 cb, Rd (dc most l rb).2.1 (dc most l rb).2.2, Va sz (R.set j (.int .u32 (dc most l rb).1))] := by
 refine aS Tryz.func111 low111 (by simp [c111]) ?_
 simp only [c111]
 have hc := iP l rb most _ rfl hl
 have hlt := fp most l rb (by omega)
 generalize dc most l rb = r at hc hlt ⊢
 obtain ⟨v, rest, bad⟩ := r
 dsimp only at hc hlt ⊢
 have hs := kU (show j < R.length by omega) (.int .u32 (v : Int))
 repeat' ((first | apply ah | apply al | apply ai | apply af | apply ab | apply ak mixed | apply ap mixed | (with_reducible first | refine au ?_ | refine aB (f := .c (.fn 96 [])) ?_ | refine ar ?_ | refine aw ?_ | refine am (hc) (by simp) ?_) | simp (disch := omega) only [aK] | ((first | refine aj ?_ ?_ | refine aa ?_ ?_) <;> intro hc <;> (try simp only [hc]) <;> try simp at hc) | (with_reducible refine ⟨?_, ?_⟩; (focus ((repeat' with_reducible refine ⟨?_, ?_⟩) <;> first | exact trivial | assumption | (simp; done) | (simp only [zA] at *; omega) | omega | (simp [fs]; done) | exact ax))) | (with_reducible intro x hx) | omega) <;> (try simp only [Rd, hs, Nat.reduceBEq, reduceIte, Nat.reduceAdd, reduceCtorEq, cond_true, fw, fd]))
 refine ay [0, 1, 2] (by rfl) (by simp) (by simp [fg])
theorem nz (l : List UInt8) (rb cb : Bool) (sz : Nat) (R : List D) (j : Nat) (lo hi : Int) (hz : R.length = sz) (hj : j < sz) (hl : l.length ≤ 1099511627776) :
  az Tryz.prog 136 [.ptr 0 0 0 1, .ptr 2 0 j 1, .int .i64 lo, .int .i64 hi] [Cr 1 cb, Rd l rb, Va sz R] (.tup [])
   [Cr 1 (cb || decide (eK (dc 18446744073709551615 l rb).1 < lo ∨ hi < eK (dc 18446744073709551615 l rb).1)), Rd (dc 18446744073709551615 l rb).2.1 (dc 18446744073709551615 l rb).2.2, Va sz (R.set j (.int .i64 (eK (dc 18446744073709551615 l rb).1)))] := by
 refine aS Tryz.func136 low136 (by simp [c136]) ?_
 simp only [c136]
 have hc := rj l rb hl
 have hlt := fp 18446744073709551615 l rb (by omega)
 have hv : dv (eK (dc 18446744073709551615 l rb).1) := by unfold dv eK; split <;> omega
 generalize dc 18446744073709551615 l rb = r at hc hlt hv ⊢
 obtain ⟨v, rest, bad⟩ := r
 dsimp only at hc hlt hv ⊢
 generalize eK v = x at hc hv ⊢
 unfold dv at hv
 have hs := kU (show j < R.length by omega) (.int .i64 x)
 cases cb
 ·simp only [Bool.false_or]
  by_cases h1 : x < lo
  ·have c1 : (x < lo) = True := by simpa using h1
   rw [decide_eq_true (.inl h1)]
   repeat' ((first | apply ah | apply al | apply ai | apply af | apply ab | apply ak mixed | apply ap mixed | (with_reducible first | refine au ?_ | refine aB (f := .c (.fn 134 [])) ?_ | refine ar ?_ | refine aw ?_ | refine am (hc) (by simp) ?_) | ((first | refine aj ?_ ?_ | refine aa ?_ ?_) <;> intro hc <;> (try simp only [hc]) <;> try simp at hc) | (with_reducible refine ⟨?_, ?_⟩; (focus ((repeat' with_reducible refine ⟨?_, ?_⟩) <;> first | exact trivial | assumption | (simp; done) | (simp only [zA] at *; omega) | omega | (simp [fs]; done) | exact ax))) | (with_reducible intro x hx) | omega) <;> (try simp only [Rd, hs, c1, Nat.reduceBEq, reduceIte, Nat.reduceAdd, reduceCtorEq, cond_true, cond_false, fw, fd]))
   refine ay [0, 1, 2] (by rfl) (by simp) (by simp [fg])
  ·have c1 : (x < lo) = False := by simpa using h1
   by_cases h2 : hi < x
   ·have c2 : (x > hi) = True := by simpa using h2
    rw [decide_eq_true (.inr h2)]
    repeat' ((first | apply ah | apply al | apply ai | apply af | apply ab | apply ak mixed | apply ap mixed | (with_reducible first | refine au ?_ | refine aB (f := .c (.fn 134 [])) ?_ | refine ar ?_ | refine aw ?_ | refine am (hc) (by simp) ?_) | ((first | refine aj ?_ ?_ | refine aa ?_ ?_) <;> intro hc <;> (try simp only [hc]) <;> try simp at hc) | (with_reducible refine ⟨?_, ?_⟩; (focus ((repeat' with_reducible refine ⟨?_, ?_⟩) <;> first | exact trivial | assumption | (simp; done) | (simp only [zA] at *; omega) | omega | (simp [fs]; done) | exact ax))) | (with_reducible intro x hx) | omega) <;> (try simp only [Rd, hs, c1, c2, Nat.reduceBEq, reduceIte, Nat.reduceAdd, reduceCtorEq, cond_true, cond_false, fw, fd]))
    refine ay [0, 1, 2] (by rfl) (by simp) (by simp [fg])
   ·have c2 : (x > hi) = False := by simpa using h2
    rw [decide_eq_false (fun h => h.elim h1 h2)]
    repeat' ((first | apply ah | apply al | apply ai | apply af | apply ab | apply ak mixed | apply ap mixed | (with_reducible first | refine au ?_ | refine aB (f := .c (.fn 134 [])) ?_ | refine ar ?_ | refine aw ?_ | refine am (hc) (by simp) ?_) | ((first | refine aj ?_ ?_ | refine aa ?_ ?_) <;> intro hc <;> (try simp only [hc]) <;> try simp at hc) | (with_reducible refine ⟨?_, ?_⟩; (focus ((repeat' with_reducible refine ⟨?_, ?_⟩) <;> first | exact trivial | assumption | (simp; done) | (simp only [zA] at *; omega) | omega | (simp [fs]; done) | exact ax))) | (with_reducible intro x hx) | omega) <;> (try simp only [Rd, hs, c1, c2, Nat.reduceBEq, reduceIte, Nat.reduceAdd, reduceCtorEq, cond_true, cond_false, fw, fd]))
    refine ay [0, 1, 2] (by rfl) (by simp) (by simp [fg])
 ·simp only [Bool.true_or]
  repeat' ((first | apply ah | apply al | apply ai | apply af | apply ab | apply ak mixed | apply ap mixed | (with_reducible first | refine au ?_ | refine aB (f := .c (.fn 134 [])) ?_ | refine ar ?_ | refine aw ?_ | refine am (hc) (by simp) ?_) | ((first | refine aj ?_ ?_ | refine aa ?_ ?_) <;> intro hc <;> (try simp only [hc]) <;> try simp at hc) | (with_reducible refine ⟨?_, ?_⟩; (focus ((repeat' with_reducible refine ⟨?_, ?_⟩) <;> first | exact trivial | assumption | (simp; done) | (simp only [zA] at *; omega) | omega | (simp [fs]; done) | exact ax))) | (with_reducible intro x hx) | omega) <;> (try simp only [Rd, hs, Nat.reduceBEq, reduceIte, Nat.reduceAdd, reduceCtorEq, cond_true, fw, fd]))
  refine ay [0, 1, 2] (by rfl) (by simp) (by simp [fg])
theorem zo (l : List UInt8) (rb cb : Bool) (sz : Nat) (R : List D) (j : Nat) (lo hi : Int) (hz : R.length = sz) (hj : j < sz) (hl : l.length ≤ 1099511627776) :
  az Tryz.prog 99 [.ptr 0 0 0 1, .ptr 2 0 j 1, .int .i64 lo, .int .i64 hi] [Cr 1 cb, Rd l rb, Va sz R] (.tup [])
   [Cr 1 (cb || decide (eK (dc 18446744073709551615 l rb).1 < lo ∨ hi < eK (dc 18446744073709551615 l rb).1)), Rd (dc 18446744073709551615 l rb).2.1 (dc 18446744073709551615 l rb).2.2, Va sz (R.set j (.int .i64 (eK (dc 18446744073709551615 l rb).1)))] := by
 refine aS Tryz.func99 low99 (by simp [c99]) ?_
 simp only [c99]
 have hc := rj l rb hl
 have hlt := fp 18446744073709551615 l rb (by omega)
 have hv : dv (eK (dc 18446744073709551615 l rb).1) := by unfold dv eK; split <;> omega
 generalize dc 18446744073709551615 l rb = r at hc hlt hv ⊢
 obtain ⟨v, rest, bad⟩ := r
 dsimp only at hc hlt hv ⊢
 generalize eK v = x at hc hv ⊢
 unfold dv at hv
 have hs := kU (show j < R.length by omega) (.int .i64 x)
 cases cb
 ·simp only [Bool.false_or]
  by_cases h1 : x < lo
  ·have c1 : (x < lo) = True := by simpa using h1
   rw [decide_eq_true (.inl h1)]
   repeat' ((first | apply ah | apply al | apply ai | apply af | apply ab | apply ak mixed | apply ap mixed | (with_reducible first | refine au ?_ | refine aB (f := .c (.fn 134 [])) ?_ | refine ar ?_ | refine aw ?_ | refine am (hc) (by simp) ?_) | ((first | refine aj ?_ ?_ | refine aa ?_ ?_) <;> intro hc <;> (try simp only [hc]) <;> try simp at hc) | (with_reducible refine ⟨?_, ?_⟩; (focus ((repeat' with_reducible refine ⟨?_, ?_⟩) <;> first | exact trivial | assumption | (simp; done) | (simp only [zA] at *; omega) | omega | (simp [fs]; done) | exact ax))) | (with_reducible intro x hx) | omega) <;> (try simp only [Rd, hs, c1, Nat.reduceBEq, reduceIte, Nat.reduceAdd, reduceCtorEq, cond_true, cond_false, fw, fd]))
   refine ay [0, 1, 2] (by rfl) (by simp) (by simp [fg])
  ·have c1 : (x < lo) = False := by simpa using h1
   by_cases h2 : hi < x
   ·have c2 : (x > hi) = True := by simpa using h2
    rw [decide_eq_true (.inr h2)]
    repeat' ((first | apply ah | apply al | apply ai | apply af | apply ab | apply ak mixed | apply ap mixed | (with_reducible first | refine au ?_ | refine aB (f := .c (.fn 134 [])) ?_ | refine ar ?_ | refine aw ?_ | refine am (hc) (by simp) ?_) | ((first | refine aj ?_ ?_ | refine aa ?_ ?_) <;> intro hc <;> (try simp only [hc]) <;> try simp at hc) | (with_reducible refine ⟨?_, ?_⟩; (focus ((repeat' with_reducible refine ⟨?_, ?_⟩) <;> first | exact trivial | assumption | (simp; done) | (simp only [zA] at *; omega) | omega | (simp [fs]; done) | exact ax))) | (with_reducible intro x hx) | omega) <;> (try simp only [Rd, hs, c1, c2, Nat.reduceBEq, reduceIte, Nat.reduceAdd, reduceCtorEq, cond_true, cond_false, fw, fd]))
    refine ay [0, 1, 2] (by rfl) (by simp) (by simp [fg])
   ·have c2 : (x > hi) = False := by simpa using h2
    rw [decide_eq_false (fun h => h.elim h1 h2)]
    repeat' ((first | apply ah | apply al | apply ai | apply af | apply ab | apply ak mixed | apply ap mixed | (with_reducible first | refine au ?_ | refine aB (f := .c (.fn 134 [])) ?_ | refine ar ?_ | refine aw ?_ | refine am (hc) (by simp) ?_) | ((first | refine aj ?_ ?_ | refine aa ?_ ?_) <;> intro hc <;> (try simp only [hc]) <;> try simp at hc) | (with_reducible refine ⟨?_, ?_⟩; (focus ((repeat' with_reducible refine ⟨?_, ?_⟩) <;> first | exact trivial | assumption | (simp; done) | (simp only [zA] at *; omega) | omega | (simp [fs]; done) | exact ax))) | (with_reducible intro x hx) | omega) <;> (try simp only [Rd, hs, c1, c2, Nat.reduceBEq, reduceIte, Nat.reduceAdd, reduceCtorEq, cond_true, cond_false, fw, fd]))
    refine ay [0, 1, 2] (by rfl) (by simp) (by simp [fg])
 ·simp only [Bool.true_or]
  repeat' ((first | apply ah | apply al | apply ai | apply af | apply ab | apply ak mixed | apply ap mixed | (with_reducible first | refine au ?_ | refine aB (f := .c (.fn 134 [])) ?_ | refine ar ?_ | refine aw ?_ | refine am (hc) (by simp) ?_) | ((first | refine aj ?_ ?_ | refine aa ?_ ?_) <;> intro hc <;> (try simp only [hc]) <;> try simp at hc) | (with_reducible refine ⟨?_, ?_⟩; (focus ((repeat' with_reducible refine ⟨?_, ?_⟩) <;> first | exact trivial | assumption | (simp; done) | (simp only [zA] at *; omega) | omega | (simp [fs]; done) | exact ax))) | (with_reducible intro x hx) | omega) <;> (try simp only [Rd, hs, Nat.reduceBEq, reduceIte, Nat.reduceAdd, reduceCtorEq, cond_true, fw, fd]))
  refine ay [0, 1, 2] (by rfl) (by simp) (by simp [fg])
theorem ff (l : List UInt8) (rb cb : Bool) (sz : Nat) (R : List D) (j : Nat) (hz : R.length = sz) (hj : j < sz) (hl : l.length ≤ 1099511627776) :
  az Tryz.prog 78 [.ptr 0 0 0 1, .ptr 2 0 j 1] [Cr 1 cb, Rd l rb, Va sz R] (.tup [])
   [Cr 1 cb, Rd (dc 4294967295 l rb).2.1 (dc 4294967295 l rb).2.2, Va sz (R.set j (.int .u32 (dc 4294967295 l rb).1))] := by
 refine aS Tryz.func78 low78 (by simp [c78]) ?_
 simp only [c78]
 have hn := ze l rb cb sz R j 4294967295 hz hj (by omega) hl
 generalize dc 4294967295 l rb = r at hn ⊢
 repeat' ((first | apply ah | apply ai | apply af | apply ak mixed | (with_reducible first | refine au ?_ | refine aB (f := .c (.fn 111 [])) ?_ | refine ar ?_ | refine am (hn) (by simp) ?_) | (with_reducible refine ⟨?_, ?_⟩; (focus ((repeat' with_reducible refine ⟨?_, ?_⟩) <;> first | exact trivial | assumption | (simp; done) | (simp only [zA] at *; omega) | omega | (simp [fs]; done) | exact ax))) | (with_reducible intro x hx) | omega) <;> (try simp only [Rd, Nat.reduceBEq, reduceIte, Nat.reduceEqDiff, Nat.reduceAdd, Nat.reduceSub, Nat.reduceLT, reduceCtorEq, fw, fd]))
 refine ay [0, 1, 2] (by rfl) (by simp) (by simp [fg])
theorem cC (l : List UInt8) (rb cb : Bool) (sz : Nat) (R : List D) (j : Nat) (hz : R.length = sz) (hj : j < sz) (hl : l.length ≤ 1099511627776) :
  az Tryz.prog 56 [.ptr 0 0 0 1, .ptr 2 0 j 1] [Cr 1 cb, Rd l rb, Va sz R] (.tup [])
   [Cr 1 cb, Rd (dc 18446744073709551615 l rb).2.1 (dc 18446744073709551615 l rb).2.2, Va sz (R.set j (.int .i64 (eK (dc 18446744073709551615 l rb).1)))] := by
 refine aS Tryz.func56 low56 (by simp [c56]) ?_
 simp only [c56]
 have hn := zo l rb cb sz R j (-9223372036854775808) 9223372036854775807 hz hj hl
 have hlt := fp 18446744073709551615 l rb (by omega)
 have e : decide (eK (dc 18446744073709551615 l rb).1 < -9223372036854775808 ∨ 9223372036854775807 < eK (dc 18446744073709551615 l rb).1) = false := by
  rw [decide_eq_false_iff_not]; unfold eK; split <;> omega
 rw [e, zR] at hn
 generalize dc 18446744073709551615 l rb = r at hn ⊢
 repeat' ((first | apply ah | apply ai | apply af | apply ak mixed | (with_reducible first | refine au ?_ | refine aB (f := .c (.fn 99 [])) ?_ | refine ar ?_ | refine am (hn) (by simp) ?_) | (with_reducible refine ⟨?_, ?_⟩; (focus ((repeat' with_reducible refine ⟨?_, ?_⟩) <;> first | exact trivial | assumption | (simp; done) | (simp only [zA] at *; omega) | omega | (simp [fs]; done) | exact ax))) | (with_reducible intro x hx) | omega) <;> (try simp only [Rd, Nat.reduceBEq, reduceIte, Nat.reduceEqDiff, Nat.reduceAdd, Nat.reduceSub, Nat.reduceLT, reduceCtorEq, Int.reduceNeg, fw, fd]))
 refine ay [0, 1, 2] (by rfl) (by simp) (by simp [fg])
theorem tD (l : List UInt8) (rb cb : Bool) (sz : Nat) (R : List D) (j : Nat) (hz : R.length = sz) (hj : j < sz) (hl : l.length ≤ 1099511627776) :
  az Tryz.prog 59 [.ptr 0 0 0 1, .ptr 2 0 j 1] [Cr 1 cb, Rd l rb, Va sz R] (.tup [])
   [Cr 1 cb, Rd (dc 1 l rb).2.1 (dc 1 l rb).2.2, Va sz (R.set j (.bool (decide ((dc 1 l rb).1 = 1))))] := by
 refine aS Tryz.func59 low59 (by simp [c59]) ?_
 simp only [c59]
 have hn := wr l rb hl
 generalize dc 1 l rb = r at hn ⊢
 generalize decide (r.1 = 1) = b at hn ⊢
 have hs := kU (show j < R.length by omega) (.bool b)
 repeat' ((first | apply ah | apply al | apply ai | apply af | apply ab | apply ak mixed | apply ap mixed | (with_reducible first | refine au ?_ | refine aB (f := .c (.fn 102 [])) ?_ | refine ar ?_ | refine aw ?_ | refine am (hn) (by simp) ?_) | (refine aa ?_ ?_ <;> intro hc <;> (try simp only [hc]) <;> try simp at hc) | (with_reducible refine ⟨?_, ?_⟩; (focus ((repeat' with_reducible refine ⟨?_, ?_⟩) <;> first | exact trivial | assumption | (simp; done) | (simp only [zA] at *; omega) | omega | (simp [fs]; done) | exact ax))) | (with_reducible intro x hx) | omega) <;> (try simp only [Rd, hs, Nat.reduceBEq, reduceIte, Nat.reduceAdd, reduceCtorEq, cond_true, fw, fd]))
 refine ay [0, 1, 2] (by rfl) (by simp) (by simp [fg])
end Go.Proofs.YtgefljdclekadaaGreat
