import Derived.Test.YtgefljdclekadaaRMC
import Derived.Test.YtgefljdclekadaaVi25
set_option linter.unusedVariables false
set_option linter.unusedSimpArgs false
namespace Go.Proofs.Ytgefljdclekadaa
open Go Go.Vi
abbrev Cw (w : Nat) (bad : Bool) : Ob := ⟨true, false, false, false, 3, [[.ptr w 0 0 1, .nilp, .bool bad]], some 0⟩
abbrev Ww (b k : Nat) : Ob := ⟨true, false, false, false, 1, [[.own b 0 k k 1 none]], some 0⟩
abbrev Va (sz : Nat) (R : List D) : Ob := ⟨true, false, true, false, sz, [R], some 0⟩
def uI (x : Int) : Nat := (x % 18446744073709551616).toNat
theorem gN (x : Int) : uI x < 18446744073709551616 := by unfold uI; omega
theorem uz (x : Int) : IntKind.u64.wrap x = ((uI x : Nat) : Int) := by
 rw [i9]; unfold uI; omega
theorem en {x : Int} (h1 : 0 ≤ x) (h2 : x ≤ 18446744073709551615) : ((uI x : Nat) : Int) = x := by unfold uI; omega
abbrev cR (x : Int) : Prop := -9223372036854775808 ≤ x ∧ x ≤ 9223372036854775807
theorem bF (l : List UInt8) (bad : Bool) (sz : Nat) (R : List D) (j most : Nat) (x : Int) (hR : R[j]? = some (.int .i64 x)) (hx : cR x) (hm : most < 18446744073709551616) (hl : l.length ≤ 1099511627776) :
  az Try.prog 32 [.ptr 0 0 0 1, .ptr 3 0 j 1, .int .u64 most] [Cw 1 bad, Ww 2 l.length, aU true 1 true (r8 l), Va sz R] (.tup [])
   [Cw 1 (bad || decide (most < uI x)), Ww 2 (l ++ aX (uI x)).length, aU true 1 true (r8 (l ++ aX (uI x))), Va sz R] := by
 refine aK Try.func32 low32 (by simp [c32]) ?_
 simp only [c32]
 have hu := uz x
 have hn := eH l (uI x) (uI x) rfl (gN x) hl
 have h10 := eI (gN x)
 unfold cR at hx
 cases bad
 ·simp only [Bool.false_or]
  by_cases hc : most < uI x
  ·have c1 : (((uI x : Nat) : Int) > ((most : Nat) : Int)) = True := by simp; omega
   rw [decide_eq_true hc]
   repeat' ((first | apply ai | apply ah | apply al | apply aj | apply ae | apply ak mixed | apply ap mixed | (with_reducible first | refine af ?_ | refine aD (f := .c (.fn 59 [])) ?_ | refine ao ?_ | refine aC ?_ | refine ab (hn) (by simp) ?_) | simp (disch := omega) only [bf, aG, aN, aO, bp, Int.tdiv_eq_ediv_of_nonneg, Int.tmod_eq_emod_of_nonneg] | ((first | refine ac ?_ ?_ | refine aa ?_ ?_) <;> intro hc <;> (try simp only [hc]) <;> try simp at hc) | (with_reducible refine ⟨?_, ?_⟩; (focus ((repeat' with_reducible refine ⟨?_, ?_⟩) <;> first | exact trivial | assumption | (simp; done) | (simp only [List.length_map] at *; omega) | omega | (simp [fs]; done) | exact ay))) | (with_reducible intro x hx) | omega) <;> (try simp only [Wr, hR, hu, c1, Nat.reduceBEq, reduceIte, Nat.reduceEqDiff, Nat.reduceAdd, Nat.reduceSub, reduceCtorEq, cond_true, cond_false, fw, fd]))
   refine aw [0, 1, 2, 3] (by rfl) (by simp) (by simp [fg])
  ·have c1 : (((uI x : Nat) : Int) > ((most : Nat) : Int)) = False := by simp; omega
   rw [decide_eq_false hc]
   repeat' ((first | apply ai | apply ah | apply al | apply aj | apply ae | apply ak mixed | apply ap mixed | (with_reducible first | refine af ?_ | refine aD (f := .c (.fn 59 [])) ?_ | refine ao ?_ | refine aC ?_ | refine ab (hn) (by simp) ?_) | simp (disch := omega) only [bf, aG, aN, aO, bp, Int.tdiv_eq_ediv_of_nonneg, Int.tmod_eq_emod_of_nonneg] | ((first | refine ac ?_ ?_ | refine aa ?_ ?_) <;> intro hc <;> (try simp only [hc]) <;> try simp at hc) | (with_reducible refine ⟨?_, ?_⟩; (focus ((repeat' with_reducible refine ⟨?_, ?_⟩) <;> first | exact trivial | assumption | (simp; done) | (simp only [List.length_map] at *; omega) | omega | (simp [fs]; done) | exact ay))) | (with_reducible intro x hx) | omega) <;> (try simp only [Wr, hR, hu, c1, Nat.reduceBEq, reduceIte, Nat.reduceEqDiff, Nat.reduceAdd, Nat.reduceSub, reduceCtorEq, cond_true, cond_false, fw, fd]))
   refine aw [0, 1, 2, 3] (by rfl) (by simp) (by simp [fg])
 ·simp only [Bool.true_or]
  repeat' ((first | apply ai | apply ah | apply al | apply aj | apply ae | apply ak mixed | apply ap mixed | (with_reducible first | refine af ?_ | refine aD (f := .c (.fn 59 [])) ?_ | refine ao ?_ | refine aC ?_ | refine ab (hn) (by simp) ?_) | simp (disch := omega) only [bf, aG, aN, aO, bp, Int.tdiv_eq_ediv_of_nonneg, Int.tmod_eq_emod_of_nonneg] | ((first | refine ac ?_ ?_ | refine aa ?_ ?_) <;> intro hc <;> (try simp only [hc]) <;> try simp at hc) | (with_reducible refine ⟨?_, ?_⟩; (focus ((repeat' with_reducible refine ⟨?_, ?_⟩) <;> first | exact trivial | assumption | (simp; done) | (simp only [List.length_map] at *; omega) | omega | (simp [fs]; done) | exact ay))) | (with_reducible intro x hx) | omega) <;> (try simp only [Wr, hR, hu, Nat.reduceBEq, reduceIte, Nat.reduceEqDiff, Nat.reduceAdd, Nat.reduceSub, reduceCtorEq, cond_true, fw, fd]))
  refine aw [0, 1, 2, 3] (by rfl) (by simp) (by simp [fg])
theorem eg (l : List UInt8) (bad : Bool) (sz : Nat) (R : List D) (j most : Nat) (x : Int) (hR : R[j]? = some (.int .u64 x)) (hx : 0 ≤ x ∧ x ≤ 18446744073709551615) (hm : most < 18446744073709551616) (hl : l.length ≤ 1099511627776) :
  az Try.prog 34 [.ptr 0 0 0 1, .ptr 3 0 j 1, .int .u64 most] [Cw 1 bad, Ww 2 l.length, aU true 1 true (r8 l), Va sz R] (.tup [])
   [Cw 1 (bad || decide (most < uI x)), Ww 2 (l ++ aX (uI x)).length, aU true 1 true (r8 (l ++ aX (uI x))), Va sz R] := by
 refine aK Try.func34 low34 (by simp [c34]) ?_
 simp only [c34]
 have hu := en hx.1 hx.2
 have hn := eH l (uI x) x hu.symm (gN x) hl
 have h10 := eI (gN x)
 cases bad
 ·simp only [Bool.false_or]
  by_cases hc : most < uI x
  ·have c1 : (x > ((most : Nat) : Int)) = True := by simp; omega
   rw [decide_eq_true hc]
   repeat' ((first | apply ai | apply ah | apply al | apply aj | apply ae | apply ak mixed | apply ap mixed | (with_reducible first | refine af ?_ | refine aD (f := .c (.fn 59 [])) ?_ | refine ao ?_ | refine aC ?_ | refine ab (hn) (by simp) ?_) | ((first | refine ac ?_ ?_ | refine aa ?_ ?_) <;> intro hc <;> (try simp only [hc]) <;> try simp at hc) | (with_reducible refine ⟨?_, ?_⟩; (focus ((repeat' with_reducible refine ⟨?_, ?_⟩) <;> first | exact trivial | assumption | (simp; done) | (simp only [List.length_map] at *; omega) | omega | (simp [fs]; done) | exact ay))) | (with_reducible intro x hx) | omega) <;> (try simp only [Wr, hR, c1, Nat.reduceBEq, reduceIte, Nat.reduceEqDiff, Nat.reduceAdd, Nat.reduceSub, reduceCtorEq, cond_true, cond_false, fw, fd]))
   refine aw [0, 1, 2, 3] (by rfl) (by simp) (by simp [fg])
  ·have c1 : (x > ((most : Nat) : Int)) = False := by simp; omega
   rw [decide_eq_false hc]
   repeat' ((first | apply ai | apply ah | apply al | apply aj | apply ae | apply ak mixed | apply ap mixed | (with_reducible first | refine af ?_ | refine aD (f := .c (.fn 59 [])) ?_ | refine ao ?_ | refine aC ?_ | refine ab (hn) (by simp) ?_) | ((first | refine ac ?_ ?_ | refine aa ?_ ?_) <;> intro hc <;> (try simp only [hc]) <;> try simp at hc) | (with_reducible refine ⟨?_, ?_⟩; (focus ((repeat' with_reducible refine ⟨?_, ?_⟩) <;> first | exact trivial | assumption | (simp; done) | (simp only [List.length_map] at *; omega) | omega | (simp [fs]; done) | exact ay))) | (with_reducible intro x hx) | omega) <;> (try simp only [Wr, hR, c1, Nat.reduceBEq, reduceIte, Nat.reduceEqDiff, Nat.reduceAdd, Nat.reduceSub, reduceCtorEq, cond_true, cond_false, fw, fd]))
   refine aw [0, 1, 2, 3] (by rfl) (by simp) (by simp [fg])
 ·simp only [Bool.true_or]
  repeat' ((first | apply ai | apply ah | apply al | apply aj | apply ae | apply ak mixed | apply ap mixed | (with_reducible first | refine af ?_ | refine aD (f := .c (.fn 59 [])) ?_ | refine ao ?_ | refine aC ?_ | refine ab (hn) (by simp) ?_) | ((first | refine ac ?_ ?_ | refine aa ?_ ?_) <;> intro hc <;> (try simp only [hc]) <;> try simp at hc) | (with_reducible refine ⟨?_, ?_⟩; (focus ((repeat' with_reducible refine ⟨?_, ?_⟩) <;> first | exact trivial | assumption | (simp; done) | (simp only [List.length_map] at *; omega) | omega | (simp [fs]; done) | exact ay))) | (with_reducible intro x hx) | omega) <;> (try simp only [Wr, hR, Nat.reduceBEq, reduceIte, Nat.reduceEqDiff, Nat.reduceAdd, Nat.reduceSub, reduceCtorEq, cond_true, fw, fd]))
  refine aw [0, 1, 2, 3] (by rfl) (by simp) (by simp [fg])
theorem xf (l : List UInt8) (bad : Bool) (sz : Nat) (R : List D) (j most : Nat) (x : Int) (hR : R[j]? = some (.int .u32 x)) (hx : 0 ≤ x ∧ x ≤ 4294967295) (hm : most < 18446744073709551616) (hl : l.length ≤ 1099511627776) :
  az Try.prog 60 [.ptr 0 0 0 1, .ptr 3 0 j 1, .int .u64 most] [Cw 1 bad, Ww 2 l.length, aU true 1 true (r8 l), Va sz R] (.tup [])
   [Cw 1 (bad || decide (most < uI x)), Ww 2 (l ++ aX (uI x)).length, aU true 1 true (r8 (l ++ aX (uI x))), Va sz R] := by
 refine aK Try.func60 low60 (by simp [c60]) ?_
 simp only [c60]
 have hu := en hx.1 (by omega)
 have hn := eH l (uI x) x hu.symm (gN x) hl
 have h10 := eI (gN x)
 cases bad
 ·simp only [Bool.false_or]
  by_cases hc : most < uI x
  ·have c1 : (x > ((most : Nat) : Int)) = True := by simp; omega
   rw [decide_eq_true hc]
   repeat' ((first | apply ai | apply ah | apply al | apply aj | apply ae | apply ak mixed | apply ap mixed | (with_reducible first | refine af ?_ | refine aD (f := .c (.fn 59 [])) ?_ | refine ao ?_ | refine aC ?_ | refine ab (hn) (by simp) ?_) | simp (disch := omega) only [aG] | ((first | refine ac ?_ ?_ | refine aa ?_ ?_) <;> intro hc <;> (try simp only [hc]) <;> try simp at hc) | (with_reducible refine ⟨?_, ?_⟩; (focus ((repeat' with_reducible refine ⟨?_, ?_⟩) <;> first | exact trivial | assumption | (simp; done) | (simp only [List.length_map] at *; omega) | omega | (simp [fs]; done) | exact ay))) | (with_reducible intro x hx) | omega) <;> (try simp only [Wr, hR, c1, Nat.reduceBEq, reduceIte, Nat.reduceEqDiff, Nat.reduceAdd, Nat.reduceSub, reduceCtorEq, cond_true, cond_false, fw, fd]))
   refine aw [0, 1, 2, 3] (by rfl) (by simp) (by simp [fg])
  ·have c1 : (x > ((most : Nat) : Int)) = False := by simp; omega
   rw [decide_eq_false hc]
   repeat' ((first | apply ai | apply ah | apply al | apply aj | apply ae | apply ak mixed | apply ap mixed | (with_reducible first | refine af ?_ | refine aD (f := .c (.fn 59 [])) ?_ | refine ao ?_ | refine aC ?_ | refine ab (hn) (by simp) ?_) | simp (disch := omega) only [aG] | ((first | refine ac ?_ ?_ | refine aa ?_ ?_) <;> intro hc <;> (try simp only [hc]) <;> try simp at hc) | (with_reducible refine ⟨?_, ?_⟩; (focus ((repeat' with_reducible refine ⟨?_, ?_⟩) <;> first | exact trivial | assumption | (simp; done) | (simp only [List.length_map] at *; omega) | omega | (simp [fs]; done) | exact ay))) | (with_reducible intro x hx) | omega) <;> (try simp only [Wr, hR, c1, Nat.reduceBEq, reduceIte, Nat.reduceEqDiff, Nat.reduceAdd, Nat.reduceSub, reduceCtorEq, cond_true, cond_false, fw, fd]))
   refine aw [0, 1, 2, 3] (by rfl) (by simp) (by simp [fg])
 ·simp only [Bool.true_or]
  repeat' ((first | apply ai | apply ah | apply al | apply aj | apply ae | apply ak mixed | apply ap mixed | (with_reducible first | refine af ?_ | refine aD (f := .c (.fn 59 [])) ?_ | refine ao ?_ | refine aC ?_ | refine ab (hn) (by simp) ?_) | simp (disch := omega) only [aG] | ((first | refine ac ?_ ?_ | refine aa ?_ ?_) <;> intro hc <;> (try simp only [hc]) <;> try simp at hc) | (with_reducible refine ⟨?_, ?_⟩; (focus ((repeat' with_reducible refine ⟨?_, ?_⟩) <;> first | exact trivial | assumption | (simp; done) | (simp only [List.length_map] at *; omega) | omega | (simp [fs]; done) | exact ay))) | (with_reducible intro x hx) | omega) <;> (try simp only [Wr, hR, Nat.reduceBEq, reduceIte, Nat.reduceEqDiff, Nat.reduceAdd, Nat.reduceSub, reduceCtorEq, cond_true, fw, fd]))
  refine aw [0, 1, 2, 3] (by rfl) (by simp) (by simp [fg])
theorem mP (l : List UInt8) (bad : Bool) (sz : Nat) (R : List D) (j : Nat) (x lo hi : Int) (hR : R[j]? = some (.int .i64 x)) (hx : cR x) (hl : l.length ≤ 1099511627776) :
  az Try.prog 86 [.ptr 0 0 0 1, .ptr 3 0 j 1, .int .i64 lo, .int .i64 hi] [Cw 1 bad, Ww 2 l.length, aU true 1 true (r8 l), Va sz R] (.tup [])
   [Cw 1 (bad || decide (x < lo ∨ hi < x)), Ww 2 (l ++ aX (zz x)).length, aU true 1 true (r8 (l ++ aX (zz x))), Va sz R] := by
 refine aK Try.func86 low86 (by simp [c86]) ?_
 simp only [c86]
 unfold cR at hx
 have hn := nI l x hx.1 hx.2 hl
 have h10 := eI (lS hx.1 hx.2)
 cases bad
 ·simp only [Bool.false_or]
  by_cases h1 : x < lo
  ·have c1 : (x < lo) = True := by simpa using h1
   rw [decide_eq_true (.inl h1)]
   repeat' ((first | apply ai | apply ah | apply al | apply aj | apply ae | apply ak mixed | apply ap mixed | (with_reducible first | refine af ?_ | refine aD (f := .c (.fn 95 [])) ?_ | refine ao ?_ | refine aC ?_ | refine ab (hn) (by simp) ?_) | ((first | refine ac ?_ ?_ | refine aa ?_ ?_) <;> intro hc <;> (try simp only [hc]) <;> try simp at hc) | (with_reducible refine ⟨?_, ?_⟩; (focus ((repeat' with_reducible refine ⟨?_, ?_⟩) <;> first | exact trivial | assumption | (simp; done) | (simp only [List.length_map] at *; omega) | omega | (simp [fs]; done) | exact ay))) | (with_reducible intro x hx) | omega) <;> (try simp only [Wr, hR, c1, Nat.reduceBEq, reduceIte, Nat.reduceEqDiff, Nat.reduceAdd, Nat.reduceSub, reduceCtorEq, cond_true, cond_false, fw, fd]))
   refine aw [0, 1, 2, 3] (by rfl) (by simp) (by simp [fg])
  ·have c1 : (x < lo) = False := by simpa using h1
   by_cases h2 : hi < x
   ·have c2 : (x > hi) = True := by simpa using h2
    rw [decide_eq_true (.inr h2)]
    repeat' ((first | apply ai | apply ah | apply al | apply aj | apply ae | apply ak mixed | apply ap mixed | (with_reducible first | refine af ?_ | refine aD (f := .c (.fn 95 [])) ?_ | refine ao ?_ | refine aC ?_ | refine ab (hn) (by simp) ?_) | ((first | refine ac ?_ ?_ | refine aa ?_ ?_) <;> intro hc <;> (try simp only [hc]) <;> try simp at hc) | (with_reducible refine ⟨?_, ?_⟩; (focus ((repeat' with_reducible refine ⟨?_, ?_⟩) <;> first | exact trivial | assumption | (simp; done) | (simp only [List.length_map] at *; omega) | omega | (simp [fs]; done) | exact ay))) | (with_reducible intro x hx) | omega) <;> (try simp only [Wr, hR, c1, c2, Nat.reduceBEq, reduceIte, Nat.reduceEqDiff, Nat.reduceAdd, Nat.reduceSub, reduceCtorEq, cond_true, cond_false, fw, fd]))
    refine aw [0, 1, 2, 3] (by rfl) (by simp) (by simp [fg])
   ·have c2 : (x > hi) = False := by simpa using h2
    rw [decide_eq_false (fun h => h.elim h1 h2)]
    repeat' ((first | apply ai | apply ah | apply al | apply aj | apply ae | apply ak mixed | apply ap mixed | (with_reducible first | refine af ?_ | refine aD (f := .c (.fn 95 [])) ?_ | refine ao ?_ | refine aC ?_ | refine ab (hn) (by simp) ?_) | ((first | refine ac ?_ ?_ | refine aa ?_ ?_) <;> intro hc <;> (try simp only [hc]) <;> try simp at hc) | (with_reducible refine ⟨?_, ?_⟩; (focus ((repeat' with_reducible refine ⟨?_, ?_⟩) <;> first | exact trivial | assumption | (simp; done) | (simp only [List.length_map] at *; omega) | omega | (simp [fs]; done) | exact ay))) | (with_reducible intro x hx) | omega) <;> (try simp only [Wr, hR, c1, c2, Nat.reduceBEq, reduceIte, Nat.reduceEqDiff, Nat.reduceAdd, Nat.reduceSub, reduceCtorEq, cond_true, cond_false, fw, fd]))
    refine aw [0, 1, 2, 3] (by rfl) (by simp) (by simp [fg])
 ·simp only [Bool.true_or]
  repeat' ((first | apply ai | apply ah | apply al | apply aj | apply ae | apply ak mixed | apply ap mixed | (with_reducible first | refine af ?_ | refine aD (f := .c (.fn 95 [])) ?_ | refine ao ?_ | refine aC ?_ | refine ab (hn) (by simp) ?_) | ((first | refine ac ?_ ?_ | refine aa ?_ ?_) <;> intro hc <;> (try simp only [hc]) <;> try simp at hc) | (with_reducible refine ⟨?_, ?_⟩; (focus ((repeat' with_reducible refine ⟨?_, ?_⟩) <;> first | exact trivial | assumption | (simp; done) | (simp only [List.length_map] at *; omega) | omega | (simp [fs]; done) | exact ay))) | (with_reducible intro x hx) | omega) <;> (try simp only [Wr, hR, Nat.reduceBEq, reduceIte, Nat.reduceEqDiff, Nat.reduceAdd, Nat.reduceSub, reduceCtorEq, cond_true, fw, fd]))
  refine aw [0, 1, 2, 3] (by rfl) (by simp) (by simp [fg])
theorem yg (l : List UInt8) (bad : Bool) (sz : Nat) (R : List D) (j : Nat) (x lo hi : Int) (hR : R[j]? = some (.int .i64 x)) (hx : cR x) (hl : l.length ≤ 1099511627776) :
  az Try.prog 79 [.ptr 0 0 0 1, .ptr 3 0 j 1, .int .i64 lo, .int .i64 hi] [Cw 1 bad, Ww 2 l.length, aU true 1 true (r8 l), Va sz R] (.tup [])
   [Cw 1 (bad || decide (x < lo ∨ hi < x)), Ww 2 (l ++ aX (zz x)).length, aU true 1 true (r8 (l ++ aX (zz x))), Va sz R] := by
 refine aK Try.func79 low79 (by simp [c79]) ?_
 simp only [c79]
 unfold cR at hx
 have hn := nI l x hx.1 hx.2 hl
 have h10 := eI (lS hx.1 hx.2)
 cases bad
 ·simp only [Bool.false_or]
  by_cases h1 : x < lo
  ·have c1 : (x < lo) = True := by simpa using h1
   rw [decide_eq_true (.inl h1)]
   repeat' ((first | apply ai | apply ah | apply al | apply aj | apply ae | apply ak mixed | apply ap mixed | (with_reducible first | refine af ?_ | refine aD (f := .c (.fn 95 [])) ?_ | refine ao ?_ | refine aC ?_ | refine ab (hn) (by simp) ?_) | ((first | refine ac ?_ ?_ | refine aa ?_ ?_) <;> intro hc <;> (try simp only [hc]) <;> try simp at hc) | (with_reducible refine ⟨?_, ?_⟩; (focus ((repeat' with_reducible refine ⟨?_, ?_⟩) <;> first | exact trivial | assumption | (simp; done) | (simp only [List.length_map] at *; omega) | omega | (simp [fs]; done) | exact ay))) | (with_reducible intro x hx) | omega) <;> (try simp only [Wr, hR, c1, Nat.reduceBEq, reduceIte, Nat.reduceEqDiff, Nat.reduceAdd, Nat.reduceSub, reduceCtorEq, cond_true, cond_false, fw, fd]))
   refine aw [0, 1, 2, 3] (by rfl) (by simp) (by simp [fg])
  ·have c1 : (x < lo) = False := by simpa using h1
   by_cases h2 : hi < x
   ·have c2 : (x > hi) = True := by simpa using h2
    rw [decide_eq_true (.inr h2)]
    repeat' ((first | apply ai | apply ah | apply al | apply aj | apply ae | apply ak mixed | apply ap mixed | (with_reducible first | refine af ?_ | refine aD (f := .c (.fn 95 [])) ?_ | refine ao ?_ | refine aC ?_ | refine ab (hn) (by simp) ?_) | ((first | refine ac ?_ ?_ | refine aa ?_ ?_) <;> intro hc <;> (try simp only [hc]) <;> try simp at hc) | (with_reducible refine ⟨?_, ?_⟩; (focus ((repeat' with_reducible refine ⟨?_, ?_⟩) <;> first | exact trivial | assumption | (simp; done) | (simp only [List.length_map] at *; omega) | omega | (simp [fs]; done) | exact ay))) | (with_reducible intro x hx) | omega) <;> (try simp only [Wr, hR, c1, c2, Nat.reduceBEq, reduceIte, Nat.reduceEqDiff, Nat.reduceAdd, Nat.reduceSub, reduceCtorEq, cond_true, cond_false, fw, fd]))
    refine aw [0, 1, 2, 3] (by rfl) (by simp) (by simp [fg])
   ·have c2 : (x > hi) = False := by simpa using h2
    rw [decide_eq_false (fun h => h.elim h1 h2)]
    repeat' ((first | apply ai | apply ah | apply al | apply aj | apply ae | apply ak mixed | apply ap mixed | (with_reducible first | refine af ?_ | refine aD (f := .c (.fn 95 [])) ?_ | refine ao ?_ | refine aC ?_ | refine ab (hn) (by simp) ?_) | ((first | refine ac ?_ ?_ | refine aa ?_ ?_) <;> intro hc <;> (try simp only [hc]) <;> try simp at hc) | (with_reducible refine ⟨?_, ?_⟩; (focus ((repeat' with_reducible refine ⟨?_, ?_⟩) <;> first | exact trivial | assumption | (simp; done) | (simp only [List.length_map] at *; omega) | omega | (simp [fs]; done) | exact ay))) | (with_reducible intro x hx) | omega) <;> (try simp only [Wr, hR, c1, c2, Nat.reduceBEq, reduceIte, Nat.reduceEqDiff, Nat.reduceAdd, Nat.reduceSub, reduceCtorEq, cond_true, cond_false, fw, fd]))
    refine aw [0, 1, 2, 3] (by rfl) (by simp) (by simp [fg])
 ·simp only [Bool.true_or]
  repeat' ((first | apply ai | apply ah | apply al | apply aj | apply ae | apply ak mixed | apply ap mixed | (with_reducible first | refine af ?_ | refine aD (f := .c (.fn 95 [])) ?_ | refine ao ?_ | refine aC ?_ | refine ab (hn) (by simp) ?_) | ((first | refine ac ?_ ?_ | refine aa ?_ ?_) <;> intro hc <;> (try simp only [hc]) <;> try simp at hc) | (with_reducible refine ⟨?_, ?_⟩; (focus ((repeat' with_reducible refine ⟨?_, ?_⟩) <;> first | exact trivial | assumption | (simp; done) | (simp only [List.length_map] at *; omega) | omega | (simp [fs]; done) | exact ay))) | (with_reducible intro x hx) | omega) <;> (try simp only [Wr, hR, Nat.reduceBEq, reduceIte, Nat.reduceEqDiff, Nat.reduceAdd, Nat.reduceSub, reduceCtorEq, cond_true, fw, fd]))
  refine aw [0, 1, 2, 3] (by rfl) (by simp) (by simp [fg])
theorem ce (l : List UInt8) (bad : Bool) (sz : Nat) (R : List D) (j : Nat) (x : Int) (hR : R[j]? = some (.int .u32 x)) (hx : 0 ≤ x ∧ x ≤ 4294967295) (hl : l.length ≤ 1099511627776) :
  az Try.prog 33 [.ptr 0 0 0 1, .ptr 3 0 j 1] [Cw 1 bad, Ww 2 l.length, aU true 1 true (r8 l), Va sz R] (.tup [])
   [Cw 1 bad, Ww 2 (l ++ aX (uI x)).length, aU true 1 true (r8 (l ++ aX (uI x))), Va sz R] := by
 refine aK Try.func33 low33 (by simp [c33]) ?_
 simp only [c33]
 have hn := xf l bad sz R j 4294967295 x hR hx (by omega) hl
 have e : decide (4294967295 < uI x) = false := by
  have := en hx.1 (show x ≤ 18446744073709551615 by omega)
  rw [decide_eq_false_iff_not]; omega
 rw [e, Bool.or_false] at hn
 repeat' ((first | apply ai | apply al | apply aj | apply ak mixed | (with_reducible first | refine af ?_ | refine ar (f := .c (.fn 60 [])) ?_ | refine ao ?_ | refine ab (hn) (by simp) ?_) | (with_reducible refine ⟨?_, ?_⟩; (focus ((repeat' with_reducible refine ⟨?_, ?_⟩) <;> first | exact trivial | assumption | (simp; done) | (simp only [List.length_map] at *; omega) | omega | (simp [fs]; done) | exact ay))) | (with_reducible intro x hx) | omega) <;> (try simp only [Nat.reduceBEq, reduceIte, Nat.reduceEqDiff, Nat.reduceAdd, Nat.reduceSub, Nat.reduceLT, reduceCtorEq, fw, fd]))
 refine aw [0, 1, 2, 3] (by rfl) (by simp) (by simp [fg])
theorem cy (l : List UInt8) (bad : Bool) (sz : Nat) (R : List D) (j : Nat) (x : Int) (hR : R[j]? = some (.int .i64 x)) (hx : cR x) (hl : l.length ≤ 1099511627776) :
  az Try.prog 39 [.ptr 0 0 0 1, .ptr 3 0 j 1] [Cw 1 bad, Ww 2 l.length, aU true 1 true (r8 l), Va sz R] (.tup [])
   [Cw 1 bad, Ww 2 (l ++ aX (zz x)).length, aU true 1 true (r8 (l ++ aX (zz x))), Va sz R] := by
 refine aK Try.func39 low39 (by simp [c39]) ?_
 simp only [c39]
 have hn := yg l bad sz R j x (-9223372036854775808) 9223372036854775807 hR hx hl
 have e : decide (x < -9223372036854775808 ∨ 9223372036854775807 < x) = false := by
  unfold cR at hx
  rw [decide_eq_false_iff_not]; omega
 rw [e, Bool.or_false] at hn
 repeat' ((first | apply ai | apply al | apply aj | apply ak mixed | (with_reducible first | refine af ?_ | refine ar (f := .c (.fn 79 [])) ?_ | refine ao ?_ | refine ab (hn) (by simp) ?_) | (with_reducible refine ⟨?_, ?_⟩; (focus ((repeat' with_reducible refine ⟨?_, ?_⟩) <;> first | exact trivial | assumption | (simp; done) | (simp only [List.length_map] at *; omega) | omega | (simp [fs]; done) | exact ay))) | (with_reducible intro x hx) | omega) <;> (try simp only [Nat.reduceBEq, reduceIte, Nat.reduceEqDiff, Nat.reduceAdd, Nat.reduceSub, Nat.reduceLT, reduceCtorEq, Int.reduceNeg, fw, fd]))
 refine aw [0, 1, 2, 3] (by rfl) (by simp) (by simp [fg])
theorem fH (l : List UInt8) (bad : Bool) (sz : Nat) (R : List D) (j : Nat) (x : Int) (hR : R[j]? = some (.int .u64 x)) (hx : 0 ≤ x ∧ x ≤ 18446744073709551615) (hl : l.length ≤ 1099511627776) :
  az Try.prog 34 [.ptr 0 0 0 1, .ptr 3 0 j 1, .int .u64 18446744073709551615] [Cw 1 bad, Ww 2 l.length, aU true 1 true (r8 l), Va sz R] (.tup [])
   [Cw 1 bad, Ww 2 (l ++ aX (uI x)).length, aU true 1 true (r8 (l ++ aX (uI x))), Va sz R] := by
 have hn := eg l bad sz R j 18446744073709551615 x hR hx (by omega) hl
 have e : decide (18446744073709551615 < uI x) = false := by
  have := gN x
  rw [decide_eq_false_iff_not]; omega
 rw [e, Bool.or_false] at hn
 exact hn
def oq (b : Bool) : List UInt8 := [if b then 1 else 0]
theorem mN (l : List UInt8) (bad : Bool) (sz : Nat) (R : List D) (j : Nat) (x : Bool) (hR : R[j]? = some (.bool x)) (hl : l.length ≤ 1099511627776) :
  az Try.prog 40 [.ptr 0 0 0 1, .ptr 3 0 j 1] [Cw 1 bad, Ww 2 l.length, aU true 1 true (r8 l), Va sz R] (.tup [])
   [Cw 1 bad, Ww 2 (l ++ oq x).length, aU true 1 true (r8 (l ++ oq x)), Va sz R] := by
 refine aK Try.func40 low40 (by simp [c40]) ?_
 simp only [c40]
 have hn := xS l x hl
 unfold oq
 repeat' ((first | apply ai | apply ah | apply al | apply aj | apply ae | apply ak mixed | apply ap mixed | (with_reducible first | refine af ?_ | refine aD (f := .c (.fn 81 [])) ?_ | refine ao ?_ | refine aC ?_ | refine ab (hn) (by simp) ?_) | (refine aa ?_ ?_ <;> intro hc <;> (try simp only [hc]) <;> try simp at hc) | (with_reducible refine ⟨?_, ?_⟩; (focus ((repeat' with_reducible refine ⟨?_, ?_⟩) <;> first | exact trivial | assumption | (simp; done) | (simp only [List.length_map] at *; omega) | omega | (simp [fs]; done) | exact ay))) | (with_reducible intro x hx) | omega) <;> (try simp only [Wr, hR, Nat.reduceBEq, reduceIte, Nat.reduceEqDiff, Nat.reduceAdd, Nat.reduceSub, reduceCtorEq, cond_true, fw, fd]))
 refine aw [0, 1, 2, 3] (by rfl) (by simp) (by simp [fg])
def t6 (s : ByteArray) : List UInt8 := aX s.size ++ s.data.toList
theorem wZ (l : List UInt8) (bad : Bool) (sz : Nat) (R : List D) (j : Nat) (s : ByteArray) (most : Int) (hR : R[j]? = some (.str s)) (hs : s.size ≤ 1099511627776) (hl : l.length ≤ 1099511627776) :
  az Try.prog 38 [.ptr 0 0 0 1, .ptr 3 0 j 1, .int .i64 most] [Cw 1 bad, Ww 2 l.length, aU true 1 true (r8 l), Va sz R] (.tup [])
   [Cw 1 (bad || decide (most < s.size)), Ww 2 (l ++ t6 s).length, aU true 1 true (r8 (l ++ t6 s)), Va sz R] := by
 refine aK Try.func38 low38 (by simp [c38]) ?_
 simp only [c38]
 have hn := xW l s hs hl
 have e : t6 s = aX s.size ++ s.data.toList := rfl
 rw [← e] at hn
 generalize t6 s = t at hn ⊢
 cases bad
 ·simp only [Bool.false_or]
  by_cases hc : most < (s.size : Int)
  ·have c1 : ((s.size : Int) > most) = True := by simpa using hc
   rw [decide_eq_true hc]
   repeat' ((first | apply ai | apply ah | apply al | apply aj | apply ae | apply ak mixed | apply ap mixed | (with_reducible first | refine af ?_ | refine aD (f := .c (.fn 78 [])) ?_ | refine ao ?_ | refine aC ?_ | refine ab (hn) (by simp) ?_) | ((first | refine ac ?_ ?_ | refine aa ?_ ?_) <;> intro hc <;> (try simp only [hc]) <;> try simp at hc) | (with_reducible refine ⟨?_, ?_⟩; (focus ((repeat' with_reducible refine ⟨?_, ?_⟩) <;> first | exact trivial | assumption | (simp; done) | (simp only [List.length_map] at *; omega) | omega | (simp [fs]; done) | exact ay))) | (with_reducible intro x hx) | omega) <;> (try simp only [Wr, hR, c1, Nat.reduceBEq, reduceIte, Nat.reduceEqDiff, Nat.reduceAdd, Nat.reduceSub, reduceCtorEq, cond_true, cond_false, fw, fd]))
   refine aw [0, 1, 2, 3] (by rfl) (by simp) (by simp [fg])
  ·have c1 : ((s.size : Int) > most) = False := by simpa using hc
   rw [decide_eq_false hc]
   repeat' ((first | apply ai | apply ah | apply al | apply aj | apply ae | apply ak mixed | apply ap mixed | (with_reducible first | refine af ?_ | refine aD (f := .c (.fn 78 [])) ?_ | refine ao ?_ | refine aC ?_ | refine ab (hn) (by simp) ?_) | ((first | refine ac ?_ ?_ | refine aa ?_ ?_) <;> intro hc <;> (try simp only [hc]) <;> try simp at hc) | (with_reducible refine ⟨?_, ?_⟩; (focus ((repeat' with_reducible refine ⟨?_, ?_⟩) <;> first | exact trivial | assumption | (simp; done) | (simp only [List.length_map] at *; omega) | omega | (simp [fs]; done) | exact ay))) | (with_reducible intro x hx) | omega) <;> (try simp only [Wr, hR, c1, Nat.reduceBEq, reduceIte, Nat.reduceEqDiff, Nat.reduceAdd, Nat.reduceSub, reduceCtorEq, cond_true, cond_false, fw, fd]))
   refine aw [0, 1, 2, 3] (by rfl) (by simp) (by simp [fg])
 ·simp only [Bool.true_or]
  repeat' ((first | apply ai | apply ah | apply al | apply aj | apply ae | apply ak mixed | apply ap mixed | (with_reducible first | refine af ?_ | refine aD (f := .c (.fn 78 [])) ?_ | refine ao ?_ | refine aC ?_ | refine ab (hn) (by simp) ?_) | ((first | refine ac ?_ ?_ | refine aa ?_ ?_) <;> intro hc <;> (try simp only [hc]) <;> try simp at hc) | (with_reducible refine ⟨?_, ?_⟩; (focus ((repeat' with_reducible refine ⟨?_, ?_⟩) <;> first | exact trivial | assumption | (simp; done) | (simp only [List.length_map] at *; omega) | omega | (simp [fs]; done) | exact ay))) | (with_reducible intro x hx) | omega) <;> (try simp only [Wr, hR, Nat.reduceBEq, reduceIte, Nat.reduceEqDiff, Nat.reduceAdd, Nat.reduceSub, reduceCtorEq, cond_true, fw, fd]))
  refine aw [0, 1, 2, 3] (by rfl) (by simp) (by simp [fg])
end Go.Proofs.Ytgefljdclekadaa

namespace Go.Proofs.Ytgefljdclekadaa
open Go Go.Vi
abbrev Cr (r : Nat) (bad : Bool) : Ob := ⟨true, false, false, false, 3, [[.nilp, .ptr r 0 0 1, .bool bad]], some 0⟩
def co (most : Nat) (l : List UInt8) (rb : Bool) : Nat × List UInt8 × Bool := if rb = true then (0, l, true) else dq most l 0 0
theorem dK (m : Nat) (l : List UInt8) (rb : Bool) (hm : m < 18446744073709551616) : (co m l rb).1 ≤ m ∧ (co m l rb).2.1.length ≤ l.length := by
 unfold co
 split
 ·simp
 ·have := pX m l 0 0 hm
  omega
theorem gt (l : List UInt8) (rb : Bool) (m : Nat) (x : Int) (hx : x = m) (hl : l.length ≤ 1099511627776) :
  az Try.prog 58 [.ptr 0 0 0 1, .int .u64 x] [Rd l rb] (.int .u64 (co m l rb).1) [Rd (co m l rb).2.1 (co m l rb).2.2] := by
 unfold co
 cases rb
 ·exact rV l m x hx hl
 ·exact qw l x
theorem pW (l : List UInt8) (rb : Bool) (hl : l.length ≤ 1099511627776) :
  az Try.prog 94 [.ptr 0 0 0 1] [Rd l rb] (.int .i64 (em (co 18446744073709551615 l rb).1)) [Rd (co 18446744073709551615 l rb).2.1 (co 18446744073709551615 l rb).2.2] := by
 refine aK Try.func94 low94 (by simp [c94]) ?_
 simp only [c94]
 have hv := (dK 18446744073709551615 l rb (by decide)).1
 have hc := gt l rb 18446744073709551615 18446744073709551615 rfl hl
 generalize co 18446744073709551615 l rb = r at hv hc
 obtain ⟨v, rest, bad⟩ := r
 dsimp only at hv hc ⊢
 rw [← rt (by omega)]
 repeat' ((first | apply ai | apply al | apply aj | apply ak mixed | (with_reducible first | refine af ?_ | refine aP (f := .c (.fn 58 [])) (z := []) (q := [0]) ?_ | refine aL (f := .c (.fn 58 [])) (z := []) (q := [0]) ?_ | refine ao ?_ | refine ab (hc) (by simp) ?_) | simp (disch := omega) only [bf] | (with_reducible refine ⟨?_, ?_⟩; (focus ((repeat' with_reducible refine ⟨?_, ?_⟩) <;> first | exact trivial | assumption | (simp; done) | (simp only [List.length_map] at *; omega) | omega | (simp [fs]; done) | exact ay))) | (with_reducible intro x hx) | omega) <;> (try simp only [Rd, Nat.reduceBEq, reduceIte, Nat.reduceLeDiff, Int.reduceToNat, Int.reduceLE, IntKind.bits, Int.reducePow, fw, fd]))
 refine aw [0] (by rfl) (by simp) (by simp [fg])
theorem vv (l : List UInt8) (rb : Bool) (hl : l.length ≤ 1099511627776) :
  az Try.prog 80 [.ptr 0 0 0 1] [Rd l rb] (.bool (decide ((co 1 l rb).1 = 1))) [Rd (co 1 l rb).2.1 (co 1 l rb).2.2] := by
 refine aK Try.func80 low80 (by simp [c80]) ?_
 simp only [c80]
 have hc := gt l rb 1 1 rfl hl
 generalize co 1 l rb = r at hc
 obtain ⟨v, rest, bad⟩ := r
 dsimp only at hc ⊢
 have hb : ((v : Int) == 1) = decide (v = 1) := by
  rw [Bool.eq_iff_iff]; simp; omega
 repeat' ((first | apply ai | apply al | apply aj | apply ak mixed | (with_reducible first | refine af ?_ | refine aP (f := .c (.fn 58 [])) (z := []) (q := [0]) ?_ | refine aL (f := .c (.fn 58 [])) (z := []) (q := [0]) ?_ | refine ao ?_ | refine ab (hc) (by simp) ?_) | (with_reducible refine ⟨?_, ?_⟩; (focus ((repeat' with_reducible refine ⟨?_, ?_⟩) <;> first | exact trivial | assumption | (simp; done) | (simp only [List.length_map] at *; omega) | omega | (simp [fs]; done) | exact ay))) | (with_reducible intro x hx) | omega) <;> (try simp only [Rd, hb, Nat.reduceBEq, reduceIte, fw, fd]))
 refine aw [0] (by rfl) (by simp) (by simp [fg])
def o9 (most : Nat) (l : List UInt8) (rb : Bool) : ByteArray × List UInt8 × Bool :=
 if (co most l rb).2.2 = true ∨ (co most l rb).2.1.length < (co most l rb).1 then (bs [], (co most l rb).2.1, true) else (bs ((co most l rb).2.1.take (co most l rb).1), (co most l rb).2.1.drop (co most l rb).1, false)
theorem uE (l : List UInt8) (rb : Bool) (k : Nat) (x : Int) (hx : x = k) (hk : k ≤ 1099511627776) (hl : l.length ≤ 1099511627776) :
  az Try.prog 77 [.ptr 0 0 0 1, .int .i64 x] [Rd l rb] (.str (o9 k l rb).1) [Rd (o9 k l rb).2.1 (o9 k l rb).2.2] := by
 subst hx
 refine aK Try.func77 low77 (by simp [c77]) ?_
 simp only [c77]
 have hc := gt l rb k _ rfl hl
 have hlt := dK k l rb (by omega)
 unfold o9
 generalize co k l rb = r at hc hlt ⊢
 obtain ⟨v, rest, bad⟩ := r
 dsimp only at hc hlt ⊢
 have hmx : (if (0 : Int) > (k : Int) then (0 : Int) else (k : Int)) = k := by rw [if_neg (by omega)]
 cases bad
 ·by_cases h : rest.length < v
  ·have hgt : ((v : Int) > (rest.length : Int)) = True := by simp; omega
   rw [if_pos (.inr h)]
   repeat' ((first | apply ai | apply ah | apply al | apply aj | apply ae | apply ak mixed | (with_reducible first | refine af ?_ | refine aP (f := .c (.fn 58 [])) (z := []) (q := [0]) ?_ | refine aL (f := .c (.fn 58 [])) (z := []) (q := [0]) ?_ | refine aP (f := .c (.fn 85 [])) (z := []) (q := [0]) ?_ | refine aL (f := .c (.fn 85 [])) (z := []) (q := [0]) ?_ | refine ao ?_ | refine ab (hc) (by simp) ?_) | refine av (bw _ _) ?_ ?_ | with_reducible refine ab (dM _ _) (by simp) ?_ | simp (disch := omega) only [aG] | (with_reducible refine aZ rfl rfl ?_ ?_; (focus ((try simp only [Wr, Rd, aV, im, bG, bI, bl, List.take_length, cz, mI, reduceIte, Nat.sub_zero, fw]) <;> ((repeat' (with_reducible refine And.intro ?_ ?_)) <;> first | exact trivial | assumption | (simp; done) | (simp only [List.length_map] at *; omega) | omega | (simp [fs]; done) | exact ay)))) | ((first | refine ac ?_ ?_ | refine aa ?_ ?_) <;> intro hc <;> (try simp only [hc]) <;> try simp at hc) | (with_reducible refine ⟨?_, ?_⟩; (focus ((repeat' with_reducible refine ⟨?_, ?_⟩) <;> first | exact trivial | assumption | (simp; done) | (simp only [List.length_map] at *; omega) | omega | (simp [fs]; done) | exact ay))) | (with_reducible intro x hx) | omega) <;> (try simp only [Rd, aV, cz, hmx, hgt, Nat.reduceBEq, reduceIte, cond_false, fw, fd]))
   refine aw [0] (by rfl) (by simp) (by simp [fg])
   all_goals rfl
  ·have hgt : ((v : Int) > (rest.length : Int)) = False := by simp; omega
   rw [if_neg (by simp; omega)]
   repeat' ((first | apply ai | apply ah | apply al | apply aj | apply ae | apply ak mixed | (with_reducible first | refine af ?_ | refine aP (f := .c (.fn 58 [])) (z := []) (q := [0]) ?_ | refine aL (f := .c (.fn 58 [])) (z := []) (q := [0]) ?_ | refine ao ?_ | refine ab (hc) (by simp) ?_) | refine av (bw _ _) ?_ ?_ | simp (disch := omega) only [aG] | (with_reducible refine aZ rfl rfl ?_ ?_; (focus ((try simp only [Wr, Rd, aV, im, bG, bI, bl, List.take_length, cz, mI, reduceIte, Nat.sub_zero, fw]) <;> ((repeat' (with_reducible refine And.intro ?_ ?_)) <;> first | exact trivial | assumption | (simp; done) | (simp only [List.length_map] at *; omega) | omega | (simp [fs]; done) | exact ay)))) | ((first | refine ac ?_ ?_ | refine aa ?_ ?_) <;> intro hc <;> (try simp only [hc]) <;> try simp at hc) | (with_reducible refine ⟨?_, ?_⟩; (focus ((repeat' with_reducible refine ⟨?_, ?_⟩) <;> first | exact trivial | assumption | (simp; done) | (simp only [List.length_map] at *; omega) | omega | (simp [fs]; done) | exact ay))) | (with_reducible intro x hx) | omega) <;> (try simp only [Rd, aV, bG, bI, bl, List.take_length, cz, hmx, hgt, Nat.reduceBEq, reduceIte, Nat.reduceLeDiff, cond_false, fw, fd]))
   refine aw [0] (by rfl) (by simp) (by simp [fg])
 ·rw [if_pos (.inl rfl)]
  repeat' ((first | apply ai | apply ah | apply al | apply aj | apply ae | apply ak mixed | (with_reducible first | refine af ?_ | refine aP (f := .c (.fn 58 [])) (z := []) (q := [0]) ?_ | refine aL (f := .c (.fn 58 [])) (z := []) (q := [0]) ?_ | refine aP (f := .c (.fn 85 [])) (z := []) (q := [0]) ?_ | refine aL (f := .c (.fn 85 [])) (z := []) (q := [0]) ?_ | refine ao ?_ | refine ab (hc) (by simp) ?_) | refine av (bw _ _) ?_ ?_ | with_reducible refine ab (dM _ _) (by simp) ?_ | simp (disch := omega) only [aG] | (with_reducible refine aZ rfl rfl ?_ ?_; (focus ((try simp only [Wr, Rd, aV, im, bG, bI, bl, List.take_length, cz, mI, reduceIte, Nat.sub_zero, fw]) <;> ((repeat' (with_reducible refine And.intro ?_ ?_)) <;> first | exact trivial | assumption | (simp; done) | (simp only [List.length_map] at *; omega) | omega | (simp [fs]; done) | exact ay)))) | ((first | refine ac ?_ ?_ | refine aa ?_ ?_) <;> intro hc <;> (try simp only [hc]) <;> try simp at hc) | (with_reducible refine ⟨?_, ?_⟩; (focus ((repeat' with_reducible refine ⟨?_, ?_⟩) <;> first | exact trivial | assumption | (simp; done) | (simp only [List.length_map] at *; omega) | omega | (simp [fs]; done) | exact ay))) | (with_reducible intro x hx) | omega) <;> (try simp only [Rd, cz, hmx, Nat.reduceBEq, reduceIte, cond_true, fw, fd]))
  refine aw [0] (by rfl) (by simp) (by simp [fg])
  all_goals rfl
theorem dt {R : List D} {j : Nat} (h : j < R.length) (d : D) : R.take j ++ [d] ++ R.drop (j + 1) = R.set j d := by
 rw [List.set_eq_take_append_cons_drop, if_pos h]; simp
theorem bJ (l : List UInt8) (rb cb : Bool) (sz : Nat) (R : List D) (j most : Nat) (hz : R.length = sz) (hj : j < sz) (hm : most < 9223372036854775808) (hl : l.length ≤ 1099511627776) :
  az Try.prog 32 [.ptr 0 0 0 1, .ptr 2 0 j 1, .int .u64 most] [Cr 1 cb, Rd l rb, Va sz R] (.tup [])
   [Cr 1 cb, Rd (co most l rb).2.1 (co most l rb).2.2, Va sz (R.set j (.int .i64 (co most l rb).1))] := by
 refine aK Try.func32 low32 (by simp [c32]) ?_
 simp only [c32]
 have hc := gt l rb most _ rfl hl
 have hlt := dK most l rb (by omega)
 generalize co most l rb = r at hc hlt ⊢
 obtain ⟨v, rest, bad⟩ := r
 dsimp only at hc hlt ⊢
 have hs := dt (show j < R.length by omega) (.int .i64 (v : Int))
 repeat' ((first | apply ai | apply ah | apply al | apply aj | apply ae | apply ak mixed | apply ap mixed | (with_reducible first | refine af ?_ | refine ar (f := .c (.fn 58 [])) ?_ | refine ao ?_ | refine aC ?_ | refine ab (hc) (by simp) ?_) | simp (disch := omega) only [bf] | ((first | refine ac ?_ ?_ | refine aa ?_ ?_) <;> intro hc <;> (try simp only [hc]) <;> try simp at hc) | (with_reducible refine ⟨?_, ?_⟩; (focus ((repeat' with_reducible refine ⟨?_, ?_⟩) <;> first | exact trivial | assumption | (simp; done) | (simp only [List.length_map] at *; omega) | omega | (simp [fs]; done) | exact ay))) | (with_reducible intro x hx) | omega) <;> (try simp only [Rd, hs, Nat.reduceBEq, reduceIte, Nat.reduceAdd, reduceCtorEq, cond_true, fw, fd]))
 refine aw [0, 1, 2] (by rfl) (by simp) (by simp [fg])
theorem cr (l : List UInt8) (rb cb : Bool) (sz : Nat) (R : List D) (j most : Nat) (hz : R.length = sz) (hj : j < sz) (hm : most < 18446744073709551616) (hl : l.length ≤ 1099511627776) :
  az Try.prog 34 [.ptr 0 0 0 1, .ptr 2 0 j 1, .int .u64 most] [Cr 1 cb, Rd l rb, Va sz R] (.tup [])
   [Cr 1 cb, Rd (co most l rb).2.1 (co most l rb).2.2, Va sz (R.set j (.int .u64 (co most l rb).1))] := by
 refine aK Try.func34 low34 (by simp [c34]) ?_
 simp only [c34]
 have hc := gt l rb most _ rfl hl
 have hlt := dK most l rb (by omega)
 generalize co most l rb = r at hc hlt ⊢
 obtain ⟨v, rest, bad⟩ := r
 dsimp only at hc hlt ⊢
 have hs := dt (show j < R.length by omega) (.int .u64 (v : Int))
 repeat' ((first | apply ai | apply ah | apply al | apply aj | apply ae | apply ak mixed | apply ap mixed | (with_reducible first | refine af ?_ | refine ar (f := .c (.fn 58 [])) ?_ | refine ao ?_ | refine aC ?_ | refine ab (hc) (by simp) ?_) | ((first | refine ac ?_ ?_ | refine aa ?_ ?_) <;> intro hc <;> (try simp only [hc]) <;> try simp at hc) | (with_reducible refine ⟨?_, ?_⟩; (focus ((repeat' with_reducible refine ⟨?_, ?_⟩) <;> first | exact trivial | assumption | (simp; done) | (simp only [List.length_map] at *; omega) | omega | (simp [fs]; done) | exact ay))) | (with_reducible intro x hx) | omega) <;> (try simp only [Rd, hs, Nat.reduceBEq, reduceIte, Nat.reduceAdd, reduceCtorEq, cond_true, fw, fd]))
 refine aw [0, 1, 2] (by rfl) (by simp) (by simp [fg])
theorem xi (l : List UInt8) (rb cb : Bool) (sz : Nat) (R : List D) (j most : Nat) (hz : R.length = sz) (hj : j < sz) (hm : most < 4294967296) (hl : l.length ≤ 1099511627776) :
  az Try.prog 60 [.ptr 0 0 0 1, .ptr 2 0 j 1, .int .u64 most] [Cr 1 cb, Rd l rb, Va sz R] (.tup [])
   [Cr 1 cb, Rd (co most l rb).2.1 (co most l rb).2.2, Va sz (R.set j (.int .u32 (co most l rb).1))] := by
 refine aK Try.func60 low60 (by simp [c60]) ?_
 simp only [c60]
 have hc := gt l rb most _ rfl hl
 have hlt := dK most l rb (by omega)
 generalize co most l rb = r at hc hlt ⊢
 obtain ⟨v, rest, bad⟩ := r
 dsimp only at hc hlt ⊢
 have hs := dt (show j < R.length by omega) (.int .u32 (v : Int))
 repeat' ((first | apply ai | apply ah | apply al | apply aj | apply ae | apply ak mixed | apply ap mixed | (with_reducible first | refine af ?_ | refine ar (f := .c (.fn 58 [])) ?_ | refine ao ?_ | refine aC ?_ | refine ab (hc) (by simp) ?_) | simp (disch := omega) only [aN] | ((first | refine ac ?_ ?_ | refine aa ?_ ?_) <;> intro hc <;> (try simp only [hc]) <;> try simp at hc) | (with_reducible refine ⟨?_, ?_⟩; (focus ((repeat' with_reducible refine ⟨?_, ?_⟩) <;> first | exact trivial | assumption | (simp; done) | (simp only [List.length_map] at *; omega) | omega | (simp [fs]; done) | exact ay))) | (with_reducible intro x hx) | omega) <;> (try simp only [Rd, hs, Nat.reduceBEq, reduceIte, Nat.reduceAdd, reduceCtorEq, cond_true, fw, fd]))
 refine aw [0, 1, 2] (by rfl) (by simp) (by simp [fg])
theorem mJ (l : List UInt8) (rb cb : Bool) (sz : Nat) (R : List D) (j : Nat) (lo hi : Int) (hz : R.length = sz) (hj : j < sz) (hl : l.length ≤ 1099511627776) :
  az Try.prog 86 [.ptr 0 0 0 1, .ptr 2 0 j 1, .int .i64 lo, .int .i64 hi] [Cr 1 cb, Rd l rb, Va sz R] (.tup [])
   [Cr 1 (cb || decide (em (co 18446744073709551615 l rb).1 < lo ∨ hi < em (co 18446744073709551615 l rb).1)), Rd (co 18446744073709551615 l rb).2.1 (co 18446744073709551615 l rb).2.2, Va sz (R.set j (.int .i64 (em (co 18446744073709551615 l rb).1)))] := by
 refine aK Try.func86 low86 (by simp [c86]) ?_
 simp only [c86]
 have hc := pW l rb hl
 have hlt := dK 18446744073709551615 l rb (by omega)
 have hv : cR (em (co 18446744073709551615 l rb).1) := by unfold cR em; split <;> omega
 generalize co 18446744073709551615 l rb = r at hc hlt hv ⊢
 obtain ⟨v, rest, bad⟩ := r
 dsimp only at hc hlt hv ⊢
 generalize em v = x at hc hv ⊢
 unfold cR at hv
 have hs := dt (show j < R.length by omega) (.int .i64 x)
 cases cb
 ·simp only [Bool.false_or]
  by_cases h1 : x < lo
  ·have c1 : (x < lo) = True := by simpa using h1
   rw [decide_eq_true (.inl h1)]
   repeat' ((first | apply ai | apply ah | apply al | apply aj | apply ae | apply ak mixed | apply ap mixed | (with_reducible first | refine af ?_ | refine ar (f := .c (.fn 94 [])) ?_ | refine ao ?_ | refine aC ?_ | refine ab (hc) (by simp) ?_) | ((first | refine ac ?_ ?_ | refine aa ?_ ?_) <;> intro hc <;> (try simp only [hc]) <;> try simp at hc) | (with_reducible refine ⟨?_, ?_⟩; (focus ((repeat' with_reducible refine ⟨?_, ?_⟩) <;> first | exact trivial | assumption | (simp; done) | (simp only [List.length_map] at *; omega) | omega | (simp [fs]; done) | exact ay))) | (with_reducible intro x hx) | omega) <;> (try simp only [Rd, hs, c1, Nat.reduceBEq, reduceIte, Nat.reduceAdd, reduceCtorEq, cond_true, cond_false, fw, fd]))
   refine aw [0, 1, 2] (by rfl) (by simp) (by simp [fg])
  ·have c1 : (x < lo) = False := by simpa using h1
   by_cases h2 : hi < x
   ·have c2 : (x > hi) = True := by simpa using h2
    rw [decide_eq_true (.inr h2)]
    repeat' ((first | apply ai | apply ah | apply al | apply aj | apply ae | apply ak mixed | apply ap mixed | (with_reducible first | refine af ?_ | refine ar (f := .c (.fn 94 [])) ?_ | refine ao ?_ | refine aC ?_ | refine ab (hc) (by simp) ?_) | ((first | refine ac ?_ ?_ | refine aa ?_ ?_) <;> intro hc <;> (try simp only [hc]) <;> try simp at hc) | (with_reducible refine ⟨?_, ?_⟩; (focus ((repeat' with_reducible refine ⟨?_, ?_⟩) <;> first | exact trivial | assumption | (simp; done) | (simp only [List.length_map] at *; omega) | omega | (simp [fs]; done) | exact ay))) | (with_reducible intro x hx) | omega) <;> (try simp only [Rd, hs, c1, c2, Nat.reduceBEq, reduceIte, Nat.reduceAdd, reduceCtorEq, cond_true, cond_false, fw, fd]))
    refine aw [0, 1, 2] (by rfl) (by simp) (by simp [fg])
   ·have c2 : (x > hi) = False := by simpa using h2
    rw [decide_eq_false (fun h => h.elim h1 h2)]
    repeat' ((first | apply ai | apply ah | apply al | apply aj | apply ae | apply ak mixed | apply ap mixed | (with_reducible first | refine af ?_ | refine ar (f := .c (.fn 94 [])) ?_ | refine ao ?_ | refine aC ?_ | refine ab (hc) (by simp) ?_) | ((first | refine ac ?_ ?_ | refine aa ?_ ?_) <;> intro hc <;> (try simp only [hc]) <;> try simp at hc) | (with_reducible refine ⟨?_, ?_⟩; (focus ((repeat' with_reducible refine ⟨?_, ?_⟩) <;> first | exact trivial | assumption | (simp; done) | (simp only [List.length_map] at *; omega) | omega | (simp [fs]; done) | exact ay))) | (with_reducible intro x hx) | omega) <;> (try simp only [Rd, hs, c1, c2, Nat.reduceBEq, reduceIte, Nat.reduceAdd, reduceCtorEq, cond_true, cond_false, fw, fd]))
    refine aw [0, 1, 2] (by rfl) (by simp) (by simp [fg])
 ·simp only [Bool.true_or]
  repeat' ((first | apply ai | apply ah | apply al | apply aj | apply ae | apply ak mixed | apply ap mixed | (with_reducible first | refine af ?_ | refine ar (f := .c (.fn 94 [])) ?_ | refine ao ?_ | refine aC ?_ | refine ab (hc) (by simp) ?_) | ((first | refine ac ?_ ?_ | refine aa ?_ ?_) <;> intro hc <;> (try simp only [hc]) <;> try simp at hc) | (with_reducible refine ⟨?_, ?_⟩; (focus ((repeat' with_reducible refine ⟨?_, ?_⟩) <;> first | exact trivial | assumption | (simp; done) | (simp only [List.length_map] at *; omega) | omega | (simp [fs]; done) | exact ay))) | (with_reducible intro x hx) | omega) <;> (try simp only [Rd, hs, Nat.reduceBEq, reduceIte, Nat.reduceAdd, reduceCtorEq, cond_true, fw, fd]))
  refine aw [0, 1, 2] (by rfl) (by simp) (by simp [fg])
theorem yc (l : List UInt8) (rb cb : Bool) (sz : Nat) (R : List D) (j : Nat) (lo hi : Int) (hz : R.length = sz) (hj : j < sz) (hl : l.length ≤ 1099511627776) :
  az Try.prog 79 [.ptr 0 0 0 1, .ptr 2 0 j 1, .int .i64 lo, .int .i64 hi] [Cr 1 cb, Rd l rb, Va sz R] (.tup [])
   [Cr 1 (cb || decide (em (co 18446744073709551615 l rb).1 < lo ∨ hi < em (co 18446744073709551615 l rb).1)), Rd (co 18446744073709551615 l rb).2.1 (co 18446744073709551615 l rb).2.2, Va sz (R.set j (.int .i64 (em (co 18446744073709551615 l rb).1)))] := by
 refine aK Try.func79 low79 (by simp [c79]) ?_
 simp only [c79]
 have hc := pW l rb hl
 have hlt := dK 18446744073709551615 l rb (by omega)
 have hv : cR (em (co 18446744073709551615 l rb).1) := by unfold cR em; split <;> omega
 generalize co 18446744073709551615 l rb = r at hc hlt hv ⊢
 obtain ⟨v, rest, bad⟩ := r
 dsimp only at hc hlt hv ⊢
 generalize em v = x at hc hv ⊢
 unfold cR at hv
 have hs := dt (show j < R.length by omega) (.int .i64 x)
 cases cb
 ·simp only [Bool.false_or]
  by_cases h1 : x < lo
  ·have c1 : (x < lo) = True := by simpa using h1
   rw [decide_eq_true (.inl h1)]
   repeat' ((first | apply ai | apply ah | apply al | apply aj | apply ae | apply ak mixed | apply ap mixed | (with_reducible first | refine af ?_ | refine ar (f := .c (.fn 94 [])) ?_ | refine ao ?_ | refine aC ?_ | refine ab (hc) (by simp) ?_) | ((first | refine ac ?_ ?_ | refine aa ?_ ?_) <;> intro hc <;> (try simp only [hc]) <;> try simp at hc) | (with_reducible refine ⟨?_, ?_⟩; (focus ((repeat' with_reducible refine ⟨?_, ?_⟩) <;> first | exact trivial | assumption | (simp; done) | (simp only [List.length_map] at *; omega) | omega | (simp [fs]; done) | exact ay))) | (with_reducible intro x hx) | omega) <;> (try simp only [Rd, hs, c1, Nat.reduceBEq, reduceIte, Nat.reduceAdd, reduceCtorEq, cond_true, cond_false, fw, fd]))
   refine aw [0, 1, 2] (by rfl) (by simp) (by simp [fg])
  ·have c1 : (x < lo) = False := by simpa using h1
   by_cases h2 : hi < x
   ·have c2 : (x > hi) = True := by simpa using h2
    rw [decide_eq_true (.inr h2)]
    repeat' ((first | apply ai | apply ah | apply al | apply aj | apply ae | apply ak mixed | apply ap mixed | (with_reducible first | refine af ?_ | refine ar (f := .c (.fn 94 [])) ?_ | refine ao ?_ | refine aC ?_ | refine ab (hc) (by simp) ?_) | ((first | refine ac ?_ ?_ | refine aa ?_ ?_) <;> intro hc <;> (try simp only [hc]) <;> try simp at hc) | (with_reducible refine ⟨?_, ?_⟩; (focus ((repeat' with_reducible refine ⟨?_, ?_⟩) <;> first | exact trivial | assumption | (simp; done) | (simp only [List.length_map] at *; omega) | omega | (simp [fs]; done) | exact ay))) | (with_reducible intro x hx) | omega) <;> (try simp only [Rd, hs, c1, c2, Nat.reduceBEq, reduceIte, Nat.reduceAdd, reduceCtorEq, cond_true, cond_false, fw, fd]))
    refine aw [0, 1, 2] (by rfl) (by simp) (by simp [fg])
   ·have c2 : (x > hi) = False := by simpa using h2
    rw [decide_eq_false (fun h => h.elim h1 h2)]
    repeat' ((first | apply ai | apply ah | apply al | apply aj | apply ae | apply ak mixed | apply ap mixed | (with_reducible first | refine af ?_ | refine ar (f := .c (.fn 94 [])) ?_ | refine ao ?_ | refine aC ?_ | refine ab (hc) (by simp) ?_) | ((first | refine ac ?_ ?_ | refine aa ?_ ?_) <;> intro hc <;> (try simp only [hc]) <;> try simp at hc) | (with_reducible refine ⟨?_, ?_⟩; (focus ((repeat' with_reducible refine ⟨?_, ?_⟩) <;> first | exact trivial | assumption | (simp; done) | (simp only [List.length_map] at *; omega) | omega | (simp [fs]; done) | exact ay))) | (with_reducible intro x hx) | omega) <;> (try simp only [Rd, hs, c1, c2, Nat.reduceBEq, reduceIte, Nat.reduceAdd, reduceCtorEq, cond_true, cond_false, fw, fd]))
    refine aw [0, 1, 2] (by rfl) (by simp) (by simp [fg])
 ·simp only [Bool.true_or]
  repeat' ((first | apply ai | apply ah | apply al | apply aj | apply ae | apply ak mixed | apply ap mixed | (with_reducible first | refine af ?_ | refine ar (f := .c (.fn 94 [])) ?_ | refine ao ?_ | refine aC ?_ | refine ab (hc) (by simp) ?_) | ((first | refine ac ?_ ?_ | refine aa ?_ ?_) <;> intro hc <;> (try simp only [hc]) <;> try simp at hc) | (with_reducible refine ⟨?_, ?_⟩; (focus ((repeat' with_reducible refine ⟨?_, ?_⟩) <;> first | exact trivial | assumption | (simp; done) | (simp only [List.length_map] at *; omega) | omega | (simp [fs]; done) | exact ay))) | (with_reducible intro x hx) | omega) <;> (try simp only [Rd, hs, Nat.reduceBEq, reduceIte, Nat.reduceAdd, reduceCtorEq, cond_true, fw, fd]))
  refine aw [0, 1, 2] (by rfl) (by simp) (by simp [fg])
theorem cf (l : List UInt8) (rb cb : Bool) (sz : Nat) (R : List D) (j : Nat) (hz : R.length = sz) (hj : j < sz) (hl : l.length ≤ 1099511627776) :
  az Try.prog 33 [.ptr 0 0 0 1, .ptr 2 0 j 1] [Cr 1 cb, Rd l rb, Va sz R] (.tup [])
   [Cr 1 cb, Rd (co 4294967295 l rb).2.1 (co 4294967295 l rb).2.2, Va sz (R.set j (.int .u32 (co 4294967295 l rb).1))] := by
 refine aK Try.func33 low33 (by simp [c33]) ?_
 simp only [c33]
 have hn := xi l rb cb sz R j 4294967295 hz hj (by omega) hl
 generalize co 4294967295 l rb = r at hn ⊢
 repeat' ((first | apply ai | apply al | apply aj | apply ak mixed | (with_reducible first | refine af ?_ | refine ar (f := .c (.fn 60 [])) ?_ | refine ao ?_ | refine ab (hn) (by simp) ?_) | (with_reducible refine ⟨?_, ?_⟩; (focus ((repeat' with_reducible refine ⟨?_, ?_⟩) <;> first | exact trivial | assumption | (simp; done) | (simp only [List.length_map] at *; omega) | omega | (simp [fs]; done) | exact ay))) | (with_reducible intro x hx) | omega) <;> (try simp only [Rd, Nat.reduceBEq, reduceIte, Nat.reduceEqDiff, Nat.reduceAdd, Nat.reduceSub, Nat.reduceLT, reduceCtorEq, fw, fd]))
 refine aw [0, 1, 2] (by rfl) (by simp) (by simp [fg])
theorem cF (l : List UInt8) (rb cb : Bool) (sz : Nat) (R : List D) (j : Nat) (hz : R.length = sz) (hj : j < sz) (hl : l.length ≤ 1099511627776) :
  az Try.prog 39 [.ptr 0 0 0 1, .ptr 2 0 j 1] [Cr 1 cb, Rd l rb, Va sz R] (.tup [])
   [Cr 1 cb, Rd (co 18446744073709551615 l rb).2.1 (co 18446744073709551615 l rb).2.2, Va sz (R.set j (.int .i64 (em (co 18446744073709551615 l rb).1)))] := by
 refine aK Try.func39 low39 (by simp [c39]) ?_
 simp only [c39]
 have hn := yc l rb cb sz R j (-9223372036854775808) 9223372036854775807 hz hj hl
 have hlt := dK 18446744073709551615 l rb (by omega)
 have e : decide (em (co 18446744073709551615 l rb).1 < -9223372036854775808 ∨ 9223372036854775807 < em (co 18446744073709551615 l rb).1) = false := by
  rw [decide_eq_false_iff_not]; unfold em; split <;> omega
 rw [e, Bool.or_false] at hn
 generalize co 18446744073709551615 l rb = r at hn ⊢
 repeat' ((first | apply ai | apply al | apply aj | apply ak mixed | (with_reducible first | refine af ?_ | refine ar (f := .c (.fn 79 [])) ?_ | refine ao ?_ | refine ab (hn) (by simp) ?_) | (with_reducible refine ⟨?_, ?_⟩; (focus ((repeat' with_reducible refine ⟨?_, ?_⟩) <;> first | exact trivial | assumption | (simp; done) | (simp only [List.length_map] at *; omega) | omega | (simp [fs]; done) | exact ay))) | (with_reducible intro x hx) | omega) <;> (try simp only [Rd, Nat.reduceBEq, reduceIte, Nat.reduceEqDiff, Nat.reduceAdd, Nat.reduceSub, Nat.reduceLT, reduceCtorEq, Int.reduceNeg, fw, fd]))
 refine aw [0, 1, 2] (by rfl) (by simp) (by simp [fg])
theorem oV (l : List UInt8) (rb cb : Bool) (sz : Nat) (R : List D) (j : Nat) (hz : R.length = sz) (hj : j < sz) (hl : l.length ≤ 1099511627776) :
  az Try.prog 40 [.ptr 0 0 0 1, .ptr 2 0 j 1] [Cr 1 cb, Rd l rb, Va sz R] (.tup [])
   [Cr 1 cb, Rd (co 1 l rb).2.1 (co 1 l rb).2.2, Va sz (R.set j (.bool (decide ((co 1 l rb).1 = 1))))] := by
 refine aK Try.func40 low40 (by simp [c40]) ?_
 simp only [c40]
 have hn := vv l rb hl
 generalize co 1 l rb = r at hn ⊢
 generalize decide (r.1 = 1) = b at hn ⊢
 have hs := dt (show j < R.length by omega) (.bool b)
 repeat' ((first | apply ai | apply ah | apply al | apply aj | apply ae | apply ak mixed | apply ap mixed | (with_reducible first | refine af ?_ | refine ar (f := .c (.fn 80 [])) ?_ | refine ao ?_ | refine aC ?_ | refine ab (hn) (by simp) ?_) | (refine aa ?_ ?_ <;> intro hc <;> (try simp only [hc]) <;> try simp at hc) | (with_reducible refine ⟨?_, ?_⟩; (focus ((repeat' with_reducible refine ⟨?_, ?_⟩) <;> first | exact trivial | assumption | (simp; done) | (simp only [List.length_map] at *; omega) | omega | (simp [fs]; done) | exact ay))) | (with_reducible intro x hx) | omega) <;> (try simp only [Rd, hs, Nat.reduceBEq, reduceIte, Nat.reduceAdd, reduceCtorEq, cond_true, fw, fd]))
 refine aw [0, 1, 2] (by rfl) (by simp) (by simp [fg])
theorem xX (l : List UInt8) (rb cb : Bool) (sz : Nat) (R : List D) (j k : Nat) (hz : R.length = sz) (hj : j < sz) (hk : k ≤ 1099511627776) (hl : l.length ≤ 1099511627776) :
  az Try.prog 38 [.ptr 0 0 0 1, .ptr 2 0 j 1, .int .i64 k] [Cr 1 cb, Rd l rb, Va sz R] (.tup [])
   [Cr 1 cb, Rd (o9 k l rb).2.1 (o9 k l rb).2.2, Va sz (R.set j (.str (o9 k l rb).1))] := by
 refine aK Try.func38 low38 (by simp [c38]) ?_
 simp only [c38]
 have hn := uE l rb k _ rfl hk hl
 generalize o9 k l rb = r at hn ⊢
 have hs := dt (show j < R.length by omega) (.str r.1)
 repeat' ((first | apply ai | apply ah | apply al | apply aj | apply ae | apply ak mixed | apply ap mixed | (with_reducible first | refine af ?_ | refine ar (f := .c (.fn 77 [])) ?_ | refine ao ?_ | refine aC ?_ | refine ab (hn) (by simp) ?_) | ((first | refine ac ?_ ?_ | refine aa ?_ ?_) <;> intro hc <;> (try simp only [hc]) <;> try simp at hc) | (with_reducible refine ⟨?_, ?_⟩; (focus ((repeat' with_reducible refine ⟨?_, ?_⟩) <;> first | exact trivial | assumption | (simp; done) | (simp only [List.length_map] at *; omega) | omega | (simp [fs]; done) | exact ay))) | (with_reducible intro x hx) | omega) <;> (try simp only [Rd, hs, Nat.reduceBEq, reduceIte, Nat.reduceAdd, reduceCtorEq, cond_true, fw, fd]))
 refine aw [0, 1, 2] (by rfl) (by simp) (by simp [fg])
end Go.Proofs.Ytgefljdclekadaa
