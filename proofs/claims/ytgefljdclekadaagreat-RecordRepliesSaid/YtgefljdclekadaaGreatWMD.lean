import Derived.Test.YtgefljdclekadaaGreatWMC
import Derived.Test.YtgefljdclekadaaGreatVi25
set_option linter.unusedVariables false
set_option linter.unusedSimpArgs false
set_option linter.unnecessarySimpa false
namespace Go.Proofs.YtgefljdclekadaaGreat
open Go Go.Vi

/-- A coder that writes: itself, its writer, the bytes; a variable. -/
abbrev Cw (w : Nat) (bad : Bool) : Ob := ⟨true, false, false, false, 3, [[.ptr w 0 0 1, .nilp, .bool bad]], some 0⟩
abbrev Ww (b k : Nat) : Ob := ⟨true, false, false, false, 1, [[.own b 0 k k 1 none]], some 0⟩
abbrev Va (sz : Nat) (R : List D) : Ob := ⟨true, false, true, false, sz, [R], some 0⟩
def uI (x : Int) : Nat := (x % 18446744073709551616).toNat
theorem uI_lt (x : Int) : uI x < 18446744073709551616 := by unfold uI; omega
theorem uI_wrap (x : Int) : IntKind.u64.wrap x = ((uI x : Nat) : Int) := by
 rw [wu64m]; unfold uI; omega
theorem uI_id {x : Int} (h1 : 0 ≤ x) (h2 : x ≤ 18446744073709551615) : ((uI x : Nat) : Int) = x := by unfold uI; omega
abbrev Fit (x : Int) : Prop := -9223372036854775808 ≤ x ∧ x ≤ 9223372036854775807



theorem numI_w (l : List UInt8) (bad : Bool) (sz : Nat) (R : List D) (j most : Nat) (x : Int) (hR : R[j]? = some (.int .i64 x)) (hx : Fit x) (hm : most < 18446744073709551616) (hl : l.length ≤ 1099511627776) :
  CallG Tryz.prog 57 [.ptr 0 0 0 1, .ptr 3 0 j 1, .int .u64 most] [Cw 1 bad, Ww 2 l.length, acc true 1 true (r8 l), Va sz R] (.tup [])
   [Cw 1 (bad || decide (most < uI x)), Ww 2 (l ++ num (uI x)).length, acc true 1 true (r8 (l ++ num (uI x))), Va sz R] := by
 refine callG Tryz.func57 low57 (by simp [c57]) ?_
 simp only [c57]
 have hu := uI_wrap x
 have hn := number_p l (uI x) (uI x) rfl (uI_lt x) hl
 have h10 := num_10 (uI_lt x)
 unfold Fit at hx
 cases bad
 ·simp only [Bool.false_or]
  by_cases hc : most < uI x
  ·have c1 : (((uI x : Nat) : Int) > ((most : Nat) : Int)) = True := by simp; omega
   rw [decide_eq_true hc]
   repeat' ((first | apply Run_seq | apply Run_skip | apply Run_ret | apply Run_nil | apply Run_condK | apply Run_ops mixed | apply Run_opsX mixed | (with_reducible first | refine PostG_open ?_ | refine ro_callA (f := .c (.fn 97 [])) ?_ | refine ro_callV ?_ | refine ro_callVX ?_ | refine CallE_use (hn) (by simp) ?_) | simp (disch := omega) only [w64, wu64, wu32, wu16, wu8, Int.tdiv_eq_ediv_of_nonneg, Int.tmod_eq_emod_of_nonneg] | ((first | refine GuardK_split ?_ ?_ | refine CondK_split ?_ ?_) <;> intro hc <;> (try simp only [hc]) <;> try simp at hc) | (with_reducible refine ⟨?_, ?_⟩; (focus ((repeat' with_reducible refine ⟨?_, ?_⟩) <;> first | exact trivial | assumption | (simp; done) | (simp only [List.length_map] at *; omega) | omega | (simp [fs]; done) | exact r8_sz))) | (with_reducible intro x hx) | omega) <;> (try simp only [Wr, hR, hu, c1, Nat.reduceBEq, reduceIte, Nat.reduceEqDiff, Nat.reduceAdd, Nat.reduceSub, reduceCtorEq, cond_true, cond_false, fw, fd]))
   refine GcTo_own [0, 1, 2, 3] (by rfl) (by simp) (by simp [fg])
  ·have c1 : (((uI x : Nat) : Int) > ((most : Nat) : Int)) = False := by simp; omega
   rw [decide_eq_false hc]
   repeat' ((first | apply Run_seq | apply Run_skip | apply Run_ret | apply Run_nil | apply Run_condK | apply Run_ops mixed | apply Run_opsX mixed | (with_reducible first | refine PostG_open ?_ | refine ro_callA (f := .c (.fn 97 [])) ?_ | refine ro_callV ?_ | refine ro_callVX ?_ | refine CallE_use (hn) (by simp) ?_) | simp (disch := omega) only [w64, wu64, wu32, wu16, wu8, Int.tdiv_eq_ediv_of_nonneg, Int.tmod_eq_emod_of_nonneg] | ((first | refine GuardK_split ?_ ?_ | refine CondK_split ?_ ?_) <;> intro hc <;> (try simp only [hc]) <;> try simp at hc) | (with_reducible refine ⟨?_, ?_⟩; (focus ((repeat' with_reducible refine ⟨?_, ?_⟩) <;> first | exact trivial | assumption | (simp; done) | (simp only [List.length_map] at *; omega) | omega | (simp [fs]; done) | exact r8_sz))) | (with_reducible intro x hx) | omega) <;> (try simp only [Wr, hR, hu, c1, Nat.reduceBEq, reduceIte, Nat.reduceEqDiff, Nat.reduceAdd, Nat.reduceSub, reduceCtorEq, cond_true, cond_false, fw, fd]))
   refine GcTo_own [0, 1, 2, 3] (by rfl) (by simp) (by simp [fg])
 ·simp only [Bool.true_or]
  repeat' ((first | apply Run_seq | apply Run_skip | apply Run_ret | apply Run_nil | apply Run_condK | apply Run_ops mixed | apply Run_opsX mixed | (with_reducible first | refine PostG_open ?_ | refine ro_callA (f := .c (.fn 97 [])) ?_ | refine ro_callV ?_ | refine ro_callVX ?_ | refine CallE_use (hn) (by simp) ?_) | simp (disch := omega) only [w64, wu64, wu32, wu16, wu8, Int.tdiv_eq_ediv_of_nonneg, Int.tmod_eq_emod_of_nonneg] | ((first | refine GuardK_split ?_ ?_ | refine CondK_split ?_ ?_) <;> intro hc <;> (try simp only [hc]) <;> try simp at hc) | (with_reducible refine ⟨?_, ?_⟩; (focus ((repeat' with_reducible refine ⟨?_, ?_⟩) <;> first | exact trivial | assumption | (simp; done) | (simp only [List.length_map] at *; omega) | omega | (simp [fs]; done) | exact r8_sz))) | (with_reducible intro x hx) | omega) <;> (try simp only [Wr, hR, hu, Nat.reduceBEq, reduceIte, Nat.reduceEqDiff, Nat.reduceAdd, Nat.reduceSub, reduceCtorEq, cond_true, fw, fd]))
  refine GcTo_own [0, 1, 2, 3] (by rfl) (by simp) (by simp [fg])
theorem numQ_w (l : List UInt8) (bad : Bool) (sz : Nat) (R : List D) (j most : Nat) (x : Int) (hR : R[j]? = some (.int .u64 x)) (hx : 0 ≤ x ∧ x ≤ 18446744073709551615) (hm : most < 18446744073709551616) (hl : l.length ≤ 1099511627776) :
  CallG Tryz.prog 53 [.ptr 0 0 0 1, .ptr 3 0 j 1, .int .u64 most] [Cw 1 bad, Ww 2 l.length, acc true 1 true (r8 l), Va sz R] (.tup [])
   [Cw 1 (bad || decide (most < uI x)), Ww 2 (l ++ num (uI x)).length, acc true 1 true (r8 (l ++ num (uI x))), Va sz R] := by
 refine callG Tryz.func53 low53 (by simp [c53]) ?_
 simp only [c53]
 have hu := uI_id hx.1 hx.2
 have hn := number_p l (uI x) x hu.symm (uI_lt x) hl
 have h10 := num_10 (uI_lt x)
 cases bad
 ·simp only [Bool.false_or]
  by_cases hc : most < uI x
  ·have c1 : (x > ((most : Nat) : Int)) = True := by simp; omega
   rw [decide_eq_true hc]
   repeat' ((first | apply Run_seq | apply Run_skip | apply Run_ret | apply Run_nil | apply Run_condK | apply Run_ops mixed | apply Run_opsX mixed | (with_reducible first | refine PostG_open ?_ | refine ro_callA (f := .c (.fn 97 [])) ?_ | refine ro_callV ?_ | refine ro_callVX ?_ | refine CallE_use (hn) (by simp) ?_) | ((first | refine GuardK_split ?_ ?_ | refine CondK_split ?_ ?_) <;> intro hc <;> (try simp only [hc]) <;> try simp at hc) | (with_reducible refine ⟨?_, ?_⟩; (focus ((repeat' with_reducible refine ⟨?_, ?_⟩) <;> first | exact trivial | assumption | (simp; done) | (simp only [List.length_map] at *; omega) | omega | (simp [fs]; done) | exact r8_sz))) | (with_reducible intro x hx) | omega) <;> (try simp only [Wr, hR, c1, Nat.reduceBEq, reduceIte, Nat.reduceEqDiff, Nat.reduceAdd, Nat.reduceSub, reduceCtorEq, cond_true, cond_false, fw, fd]))
   refine GcTo_own [0, 1, 2, 3] (by rfl) (by simp) (by simp [fg])
  ·have c1 : (x > ((most : Nat) : Int)) = False := by simp; omega
   rw [decide_eq_false hc]
   repeat' ((first | apply Run_seq | apply Run_skip | apply Run_ret | apply Run_nil | apply Run_condK | apply Run_ops mixed | apply Run_opsX mixed | (with_reducible first | refine PostG_open ?_ | refine ro_callA (f := .c (.fn 97 [])) ?_ | refine ro_callV ?_ | refine ro_callVX ?_ | refine CallE_use (hn) (by simp) ?_) | ((first | refine GuardK_split ?_ ?_ | refine CondK_split ?_ ?_) <;> intro hc <;> (try simp only [hc]) <;> try simp at hc) | (with_reducible refine ⟨?_, ?_⟩; (focus ((repeat' with_reducible refine ⟨?_, ?_⟩) <;> first | exact trivial | assumption | (simp; done) | (simp only [List.length_map] at *; omega) | omega | (simp [fs]; done) | exact r8_sz))) | (with_reducible intro x hx) | omega) <;> (try simp only [Wr, hR, c1, Nat.reduceBEq, reduceIte, Nat.reduceEqDiff, Nat.reduceAdd, Nat.reduceSub, reduceCtorEq, cond_true, cond_false, fw, fd]))
   refine GcTo_own [0, 1, 2, 3] (by rfl) (by simp) (by simp [fg])
 ·simp only [Bool.true_or]
  repeat' ((first | apply Run_seq | apply Run_skip | apply Run_ret | apply Run_nil | apply Run_condK | apply Run_ops mixed | apply Run_opsX mixed | (with_reducible first | refine PostG_open ?_ | refine ro_callA (f := .c (.fn 97 [])) ?_ | refine ro_callV ?_ | refine ro_callVX ?_ | refine CallE_use (hn) (by simp) ?_) | ((first | refine GuardK_split ?_ ?_ | refine CondK_split ?_ ?_) <;> intro hc <;> (try simp only [hc]) <;> try simp at hc) | (with_reducible refine ⟨?_, ?_⟩; (focus ((repeat' with_reducible refine ⟨?_, ?_⟩) <;> first | exact trivial | assumption | (simp; done) | (simp only [List.length_map] at *; omega) | omega | (simp [fs]; done) | exact r8_sz))) | (with_reducible intro x hx) | omega) <;> (try simp only [Wr, hR, Nat.reduceBEq, reduceIte, Nat.reduceEqDiff, Nat.reduceAdd, Nat.reduceSub, reduceCtorEq, cond_true, fw, fd]))
  refine GcTo_own [0, 1, 2, 3] (by rfl) (by simp) (by simp [fg])
theorem numD_w (l : List UInt8) (bad : Bool) (sz : Nat) (R : List D) (j most : Nat) (x : Int) (hR : R[j]? = some (.int .u32 x)) (hx : 0 ≤ x ∧ x ≤ 4294967295) (hm : most < 18446744073709551616) (hl : l.length ≤ 1099511627776) :
  CallG Tryz.prog 111 [.ptr 0 0 0 1, .ptr 3 0 j 1, .int .u64 most] [Cw 1 bad, Ww 2 l.length, acc true 1 true (r8 l), Va sz R] (.tup [])
   [Cw 1 (bad || decide (most < uI x)), Ww 2 (l ++ num (uI x)).length, acc true 1 true (r8 (l ++ num (uI x))), Va sz R] := by
 refine callG Tryz.func111 low111 (by simp [c111]) ?_
 simp only [c111]
 have hu := uI_id hx.1 (by omega)
 have hn := number_p l (uI x) x hu.symm (uI_lt x) hl
 have h10 := num_10 (uI_lt x)
 cases bad
 ·simp only [Bool.false_or]
  by_cases hc : most < uI x
  ·have c1 : (x > ((most : Nat) : Int)) = True := by simp; omega
   rw [decide_eq_true hc]
   repeat' ((first | apply Run_seq | apply Run_skip | apply Run_ret | apply Run_nil | apply Run_condK | apply Run_ops mixed | apply Run_opsX mixed | (with_reducible first | refine PostG_open ?_ | refine ro_callA (f := .c (.fn 97 [])) ?_ | refine ro_callV ?_ | refine ro_callVX ?_ | refine CallE_use (hn) (by simp) ?_) | simp (disch := omega) only [wu64] | ((first | refine GuardK_split ?_ ?_ | refine CondK_split ?_ ?_) <;> intro hc <;> (try simp only [hc]) <;> try simp at hc) | (with_reducible refine ⟨?_, ?_⟩; (focus ((repeat' with_reducible refine ⟨?_, ?_⟩) <;> first | exact trivial | assumption | (simp; done) | (simp only [List.length_map] at *; omega) | omega | (simp [fs]; done) | exact r8_sz))) | (with_reducible intro x hx) | omega) <;> (try simp only [Wr, hR, c1, Nat.reduceBEq, reduceIte, Nat.reduceEqDiff, Nat.reduceAdd, Nat.reduceSub, reduceCtorEq, cond_true, cond_false, fw, fd]))
   refine GcTo_own [0, 1, 2, 3] (by rfl) (by simp) (by simp [fg])
  ·have c1 : (x > ((most : Nat) : Int)) = False := by simp; omega
   rw [decide_eq_false hc]
   repeat' ((first | apply Run_seq | apply Run_skip | apply Run_ret | apply Run_nil | apply Run_condK | apply Run_ops mixed | apply Run_opsX mixed | (with_reducible first | refine PostG_open ?_ | refine ro_callA (f := .c (.fn 97 [])) ?_ | refine ro_callV ?_ | refine ro_callVX ?_ | refine CallE_use (hn) (by simp) ?_) | simp (disch := omega) only [wu64] | ((first | refine GuardK_split ?_ ?_ | refine CondK_split ?_ ?_) <;> intro hc <;> (try simp only [hc]) <;> try simp at hc) | (with_reducible refine ⟨?_, ?_⟩; (focus ((repeat' with_reducible refine ⟨?_, ?_⟩) <;> first | exact trivial | assumption | (simp; done) | (simp only [List.length_map] at *; omega) | omega | (simp [fs]; done) | exact r8_sz))) | (with_reducible intro x hx) | omega) <;> (try simp only [Wr, hR, c1, Nat.reduceBEq, reduceIte, Nat.reduceEqDiff, Nat.reduceAdd, Nat.reduceSub, reduceCtorEq, cond_true, cond_false, fw, fd]))
   refine GcTo_own [0, 1, 2, 3] (by rfl) (by simp) (by simp [fg])
 ·simp only [Bool.true_or]
  repeat' ((first | apply Run_seq | apply Run_skip | apply Run_ret | apply Run_nil | apply Run_condK | apply Run_ops mixed | apply Run_opsX mixed | (with_reducible first | refine PostG_open ?_ | refine ro_callA (f := .c (.fn 97 [])) ?_ | refine ro_callV ?_ | refine ro_callVX ?_ | refine CallE_use (hn) (by simp) ?_) | simp (disch := omega) only [wu64] | ((first | refine GuardK_split ?_ ?_ | refine CondK_split ?_ ?_) <;> intro hc <;> (try simp only [hc]) <;> try simp at hc) | (with_reducible refine ⟨?_, ?_⟩; (focus ((repeat' with_reducible refine ⟨?_, ?_⟩) <;> first | exact trivial | assumption | (simp; done) | (simp only [List.length_map] at *; omega) | omega | (simp [fs]; done) | exact r8_sz))) | (with_reducible intro x hx) | omega) <;> (try simp only [Wr, hR, Nat.reduceBEq, reduceIte, Nat.reduceEqDiff, Nat.reduceAdd, Nat.reduceSub, reduceCtorEq, cond_true, fw, fd]))
  refine GcTo_own [0, 1, 2, 3] (by rfl) (by simp) (by simp [fg])
theorem sigL_w (l : List UInt8) (bad : Bool) (sz : Nat) (R : List D) (j : Nat) (x lo hi : Int) (hR : R[j]? = some (.int .i64 x)) (hx : Fit x) (hl : l.length ≤ 1099511627776) :
  CallG Tryz.prog 99 [.ptr 0 0 0 1, .ptr 3 0 j 1, .int .i64 lo, .int .i64 hi] [Cw 1 bad, Ww 2 l.length, acc true 1 true (r8 l), Va sz R] (.tup [])
   [Cw 1 (bad || decide (x < lo ∨ hi < x)), Ww 2 (l ++ num (zz x)).length, acc true 1 true (r8 (l ++ num (zz x))), Va sz R] := by
 refine callG Tryz.func99 low99 (by simp [c99]) ?_
 simp only [c99]
 unfold Fit at hx
 have hn := signed_p l x hx.1 hx.2 hl
 have h10 := num_10 (zz_lt hx.1 hx.2)
 cases bad
 ·simp only [Bool.false_or]
  by_cases h1 : x < lo
  ·have c1 : (x < lo) = True := by simpa using h1
   rw [decide_eq_true (.inl h1)]
   repeat' ((first | apply Run_seq | apply Run_skip | apply Run_ret | apply Run_nil | apply Run_condK | apply Run_ops mixed | apply Run_opsX mixed | (with_reducible first | refine PostG_open ?_ | refine ro_callA (f := .c (.fn 135 [])) ?_ | refine ro_callV ?_ | refine ro_callVX ?_ | refine CallE_use (hn) (by simp) ?_) | ((first | refine GuardK_split ?_ ?_ | refine CondK_split ?_ ?_) <;> intro hc <;> (try simp only [hc]) <;> try simp at hc) | (with_reducible refine ⟨?_, ?_⟩; (focus ((repeat' with_reducible refine ⟨?_, ?_⟩) <;> first | exact trivial | assumption | (simp; done) | (simp only [List.length_map] at *; omega) | omega | (simp [fs]; done) | exact r8_sz))) | (with_reducible intro x hx) | omega) <;> (try simp only [Wr, hR, c1, Nat.reduceBEq, reduceIte, Nat.reduceEqDiff, Nat.reduceAdd, Nat.reduceSub, reduceCtorEq, cond_true, cond_false, fw, fd]))
   refine GcTo_own [0, 1, 2, 3] (by rfl) (by simp) (by simp [fg])
  ·have c1 : (x < lo) = False := by simpa using h1
   by_cases h2 : hi < x
   ·have c2 : (x > hi) = True := by simpa using h2
    rw [decide_eq_true (.inr h2)]
    repeat' ((first | apply Run_seq | apply Run_skip | apply Run_ret | apply Run_nil | apply Run_condK | apply Run_ops mixed | apply Run_opsX mixed | (with_reducible first | refine PostG_open ?_ | refine ro_callA (f := .c (.fn 135 [])) ?_ | refine ro_callV ?_ | refine ro_callVX ?_ | refine CallE_use (hn) (by simp) ?_) | ((first | refine GuardK_split ?_ ?_ | refine CondK_split ?_ ?_) <;> intro hc <;> (try simp only [hc]) <;> try simp at hc) | (with_reducible refine ⟨?_, ?_⟩; (focus ((repeat' with_reducible refine ⟨?_, ?_⟩) <;> first | exact trivial | assumption | (simp; done) | (simp only [List.length_map] at *; omega) | omega | (simp [fs]; done) | exact r8_sz))) | (with_reducible intro x hx) | omega) <;> (try simp only [Wr, hR, c1, c2, Nat.reduceBEq, reduceIte, Nat.reduceEqDiff, Nat.reduceAdd, Nat.reduceSub, reduceCtorEq, cond_true, cond_false, fw, fd]))
    refine GcTo_own [0, 1, 2, 3] (by rfl) (by simp) (by simp [fg])
   ·have c2 : (x > hi) = False := by simpa using h2
    rw [decide_eq_false (fun h => h.elim h1 h2)]
    repeat' ((first | apply Run_seq | apply Run_skip | apply Run_ret | apply Run_nil | apply Run_condK | apply Run_ops mixed | apply Run_opsX mixed | (with_reducible first | refine PostG_open ?_ | refine ro_callA (f := .c (.fn 135 [])) ?_ | refine ro_callV ?_ | refine ro_callVX ?_ | refine CallE_use (hn) (by simp) ?_) | ((first | refine GuardK_split ?_ ?_ | refine CondK_split ?_ ?_) <;> intro hc <;> (try simp only [hc]) <;> try simp at hc) | (with_reducible refine ⟨?_, ?_⟩; (focus ((repeat' with_reducible refine ⟨?_, ?_⟩) <;> first | exact trivial | assumption | (simp; done) | (simp only [List.length_map] at *; omega) | omega | (simp [fs]; done) | exact r8_sz))) | (with_reducible intro x hx) | omega) <;> (try simp only [Wr, hR, c1, c2, Nat.reduceBEq, reduceIte, Nat.reduceEqDiff, Nat.reduceAdd, Nat.reduceSub, reduceCtorEq, cond_true, cond_false, fw, fd]))
    refine GcTo_own [0, 1, 2, 3] (by rfl) (by simp) (by simp [fg])
 ·simp only [Bool.true_or]
  repeat' ((first | apply Run_seq | apply Run_skip | apply Run_ret | apply Run_nil | apply Run_condK | apply Run_ops mixed | apply Run_opsX mixed | (with_reducible first | refine PostG_open ?_ | refine ro_callA (f := .c (.fn 135 [])) ?_ | refine ro_callV ?_ | refine ro_callVX ?_ | refine CallE_use (hn) (by simp) ?_) | ((first | refine GuardK_split ?_ ?_ | refine CondK_split ?_ ?_) <;> intro hc <;> (try simp only [hc]) <;> try simp at hc) | (with_reducible refine ⟨?_, ?_⟩; (focus ((repeat' with_reducible refine ⟨?_, ?_⟩) <;> first | exact trivial | assumption | (simp; done) | (simp only [List.length_map] at *; omega) | omega | (simp [fs]; done) | exact r8_sz))) | (with_reducible intro x hx) | omega) <;> (try simp only [Wr, hR, Nat.reduceBEq, reduceIte, Nat.reduceEqDiff, Nat.reduceAdd, Nat.reduceSub, reduceCtorEq, cond_true, fw, fd]))
  refine GcTo_own [0, 1, 2, 3] (by rfl) (by simp) (by simp [fg])
theorem name_w (l : List UInt8) (bad : Bool) (sz : Nat) (R : List D) (j : Nat) (x : Int) (hR : R[j]? = some (.int .u32 x)) (hx : 0 ≤ x ∧ x ≤ 4294967295) (hl : l.length ≤ 1099511627776) :
  CallG Tryz.prog 78 [.ptr 0 0 0 1, .ptr 3 0 j 1] [Cw 1 bad, Ww 2 l.length, acc true 1 true (r8 l), Va sz R] (.tup [])
   [Cw 1 bad, Ww 2 (l ++ num (uI x)).length, acc true 1 true (r8 (l ++ num (uI x))), Va sz R] := by
 refine callG Tryz.func78 low78 (by simp [c78]) ?_
 simp only [c78]
 have hn := numD_w l bad sz R j 4294967295 x hR hx (by omega) hl
 have e : decide (4294967295 < uI x) = false := by
  have := uI_id hx.1 (show x ≤ 18446744073709551615 by omega)
  rw [decide_eq_false_iff_not]; omega
 rw [e, Bool.or_false] at hn
 repeat' ((first | apply Run_seq | apply Run_ret | apply Run_nil | apply Run_ops mixed | (with_reducible first | refine PostG_open ?_ | refine ro_callA' (f := .c (.fn 111 [])) ?_ | refine ro_callV ?_ | refine CallE_use (hn) (by simp) ?_) | (with_reducible refine ⟨?_, ?_⟩; (focus ((repeat' with_reducible refine ⟨?_, ?_⟩) <;> first | exact trivial | assumption | (simp; done) | (simp only [List.length_map] at *; omega) | omega | (simp [fs]; done) | exact r8_sz))) | (with_reducible intro x hx) | omega) <;> (try simp only [Nat.reduceBEq, reduceIte, Nat.reduceEqDiff, Nat.reduceAdd, Nat.reduceSub, Nat.reduceLT, reduceCtorEq, fw, fd]))
 refine GcTo_own [0, 1, 2, 3] (by rfl) (by simp) (by simp [fg])
theorem minutes_w (l : List UInt8) (bad : Bool) (sz : Nat) (R : List D) (j : Nat) (x : Int) (hR : R[j]? = some (.int .i64 x)) (hx : Fit x) (hl : l.length ≤ 1099511627776) :
  CallG Tryz.prog 56 [.ptr 0 0 0 1, .ptr 3 0 j 1] [Cw 1 bad, Ww 2 l.length, acc true 1 true (r8 l), Va sz R] (.tup [])
   [Cw 1 bad, Ww 2 (l ++ num (zz x)).length, acc true 1 true (r8 (l ++ num (zz x))), Va sz R] := by
 refine callG Tryz.func56 low56 (by simp [c56]) ?_
 simp only [c56]
 have hn := sigL_w l bad sz R j x (-9223372036854775808) 9223372036854775807 hR hx hl
 have e : decide (x < -9223372036854775808 ∨ 9223372036854775807 < x) = false := by
  unfold Fit at hx
  rw [decide_eq_false_iff_not]; omega
 rw [e, Bool.or_false] at hn
 repeat' ((first | apply Run_seq | apply Run_ret | apply Run_nil | apply Run_ops mixed | (with_reducible first | refine PostG_open ?_ | refine ro_callA' (f := .c (.fn 99 [])) ?_ | refine ro_callV ?_ | refine CallE_use (hn) (by simp) ?_) | (with_reducible refine ⟨?_, ?_⟩; (focus ((repeat' with_reducible refine ⟨?_, ?_⟩) <;> first | exact trivial | assumption | (simp; done) | (simp only [List.length_map] at *; omega) | omega | (simp [fs]; done) | exact r8_sz))) | (with_reducible intro x hx) | omega) <;> (try simp only [Nat.reduceBEq, reduceIte, Nat.reduceEqDiff, Nat.reduceAdd, Nat.reduceSub, Nat.reduceLT, reduceCtorEq, Int.reduceNeg, fw, fd]))
 refine GcTo_own [0, 1, 2, 3] (by rfl) (by simp) (by simp [fg])
theorem big_w (l : List UInt8) (bad : Bool) (sz : Nat) (R : List D) (j : Nat) (x : Int) (hR : R[j]? = some (.int .u64 x)) (hx : 0 ≤ x ∧ x ≤ 18446744073709551615) (hl : l.length ≤ 1099511627776) :
  CallG Tryz.prog 53 [.ptr 0 0 0 1, .ptr 3 0 j 1, .int .u64 18446744073709551615] [Cw 1 bad, Ww 2 l.length, acc true 1 true (r8 l), Va sz R] (.tup [])
   [Cw 1 bad, Ww 2 (l ++ num (uI x)).length, acc true 1 true (r8 (l ++ num (uI x))), Va sz R] := by
 have hn := numQ_w l bad sz R j 18446744073709551615 x hR hx (by omega) hl
 have e : decide (18446744073709551615 < uI x) = false := by
  have := uI_lt x
  rw [decide_eq_false_iff_not]; omega
 rw [e, Bool.or_false] at hn
 exact hn
def fl8 (b : Bool) : List UInt8 := [if b then 1 else 0]
theorem flag_w (l : List UInt8) (bad : Bool) (sz : Nat) (R : List D) (j : Nat) (x : Bool) (hR : R[j]? = some (.bool x)) (hl : l.length ≤ 1099511627776) :
  CallG Tryz.prog 59 [.ptr 0 0 0 1, .ptr 3 0 j 1] [Cw 1 bad, Ww 2 l.length, acc true 1 true (r8 l), Va sz R] (.tup [])
   [Cw 1 bad, Ww 2 (l ++ fl8 x).length, acc true 1 true (r8 (l ++ fl8 x)), Va sz R] := by
 refine callG Tryz.func59 low59 (by simp [c59]) ?_
 simp only [c59]
 have hn := flag_p l x hl
 unfold fl8
 repeat' ((first | apply Run_seq | apply Run_skip | apply Run_ret | apply Run_nil | apply Run_condK | apply Run_ops mixed | apply Run_opsX mixed | (with_reducible first | refine PostG_open ?_ | refine ro_callA (f := .c (.fn 103 [])) ?_ | refine ro_callV ?_ | refine ro_callVX ?_ | refine CallE_use (hn) (by simp) ?_) | (refine CondK_split ?_ ?_ <;> intro hc <;> (try simp only [hc]) <;> try simp at hc) | (with_reducible refine ⟨?_, ?_⟩; (focus ((repeat' with_reducible refine ⟨?_, ?_⟩) <;> first | exact trivial | assumption | (simp; done) | (simp only [List.length_map] at *; omega) | omega | (simp [fs]; done) | exact r8_sz))) | (with_reducible intro x hx) | omega) <;> (try simp only [Wr, hR, Nat.reduceBEq, reduceIte, Nat.reduceEqDiff, Nat.reduceAdd, Nat.reduceSub, reduceCtorEq, cond_true, fw, fd]))
 refine GcTo_own [0, 1, 2, 3] (by rfl) (by simp) (by simp [fg])
def tx8 (s : ByteArray) : List UInt8 := num s.size ++ s.data.toList
theorem text_w (l : List UInt8) (bad : Bool) (sz : Nat) (R : List D) (j : Nat) (s : ByteArray) (most : Int) (hR : R[j]? = some (.str s)) (hs : s.size ≤ 1099511627776) (hl : l.length ≤ 1099511627776) :
  CallG Tryz.prog 58 [.ptr 0 0 0 1, .ptr 3 0 j 1, .int .i64 most] [Cw 1 bad, Ww 2 l.length, acc true 1 true (r8 l), Va sz R] (.tup [])
   [Cw 1 (bad || decide (most < s.size)), Ww 2 (l ++ tx8 s).length, acc true 1 true (r8 (l ++ tx8 s)), Va sz R] := by
 refine callG Tryz.func58 low58 (by simp [c58]) ?_
 simp only [c58]
 have hn := text_p l s hs hl
 have e : tx8 s = num s.size ++ s.data.toList := rfl
 rw [← e] at hn
 generalize tx8 s = t at hn ⊢
 cases bad
 ·simp only [Bool.false_or]
  by_cases hc : most < (s.size : Int)
  ·have c1 : ((s.size : Int) > most) = True := by simpa using hc
   rw [decide_eq_true hc]
   repeat' ((first | apply Run_seq | apply Run_skip | apply Run_ret | apply Run_nil | apply Run_condK | apply Run_ops mixed | apply Run_opsX mixed | (with_reducible first | refine PostG_open ?_ | refine ro_callA (f := .c (.fn 101 [])) ?_ | refine ro_callV ?_ | refine ro_callVX ?_ | refine CallE_use (hn) (by simp) ?_) | ((first | refine GuardK_split ?_ ?_ | refine CondK_split ?_ ?_) <;> intro hc <;> (try simp only [hc]) <;> try simp at hc) | (with_reducible refine ⟨?_, ?_⟩; (focus ((repeat' with_reducible refine ⟨?_, ?_⟩) <;> first | exact trivial | assumption | (simp; done) | (simp only [List.length_map] at *; omega) | omega | (simp [fs]; done) | exact r8_sz))) | (with_reducible intro x hx) | omega) <;> (try simp only [Wr, hR, c1, Nat.reduceBEq, reduceIte, Nat.reduceEqDiff, Nat.reduceAdd, Nat.reduceSub, reduceCtorEq, cond_true, cond_false, fw, fd]))
   refine GcTo_own [0, 1, 2, 3] (by rfl) (by simp) (by simp [fg])
  ·have c1 : ((s.size : Int) > most) = False := by simpa using hc
   rw [decide_eq_false hc]
   repeat' ((first | apply Run_seq | apply Run_skip | apply Run_ret | apply Run_nil | apply Run_condK | apply Run_ops mixed | apply Run_opsX mixed | (with_reducible first | refine PostG_open ?_ | refine ro_callA (f := .c (.fn 101 [])) ?_ | refine ro_callV ?_ | refine ro_callVX ?_ | refine CallE_use (hn) (by simp) ?_) | ((first | refine GuardK_split ?_ ?_ | refine CondK_split ?_ ?_) <;> intro hc <;> (try simp only [hc]) <;> try simp at hc) | (with_reducible refine ⟨?_, ?_⟩; (focus ((repeat' with_reducible refine ⟨?_, ?_⟩) <;> first | exact trivial | assumption | (simp; done) | (simp only [List.length_map] at *; omega) | omega | (simp [fs]; done) | exact r8_sz))) | (with_reducible intro x hx) | omega) <;> (try simp only [Wr, hR, c1, Nat.reduceBEq, reduceIte, Nat.reduceEqDiff, Nat.reduceAdd, Nat.reduceSub, reduceCtorEq, cond_true, cond_false, fw, fd]))
   refine GcTo_own [0, 1, 2, 3] (by rfl) (by simp) (by simp [fg])
 ·simp only [Bool.true_or]
  repeat' ((first | apply Run_seq | apply Run_skip | apply Run_ret | apply Run_nil | apply Run_condK | apply Run_ops mixed | apply Run_opsX mixed | (with_reducible first | refine PostG_open ?_ | refine ro_callA (f := .c (.fn 101 [])) ?_ | refine ro_callV ?_ | refine ro_callVX ?_ | refine CallE_use (hn) (by simp) ?_) | ((first | refine GuardK_split ?_ ?_ | refine CondK_split ?_ ?_) <;> intro hc <;> (try simp only [hc]) <;> try simp at hc) | (with_reducible refine ⟨?_, ?_⟩; (focus ((repeat' with_reducible refine ⟨?_, ?_⟩) <;> first | exact trivial | assumption | (simp; done) | (simp only [List.length_map] at *; omega) | omega | (simp [fs]; done) | exact r8_sz))) | (with_reducible intro x hx) | omega) <;> (try simp only [Wr, hR, Nat.reduceBEq, reduceIte, Nat.reduceEqDiff, Nat.reduceAdd, Nat.reduceSub, reduceCtorEq, cond_true, fw, fd]))
  refine GcTo_own [0, 1, 2, 3] (by rfl) (by simp) (by simp [fg])
end Go.Proofs.YtgefljdclekadaaGreat

namespace Go.Proofs.YtgefljdclekadaaGreat
open Go Go.Vi



/-- A coder that reads. -/
abbrev Cr (r : Nat) (bad : Bool) : Ob := ⟨true, false, false, false, 3, [[.nilp, .ptr r 0 0 1, .bool bad]], some 0⟩
/-- What a reader answers: of bytes, and whether it is bad. -/
def rdN (most : Nat) (l : List UInt8) (rb : Bool) : Nat × List UInt8 × Bool := if rb = true then (0, l, true) else rdGo most l 0 0
theorem rdN_lt (m : Nat) (l : List UInt8) (rb : Bool) (hm : m < 18446744073709551616) : (rdN m l rb).1 ≤ m ∧ (rdN m l rb).2.1.length ≤ l.length := by
 unfold rdN
 split
 ·simp
 ·have := rdGo_lt m l 0 0 hm
  omega
theorem readN_p (l : List UInt8) (rb : Bool) (m : Nat) (x : Int) (hx : x = m) (hl : l.length ≤ 1099511627776) :
  CallG Tryz.prog 96 [.ptr 0 0 0 1, .int .u64 x] [Rd l rb] (.int .u64 (rdN m l rb).1) [Rd (rdN m l rb).2.1 (rdN m l rb).2.2] := by
 unfold rdN
 cases rb
 ·exact readGo_p l m x hx hl
 ·exact readBad_p l x
theorem readS_p (l : List UInt8) (rb : Bool) (hl : l.length ≤ 1099511627776) :
  CallG Tryz.prog 134 [.ptr 0 0 0 1] [Rd l rb] (.int .i64 (unzz (rdN 18446744073709551615 l rb).1)) [Rd (rdN 18446744073709551615 l rb).2.1 (rdN 18446744073709551615 l rb).2.2] := by
 refine callG Tryz.func134 low134 (by simp [c134]) ?_
 simp only [c134]
 have hv := (rdN_lt 18446744073709551615 l rb (by decide)).1
 have hc := readN_p l rb 18446744073709551615 18446744073709551615 rfl hl
 generalize rdN 18446744073709551615 l rb = r at hv hc
 obtain ⟨v, rest, bad⟩ := r
 dsimp only at hv hc ⊢
 rw [← unzz_spec (by omega)]
 repeat' ((first | apply Run_seq | apply Run_ret | apply Run_nil | apply Run_ops mixed | (with_reducible first | refine PostG_open ?_ | refine ro_callE (f := .c (.fn 96 [])) (z := []) (q := [0]) ?_ | refine ro_callE' (f := .c (.fn 96 [])) (z := []) (q := [0]) ?_ | refine ro_callV ?_ | refine CallE_use (hc) (by simp) ?_) | simp (disch := omega) only [w64] | (with_reducible refine ⟨?_, ?_⟩; (focus ((repeat' with_reducible refine ⟨?_, ?_⟩) <;> first | exact trivial | assumption | (simp; done) | (simp only [List.length_map] at *; omega) | omega | (simp [fs]; done) | exact r8_sz))) | (with_reducible intro x hx) | omega) <;> (try simp only [Rd, Nat.reduceBEq, reduceIte, Nat.reduceLeDiff, Int.reduceToNat, Int.reduceLE, IntKind.bits, Int.reducePow, fw, fd]))
 refine GcTo_own [0] (by rfl) (by simp) (by simp [fg])
theorem readF_p (l : List UInt8) (rb : Bool) (hl : l.length ≤ 1099511627776) :
  CallG Tryz.prog 102 [.ptr 0 0 0 1] [Rd l rb] (.bool (decide ((rdN 1 l rb).1 = 1))) [Rd (rdN 1 l rb).2.1 (rdN 1 l rb).2.2] := by
 refine callG Tryz.func102 low102 (by simp [c102]) ?_
 simp only [c102]
 have hc := readN_p l rb 1 1 rfl hl
 generalize rdN 1 l rb = r at hc
 obtain ⟨v, rest, bad⟩ := r
 dsimp only at hc ⊢
 have hb : ((v : Int) == 1) = decide (v = 1) := by
  rw [Bool.eq_iff_iff]; simp; omega
 repeat' ((first | apply Run_seq | apply Run_ret | apply Run_nil | apply Run_ops mixed | (with_reducible first | refine PostG_open ?_ | refine ro_callE (f := .c (.fn 96 [])) (z := []) (q := [0]) ?_ | refine ro_callE' (f := .c (.fn 96 [])) (z := []) (q := [0]) ?_ | refine ro_callV ?_ | refine CallE_use (hc) (by simp) ?_) | (with_reducible refine ⟨?_, ?_⟩; (focus ((repeat' with_reducible refine ⟨?_, ?_⟩) <;> first | exact trivial | assumption | (simp; done) | (simp only [List.length_map] at *; omega) | omega | (simp [fs]; done) | exact r8_sz))) | (with_reducible intro x hx) | omega) <;> (try simp only [Rd, hb, Nat.reduceBEq, reduceIte, fw, fd]))
 refine GcTo_own [0] (by rfl) (by simp) (by simp [fg])
/-- What a text is read as. -/
def rdT (most : Nat) (l : List UInt8) (rb : Bool) : ByteArray × List UInt8 × Bool :=
 if (rdN most l rb).2.2 = true ∨ (rdN most l rb).2.1.length < (rdN most l rb).1 then (bs [], (rdN most l rb).2.1, true) else (bs ((rdN most l rb).2.1.take (rdN most l rb).1), (rdN most l rb).2.1.drop (rdN most l rb).1, false)
theorem readT_p (l : List UInt8) (rb : Bool) (k : Nat) (x : Int) (hx : x = k) (hk : k ≤ 1099511627776) (hl : l.length ≤ 1099511627776) :
  CallG Tryz.prog 100 [.ptr 0 0 0 1, .int .i64 x] [Rd l rb] (.str (rdT k l rb).1) [Rd (rdT k l rb).2.1 (rdT k l rb).2.2] := by
 subst hx
 refine callG Tryz.func100 low100 (by simp [c100]) ?_
 simp only [c100]
 have hc := readN_p l rb k _ rfl hl
 have hlt := rdN_lt k l rb (by omega)
 unfold rdT
 generalize rdN k l rb = r at hc hlt ⊢
 obtain ⟨v, rest, bad⟩ := r
 dsimp only at hc hlt ⊢
 have hmx : (if (0 : Int) > (k : Int) then (0 : Int) else (k : Int)) = k := by rw [if_neg (by omega)]
 cases bad
 ·by_cases h : rest.length < v
  ·have hgt : ((v : Int) > (rest.length : Int)) = True := by simp; omega
   rw [if_pos (.inr h)]
   repeat' ((first | apply Run_seq | apply Run_skip | apply Run_ret | apply Run_nil | apply Run_condK | apply Run_ops mixed | (with_reducible first | refine PostG_open ?_ | refine ro_callE (f := .c (.fn 96 [])) (z := []) (q := [0]) ?_ | refine ro_callE' (f := .c (.fn 96 [])) (z := []) (q := [0]) ?_ | refine ro_callE (f := .c (.fn 133 [])) (z := []) (q := [0]) ?_ | refine ro_callE' (f := .c (.fn 133 [])) (z := []) (q := [0]) ?_ | refine ro_callV ?_ | refine CallE_use (hc) (by simp) ?_) | refine CallV_pure (bad_p _ _) ?_ ?_ | with_reducible refine CallE_use (fail_p _ _) (by simp) ?_ | simp (disch := omega) only [wu64] | (with_reducible refine SliceK_own rfl rfl ?_ ?_; (focus ((try simp only [Wr, Rd, r8_len, r8_nil0, r8_take, r8_drop, bytes_r8, List.take_length, bs_mk, bs_size, reduceIte, Nat.sub_zero, fw]) <;> ((repeat' (with_reducible refine And.intro ?_ ?_)) <;> first | exact trivial | assumption | (simp; done) | (simp only [List.length_map] at *; omega) | omega | (simp [fs]; done) | exact r8_sz)))) | ((first | refine GuardK_split ?_ ?_ | refine CondK_split ?_ ?_) <;> intro hc <;> (try simp only [hc]) <;> try simp at hc) | (with_reducible refine ⟨?_, ?_⟩; (focus ((repeat' with_reducible refine ⟨?_, ?_⟩) <;> first | exact trivial | assumption | (simp; done) | (simp only [List.length_map] at *; omega) | omega | (simp [fs]; done) | exact r8_sz))) | (with_reducible intro x hx) | omega) <;> (try simp only [Rd, r8_len, bs_mk, hmx, hgt, Nat.reduceBEq, reduceIte, cond_false, fw, fd]))
   refine GcTo_own [0] (by rfl) (by simp) (by simp [fg])
   all_goals rfl
  ·have hgt : ((v : Int) > (rest.length : Int)) = False := by simp; omega
   rw [if_neg (by simp; omega)]
   repeat' ((first | apply Run_seq | apply Run_skip | apply Run_ret | apply Run_nil | apply Run_condK | apply Run_ops mixed | (with_reducible first | refine PostG_open ?_ | refine ro_callE (f := .c (.fn 96 [])) (z := []) (q := [0]) ?_ | refine ro_callE' (f := .c (.fn 96 [])) (z := []) (q := [0]) ?_ | refine ro_callV ?_ | refine CallE_use (hc) (by simp) ?_) | refine CallV_pure (bad_p _ _) ?_ ?_ | simp (disch := omega) only [wu64] | (with_reducible refine SliceK_own rfl rfl ?_ ?_; (focus ((try simp only [Wr, Rd, r8_len, r8_nil0, r8_take, r8_drop, bytes_r8, List.take_length, bs_mk, bs_size, reduceIte, Nat.sub_zero, fw]) <;> ((repeat' (with_reducible refine And.intro ?_ ?_)) <;> first | exact trivial | assumption | (simp; done) | (simp only [List.length_map] at *; omega) | omega | (simp [fs]; done) | exact r8_sz)))) | ((first | refine GuardK_split ?_ ?_ | refine CondK_split ?_ ?_) <;> intro hc <;> (try simp only [hc]) <;> try simp at hc) | (with_reducible refine ⟨?_, ?_⟩; (focus ((repeat' with_reducible refine ⟨?_, ?_⟩) <;> first | exact trivial | assumption | (simp; done) | (simp only [List.length_map] at *; omega) | omega | (simp [fs]; done) | exact r8_sz))) | (with_reducible intro x hx) | omega) <;> (try simp only [Rd, r8_len, r8_take, r8_drop, bytes_r8, List.take_length, bs_mk, hmx, hgt, Nat.reduceBEq, reduceIte, Nat.reduceLeDiff, cond_false, fw, fd]))
   refine GcTo_own [0] (by rfl) (by simp) (by simp [fg])
 ·rw [if_pos (.inl rfl)]
  repeat' ((first | apply Run_seq | apply Run_skip | apply Run_ret | apply Run_nil | apply Run_condK | apply Run_ops mixed | (with_reducible first | refine PostG_open ?_ | refine ro_callE (f := .c (.fn 96 [])) (z := []) (q := [0]) ?_ | refine ro_callE' (f := .c (.fn 96 [])) (z := []) (q := [0]) ?_ | refine ro_callE (f := .c (.fn 133 [])) (z := []) (q := [0]) ?_ | refine ro_callE' (f := .c (.fn 133 [])) (z := []) (q := [0]) ?_ | refine ro_callV ?_ | refine CallE_use (hc) (by simp) ?_) | refine CallV_pure (bad_p _ _) ?_ ?_ | with_reducible refine CallE_use (fail_p _ _) (by simp) ?_ | simp (disch := omega) only [wu64] | (with_reducible refine SliceK_own rfl rfl ?_ ?_; (focus ((try simp only [Wr, Rd, r8_len, r8_nil0, r8_take, r8_drop, bytes_r8, List.take_length, bs_mk, bs_size, reduceIte, Nat.sub_zero, fw]) <;> ((repeat' (with_reducible refine And.intro ?_ ?_)) <;> first | exact trivial | assumption | (simp; done) | (simp only [List.length_map] at *; omega) | omega | (simp [fs]; done) | exact r8_sz)))) | ((first | refine GuardK_split ?_ ?_ | refine CondK_split ?_ ?_) <;> intro hc <;> (try simp only [hc]) <;> try simp at hc) | (with_reducible refine ⟨?_, ?_⟩; (focus ((repeat' with_reducible refine ⟨?_, ?_⟩) <;> first | exact trivial | assumption | (simp; done) | (simp only [List.length_map] at *; omega) | omega | (simp [fs]; done) | exact r8_sz))) | (with_reducible intro x hx) | omega) <;> (try simp only [Rd, bs_mk, hmx, Nat.reduceBEq, reduceIte, cond_true, fw, fd]))
  refine GcTo_own [0] (by rfl) (by simp) (by simp [fg])
  all_goals rfl
theorem spl1 {R : List D} {j : Nat} (h : j < R.length) (d : D) : R.take j ++ [d] ++ R.drop (j + 1) = R.set j d := by
 rw [List.set_eq_take_append_cons_drop, if_pos h]; simp
theorem numI_r (l : List UInt8) (rb cb : Bool) (sz : Nat) (R : List D) (j most : Nat) (hz : R.length = sz) (hj : j < sz) (hm : most < 9223372036854775808) (hl : l.length ≤ 1099511627776) :
  CallG Tryz.prog 57 [.ptr 0 0 0 1, .ptr 2 0 j 1, .int .u64 most] [Cr 1 cb, Rd l rb, Va sz R] (.tup [])
   [Cr 1 cb, Rd (rdN most l rb).2.1 (rdN most l rb).2.2, Va sz (R.set j (.int .i64 (rdN most l rb).1))] := by
 refine callG Tryz.func57 low57 (by simp [c57]) ?_
 simp only [c57]
 have hc := readN_p l rb most _ rfl hl
 have hlt := rdN_lt most l rb (by omega)
 generalize rdN most l rb = r at hc hlt ⊢
 obtain ⟨v, rest, bad⟩ := r
 dsimp only at hc hlt ⊢
 have hs := spl1 (show j < R.length by omega) (.int .i64 (v : Int))
 repeat' ((first | apply Run_seq | apply Run_skip | apply Run_ret | apply Run_nil | apply Run_condK | apply Run_ops mixed | apply Run_opsX mixed | (with_reducible first | refine PostG_open ?_ | refine ro_callA' (f := .c (.fn 96 [])) ?_ | refine ro_callV ?_ | refine ro_callVX ?_ | refine CallE_use (hc) (by simp) ?_) | simp (disch := omega) only [w64] | ((first | refine GuardK_split ?_ ?_ | refine CondK_split ?_ ?_) <;> intro hc <;> (try simp only [hc]) <;> try simp at hc) | (with_reducible refine ⟨?_, ?_⟩; (focus ((repeat' with_reducible refine ⟨?_, ?_⟩) <;> first | exact trivial | assumption | (simp; done) | (simp only [List.length_map] at *; omega) | omega | (simp [fs]; done) | exact r8_sz))) | (with_reducible intro x hx) | omega) <;> (try simp only [Rd, hs, Nat.reduceBEq, reduceIte, Nat.reduceAdd, reduceCtorEq, cond_true, fw, fd]))
 refine GcTo_own [0, 1, 2] (by rfl) (by simp) (by simp [fg])
theorem numQ_r (l : List UInt8) (rb cb : Bool) (sz : Nat) (R : List D) (j most : Nat) (hz : R.length = sz) (hj : j < sz) (hm : most < 18446744073709551616) (hl : l.length ≤ 1099511627776) :
  CallG Tryz.prog 53 [.ptr 0 0 0 1, .ptr 2 0 j 1, .int .u64 most] [Cr 1 cb, Rd l rb, Va sz R] (.tup [])
   [Cr 1 cb, Rd (rdN most l rb).2.1 (rdN most l rb).2.2, Va sz (R.set j (.int .u64 (rdN most l rb).1))] := by
 refine callG Tryz.func53 low53 (by simp [c53]) ?_
 simp only [c53]
 have hc := readN_p l rb most _ rfl hl
 have hlt := rdN_lt most l rb (by omega)
 generalize rdN most l rb = r at hc hlt ⊢
 obtain ⟨v, rest, bad⟩ := r
 dsimp only at hc hlt ⊢
 have hs := spl1 (show j < R.length by omega) (.int .u64 (v : Int))
 repeat' ((first | apply Run_seq | apply Run_skip | apply Run_ret | apply Run_nil | apply Run_condK | apply Run_ops mixed | apply Run_opsX mixed | (with_reducible first | refine PostG_open ?_ | refine ro_callA' (f := .c (.fn 96 [])) ?_ | refine ro_callV ?_ | refine ro_callVX ?_ | refine CallE_use (hc) (by simp) ?_) | ((first | refine GuardK_split ?_ ?_ | refine CondK_split ?_ ?_) <;> intro hc <;> (try simp only [hc]) <;> try simp at hc) | (with_reducible refine ⟨?_, ?_⟩; (focus ((repeat' with_reducible refine ⟨?_, ?_⟩) <;> first | exact trivial | assumption | (simp; done) | (simp only [List.length_map] at *; omega) | omega | (simp [fs]; done) | exact r8_sz))) | (with_reducible intro x hx) | omega) <;> (try simp only [Rd, hs, Nat.reduceBEq, reduceIte, Nat.reduceAdd, reduceCtorEq, cond_true, fw, fd]))
 refine GcTo_own [0, 1, 2] (by rfl) (by simp) (by simp [fg])
theorem numD_r (l : List UInt8) (rb cb : Bool) (sz : Nat) (R : List D) (j most : Nat) (hz : R.length = sz) (hj : j < sz) (hm : most < 4294967296) (hl : l.length ≤ 1099511627776) :
  CallG Tryz.prog 111 [.ptr 0 0 0 1, .ptr 2 0 j 1, .int .u64 most] [Cr 1 cb, Rd l rb, Va sz R] (.tup [])
   [Cr 1 cb, Rd (rdN most l rb).2.1 (rdN most l rb).2.2, Va sz (R.set j (.int .u32 (rdN most l rb).1))] := by
 refine callG Tryz.func111 low111 (by simp [c111]) ?_
 simp only [c111]
 have hc := readN_p l rb most _ rfl hl
 have hlt := rdN_lt most l rb (by omega)
 generalize rdN most l rb = r at hc hlt ⊢
 obtain ⟨v, rest, bad⟩ := r
 dsimp only at hc hlt ⊢
 have hs := spl1 (show j < R.length by omega) (.int .u32 (v : Int))
 repeat' ((first | apply Run_seq | apply Run_skip | apply Run_ret | apply Run_nil | apply Run_condK | apply Run_ops mixed | apply Run_opsX mixed | (with_reducible first | refine PostG_open ?_ | refine ro_callA' (f := .c (.fn 96 [])) ?_ | refine ro_callV ?_ | refine ro_callVX ?_ | refine CallE_use (hc) (by simp) ?_) | simp (disch := omega) only [wu32] | ((first | refine GuardK_split ?_ ?_ | refine CondK_split ?_ ?_) <;> intro hc <;> (try simp only [hc]) <;> try simp at hc) | (with_reducible refine ⟨?_, ?_⟩; (focus ((repeat' with_reducible refine ⟨?_, ?_⟩) <;> first | exact trivial | assumption | (simp; done) | (simp only [List.length_map] at *; omega) | omega | (simp [fs]; done) | exact r8_sz))) | (with_reducible intro x hx) | omega) <;> (try simp only [Rd, hs, Nat.reduceBEq, reduceIte, Nat.reduceAdd, reduceCtorEq, cond_true, fw, fd]))
 refine GcTo_own [0, 1, 2] (by rfl) (by simp) (by simp [fg])
theorem sigL_r (l : List UInt8) (rb cb : Bool) (sz : Nat) (R : List D) (j : Nat) (lo hi : Int) (hz : R.length = sz) (hj : j < sz) (hl : l.length ≤ 1099511627776) :
  CallG Tryz.prog 99 [.ptr 0 0 0 1, .ptr 2 0 j 1, .int .i64 lo, .int .i64 hi] [Cr 1 cb, Rd l rb, Va sz R] (.tup [])
   [Cr 1 (cb || decide (unzz (rdN 18446744073709551615 l rb).1 < lo ∨ hi < unzz (rdN 18446744073709551615 l rb).1)), Rd (rdN 18446744073709551615 l rb).2.1 (rdN 18446744073709551615 l rb).2.2, Va sz (R.set j (.int .i64 (unzz (rdN 18446744073709551615 l rb).1)))] := by
 refine callG Tryz.func99 low99 (by simp [c99]) ?_
 simp only [c99]
 have hc := readS_p l rb hl
 have hlt := rdN_lt 18446744073709551615 l rb (by omega)
 have hv : Fit (unzz (rdN 18446744073709551615 l rb).1) := by unfold Fit unzz; split <;> omega
 generalize rdN 18446744073709551615 l rb = r at hc hlt hv ⊢
 obtain ⟨v, rest, bad⟩ := r
 dsimp only at hc hlt hv ⊢
 generalize unzz v = x at hc hv ⊢
 unfold Fit at hv
 have hs := spl1 (show j < R.length by omega) (.int .i64 x)
 cases cb
 ·simp only [Bool.false_or]
  by_cases h1 : x < lo
  ·have c1 : (x < lo) = True := by simpa using h1
   rw [decide_eq_true (.inl h1)]
   repeat' ((first | apply Run_seq | apply Run_skip | apply Run_ret | apply Run_nil | apply Run_condK | apply Run_ops mixed | apply Run_opsX mixed | (with_reducible first | refine PostG_open ?_ | refine ro_callA' (f := .c (.fn 134 [])) ?_ | refine ro_callV ?_ | refine ro_callVX ?_ | refine CallE_use (hc) (by simp) ?_) | ((first | refine GuardK_split ?_ ?_ | refine CondK_split ?_ ?_) <;> intro hc <;> (try simp only [hc]) <;> try simp at hc) | (with_reducible refine ⟨?_, ?_⟩; (focus ((repeat' with_reducible refine ⟨?_, ?_⟩) <;> first | exact trivial | assumption | (simp; done) | (simp only [List.length_map] at *; omega) | omega | (simp [fs]; done) | exact r8_sz))) | (with_reducible intro x hx) | omega) <;> (try simp only [Rd, hs, c1, Nat.reduceBEq, reduceIte, Nat.reduceAdd, reduceCtorEq, cond_true, cond_false, fw, fd]))
   refine GcTo_own [0, 1, 2] (by rfl) (by simp) (by simp [fg])
  ·have c1 : (x < lo) = False := by simpa using h1
   by_cases h2 : hi < x
   ·have c2 : (x > hi) = True := by simpa using h2
    rw [decide_eq_true (.inr h2)]
    repeat' ((first | apply Run_seq | apply Run_skip | apply Run_ret | apply Run_nil | apply Run_condK | apply Run_ops mixed | apply Run_opsX mixed | (with_reducible first | refine PostG_open ?_ | refine ro_callA' (f := .c (.fn 134 [])) ?_ | refine ro_callV ?_ | refine ro_callVX ?_ | refine CallE_use (hc) (by simp) ?_) | ((first | refine GuardK_split ?_ ?_ | refine CondK_split ?_ ?_) <;> intro hc <;> (try simp only [hc]) <;> try simp at hc) | (with_reducible refine ⟨?_, ?_⟩; (focus ((repeat' with_reducible refine ⟨?_, ?_⟩) <;> first | exact trivial | assumption | (simp; done) | (simp only [List.length_map] at *; omega) | omega | (simp [fs]; done) | exact r8_sz))) | (with_reducible intro x hx) | omega) <;> (try simp only [Rd, hs, c1, c2, Nat.reduceBEq, reduceIte, Nat.reduceAdd, reduceCtorEq, cond_true, cond_false, fw, fd]))
    refine GcTo_own [0, 1, 2] (by rfl) (by simp) (by simp [fg])
   ·have c2 : (x > hi) = False := by simpa using h2
    rw [decide_eq_false (fun h => h.elim h1 h2)]
    repeat' ((first | apply Run_seq | apply Run_skip | apply Run_ret | apply Run_nil | apply Run_condK | apply Run_ops mixed | apply Run_opsX mixed | (with_reducible first | refine PostG_open ?_ | refine ro_callA' (f := .c (.fn 134 [])) ?_ | refine ro_callV ?_ | refine ro_callVX ?_ | refine CallE_use (hc) (by simp) ?_) | ((first | refine GuardK_split ?_ ?_ | refine CondK_split ?_ ?_) <;> intro hc <;> (try simp only [hc]) <;> try simp at hc) | (with_reducible refine ⟨?_, ?_⟩; (focus ((repeat' with_reducible refine ⟨?_, ?_⟩) <;> first | exact trivial | assumption | (simp; done) | (simp only [List.length_map] at *; omega) | omega | (simp [fs]; done) | exact r8_sz))) | (with_reducible intro x hx) | omega) <;> (try simp only [Rd, hs, c1, c2, Nat.reduceBEq, reduceIte, Nat.reduceAdd, reduceCtorEq, cond_true, cond_false, fw, fd]))
    refine GcTo_own [0, 1, 2] (by rfl) (by simp) (by simp [fg])
 ·simp only [Bool.true_or]
  repeat' ((first | apply Run_seq | apply Run_skip | apply Run_ret | apply Run_nil | apply Run_condK | apply Run_ops mixed | apply Run_opsX mixed | (with_reducible first | refine PostG_open ?_ | refine ro_callA' (f := .c (.fn 134 [])) ?_ | refine ro_callV ?_ | refine ro_callVX ?_ | refine CallE_use (hc) (by simp) ?_) | ((first | refine GuardK_split ?_ ?_ | refine CondK_split ?_ ?_) <;> intro hc <;> (try simp only [hc]) <;> try simp at hc) | (with_reducible refine ⟨?_, ?_⟩; (focus ((repeat' with_reducible refine ⟨?_, ?_⟩) <;> first | exact trivial | assumption | (simp; done) | (simp only [List.length_map] at *; omega) | omega | (simp [fs]; done) | exact r8_sz))) | (with_reducible intro x hx) | omega) <;> (try simp only [Rd, hs, Nat.reduceBEq, reduceIte, Nat.reduceAdd, reduceCtorEq, cond_true, fw, fd]))
  refine GcTo_own [0, 1, 2] (by rfl) (by simp) (by simp [fg])
theorem name_r (l : List UInt8) (rb cb : Bool) (sz : Nat) (R : List D) (j : Nat) (hz : R.length = sz) (hj : j < sz) (hl : l.length ≤ 1099511627776) :
  CallG Tryz.prog 78 [.ptr 0 0 0 1, .ptr 2 0 j 1] [Cr 1 cb, Rd l rb, Va sz R] (.tup [])
   [Cr 1 cb, Rd (rdN 4294967295 l rb).2.1 (rdN 4294967295 l rb).2.2, Va sz (R.set j (.int .u32 (rdN 4294967295 l rb).1))] := by
 refine callG Tryz.func78 low78 (by simp [c78]) ?_
 simp only [c78]
 have hn := numD_r l rb cb sz R j 4294967295 hz hj (by omega) hl
 generalize rdN 4294967295 l rb = r at hn ⊢
 repeat' ((first | apply Run_seq | apply Run_ret | apply Run_nil | apply Run_ops mixed | (with_reducible first | refine PostG_open ?_ | refine ro_callA' (f := .c (.fn 111 [])) ?_ | refine ro_callV ?_ | refine CallE_use (hn) (by simp) ?_) | (with_reducible refine ⟨?_, ?_⟩; (focus ((repeat' with_reducible refine ⟨?_, ?_⟩) <;> first | exact trivial | assumption | (simp; done) | (simp only [List.length_map] at *; omega) | omega | (simp [fs]; done) | exact r8_sz))) | (with_reducible intro x hx) | omega) <;> (try simp only [Rd, Nat.reduceBEq, reduceIte, Nat.reduceEqDiff, Nat.reduceAdd, Nat.reduceSub, Nat.reduceLT, reduceCtorEq, fw, fd]))
 refine GcTo_own [0, 1, 2] (by rfl) (by simp) (by simp [fg])
theorem minutes_r (l : List UInt8) (rb cb : Bool) (sz : Nat) (R : List D) (j : Nat) (hz : R.length = sz) (hj : j < sz) (hl : l.length ≤ 1099511627776) :
  CallG Tryz.prog 56 [.ptr 0 0 0 1, .ptr 2 0 j 1] [Cr 1 cb, Rd l rb, Va sz R] (.tup [])
   [Cr 1 cb, Rd (rdN 18446744073709551615 l rb).2.1 (rdN 18446744073709551615 l rb).2.2, Va sz (R.set j (.int .i64 (unzz (rdN 18446744073709551615 l rb).1)))] := by
 refine callG Tryz.func56 low56 (by simp [c56]) ?_
 simp only [c56]
 have hn := sigL_r l rb cb sz R j (-9223372036854775808) 9223372036854775807 hz hj hl
 have hlt := rdN_lt 18446744073709551615 l rb (by omega)
 have e : decide (unzz (rdN 18446744073709551615 l rb).1 < -9223372036854775808 ∨ 9223372036854775807 < unzz (rdN 18446744073709551615 l rb).1) = false := by
  rw [decide_eq_false_iff_not]; unfold unzz; split <;> omega
 rw [e, Bool.or_false] at hn
 generalize rdN 18446744073709551615 l rb = r at hn ⊢
 repeat' ((first | apply Run_seq | apply Run_ret | apply Run_nil | apply Run_ops mixed | (with_reducible first | refine PostG_open ?_ | refine ro_callA' (f := .c (.fn 99 [])) ?_ | refine ro_callV ?_ | refine CallE_use (hn) (by simp) ?_) | (with_reducible refine ⟨?_, ?_⟩; (focus ((repeat' with_reducible refine ⟨?_, ?_⟩) <;> first | exact trivial | assumption | (simp; done) | (simp only [List.length_map] at *; omega) | omega | (simp [fs]; done) | exact r8_sz))) | (with_reducible intro x hx) | omega) <;> (try simp only [Rd, Nat.reduceBEq, reduceIte, Nat.reduceEqDiff, Nat.reduceAdd, Nat.reduceSub, Nat.reduceLT, reduceCtorEq, Int.reduceNeg, fw, fd]))
 refine GcTo_own [0, 1, 2] (by rfl) (by simp) (by simp [fg])
theorem flag_r (l : List UInt8) (rb cb : Bool) (sz : Nat) (R : List D) (j : Nat) (hz : R.length = sz) (hj : j < sz) (hl : l.length ≤ 1099511627776) :
  CallG Tryz.prog 59 [.ptr 0 0 0 1, .ptr 2 0 j 1] [Cr 1 cb, Rd l rb, Va sz R] (.tup [])
   [Cr 1 cb, Rd (rdN 1 l rb).2.1 (rdN 1 l rb).2.2, Va sz (R.set j (.bool (decide ((rdN 1 l rb).1 = 1))))] := by
 refine callG Tryz.func59 low59 (by simp [c59]) ?_
 simp only [c59]
 have hn := readF_p l rb hl
 generalize rdN 1 l rb = r at hn ⊢
 generalize decide (r.1 = 1) = b at hn ⊢
 have hs := spl1 (show j < R.length by omega) (.bool b)
 repeat' ((first | apply Run_seq | apply Run_skip | apply Run_ret | apply Run_nil | apply Run_condK | apply Run_ops mixed | apply Run_opsX mixed | (with_reducible first | refine PostG_open ?_ | refine ro_callA' (f := .c (.fn 102 [])) ?_ | refine ro_callV ?_ | refine ro_callVX ?_ | refine CallE_use (hn) (by simp) ?_) | (refine CondK_split ?_ ?_ <;> intro hc <;> (try simp only [hc]) <;> try simp at hc) | (with_reducible refine ⟨?_, ?_⟩; (focus ((repeat' with_reducible refine ⟨?_, ?_⟩) <;> first | exact trivial | assumption | (simp; done) | (simp only [List.length_map] at *; omega) | omega | (simp [fs]; done) | exact r8_sz))) | (with_reducible intro x hx) | omega) <;> (try simp only [Rd, hs, Nat.reduceBEq, reduceIte, Nat.reduceAdd, reduceCtorEq, cond_true, fw, fd]))
 refine GcTo_own [0, 1, 2] (by rfl) (by simp) (by simp [fg])
theorem text_r (l : List UInt8) (rb cb : Bool) (sz : Nat) (R : List D) (j k : Nat) (hz : R.length = sz) (hj : j < sz) (hk : k ≤ 1099511627776) (hl : l.length ≤ 1099511627776) :
  CallG Tryz.prog 58 [.ptr 0 0 0 1, .ptr 2 0 j 1, .int .i64 k] [Cr 1 cb, Rd l rb, Va sz R] (.tup [])
   [Cr 1 cb, Rd (rdT k l rb).2.1 (rdT k l rb).2.2, Va sz (R.set j (.str (rdT k l rb).1))] := by
 refine callG Tryz.func58 low58 (by simp [c58]) ?_
 simp only [c58]
 have hn := readT_p l rb k _ rfl hk hl
 generalize rdT k l rb = r at hn ⊢
 have hs := spl1 (show j < R.length by omega) (.str r.1)
 repeat' ((first | apply Run_seq | apply Run_skip | apply Run_ret | apply Run_nil | apply Run_condK | apply Run_ops mixed | apply Run_opsX mixed | (with_reducible first | refine PostG_open ?_ | refine ro_callA' (f := .c (.fn 100 [])) ?_ | refine ro_callV ?_ | refine ro_callVX ?_ | refine CallE_use (hn) (by simp) ?_) | ((first | refine GuardK_split ?_ ?_ | refine CondK_split ?_ ?_) <;> intro hc <;> (try simp only [hc]) <;> try simp at hc) | (with_reducible refine ⟨?_, ?_⟩; (focus ((repeat' with_reducible refine ⟨?_, ?_⟩) <;> first | exact trivial | assumption | (simp; done) | (simp only [List.length_map] at *; omega) | omega | (simp [fs]; done) | exact r8_sz))) | (with_reducible intro x hx) | omega) <;> (try simp only [Rd, hs, Nat.reduceBEq, reduceIte, Nat.reduceAdd, reduceCtorEq, cond_true, fw, fd]))
 refine GcTo_own [0, 1, 2] (by rfl) (by simp) (by simp [fg])
end Go.Proofs.YtgefljdclekadaaGreat
