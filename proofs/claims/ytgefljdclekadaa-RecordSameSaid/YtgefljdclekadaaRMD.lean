import Derived.Test.YtgefljdclekadaaRMC
import Derived.Test.YtgefljdclekadaaVi25
import Derived.Test.YtgefljdclekadaaVi30
set_option linter.unusedVariables false
set_option linter.unusedSimpArgs false
set_option linter.unnecessarySimpa false
namespace Go.Proofs.Ytgefljdclekadaa
open Go Go.Vi

/-- A coder that writes: itself, its writer, the bytes; a variable. -/
abbrev Cw (w : Nat) (bad : Bool) : Ob := ⟨true, false, false, false, 3, [[.ptr w 0 0 1, .nilp, .bool bad]], some 0⟩
abbrev Ww (b k : Nat) : Ob := ⟨true, false, false, false, 1, [[.own b 0 k k 1 none]], some 0⟩
abbrev Va (sz : Nat) (R : List D) : Ob := ⟨true, false, true, false, sz, [R], some 0⟩
def uI (x : Int) : Nat := (x % 18446744073709551616).toNat
theorem uI_lt (x : Int) : uI x < 18446744073709551616 := by unfold uI; omega
theorem uI_wrap (x : Int) : IntKind.u64.wrap x = ((uI x : Nat) : Int) := by
 rw [wu64m]; unfold uI; omega
theorem uI_id {x : Int} (h1 : 0 ≤ x) (h2 : x ≤ 18446744073709551615) : ((uI x : Nat) : Int) = x := by unfold uI; omega
abbrev Fit (x : Int) : Prop := -9223372036854775808 ≤ x ∧ x ≤ 9223372036854775807



theorem numI_w (l : List UInt8) (bad : Bool) (sz : Nat) (R : List D) (j most : Nat) (x : Int) (hR : R[j]? = some (.int .i64 x)) (hx : Fit x) (hm : most < 18446744073709551616) (hl : l.length ≤ 1099511627776) :
  CallG Try.prog 32 [.ptr 0 0 0 1, .ptr 3 0 j 1, .int .u64 most] [Cw 1 bad, Ww 2 l.length, acc true 1 true (r8 l), Va sz R] (.tup [])
   [Cw 1 (bad || decide (most < uI x)), Ww 2 (l ++ num (uI x)).length, acc true 1 true (r8 (l ++ num (uI x))), Va sz R] := by
 refine callG Try.func32 low32 (by simp [c32]) ?_
 simp only [c32]
 have hu := uI_wrap x
 have hn := number_p l (uI x) (uI x) rfl (uI_lt x) hl
 have h10 := num_10 (uI_lt x)
 unfold Fit at hx
 cases bad
 ·simp only [Bool.false_or]
  by_cases hc : most < uI x
  ·have c1 : (((uI x : Nat) : Int) > ((most : Nat) : Int)) = True := by simp; omega
   rw [decide_eq_true hc]
   repeat' ((first | apply Run_seq | apply Run_skip | apply Run_ret | apply Run_nil | apply Run_condK | apply Run_ops mixed | apply Run_opsX mixed | with_reducible refine PostG_open ?_ | with_reducible refine ro_callA (f := .c (.fn 59 [])) ?_ | with_reducible refine ro_callA' (f := .c (.fn 59 [])) ?_ | with_reducible refine ro_callV ?_ | with_reducible refine ro_callVX ?_ | with_reducible refine CallE_use (hn) (by simp) ?_ | simp (disch := omega) only [w64, wu64, wu32, wu16, wu8, Int.tdiv_eq_ediv_of_nonneg, Int.tmod_eq_emod_of_nonneg] | ((first | refine GuardK_split ?_ ?_ | refine CondK_split ?_ ?_) <;> intro hc <;> (try simp only [hc]) <;> try simp at hc) | (with_reducible refine And.intro ?_ ?_; (focus ((repeat' (with_reducible refine And.intro ?_ ?_)) <;> first | exact trivial | assumption | (simp; done) | (simp only [List.length_map] at *; omega) | omega | (simp [D.cells, D.ok, D.one, D.pt, D.pt1]; done) | exact r8_sz))) | (with_reducible intro x hx) | omega) <;> (try simp only [Wr, hR, hu, c1, Nat.reduceBEq, argEnv, reduceIte, Nat.reduceEqDiff, Nat.reduceAdd, Nat.reduceSub, reduceCtorEq, binD, binInt, eqD, eqN, boolD, pickD, chkD, convD, faddrD, loadD, splice, D.cells, D.ok, D.one, D.pt1, D.pt0, cond_true, cond_false, mapO, pull, pull2, pull1, pull0, pullσ, pullOb, Go.Vi.freeze, capt, reachL, reachO, isin, merge, mset, renOb, fr, D.ren, D.renL, ofRes, fw]))
   refine GcTo_own [0, 1, 2, 3] (by rfl) (by simp) (by simp [keptW, ObKW, ObW, imp_self, acc_real, acc_nl, acc_pure, acc_fz, acc_sz, acc_rows, acc_spare, D.pt1, D.pt0, pull, pull1, pull0, idx_hit, idx_miss, sucO_some, pullOb, or_false, mapO])
  ·have c1 : (((uI x : Nat) : Int) > ((most : Nat) : Int)) = False := by simp; omega
   rw [decide_eq_false hc]
   repeat' ((first | apply Run_seq | apply Run_skip | apply Run_ret | apply Run_nil | apply Run_condK | apply Run_ops mixed | apply Run_opsX mixed | with_reducible refine PostG_open ?_ | with_reducible refine ro_callA (f := .c (.fn 59 [])) ?_ | with_reducible refine ro_callA' (f := .c (.fn 59 [])) ?_ | with_reducible refine ro_callV ?_ | with_reducible refine ro_callVX ?_ | with_reducible refine CallE_use (hn) (by simp) ?_ | simp (disch := omega) only [w64, wu64, wu32, wu16, wu8, Int.tdiv_eq_ediv_of_nonneg, Int.tmod_eq_emod_of_nonneg] | ((first | refine GuardK_split ?_ ?_ | refine CondK_split ?_ ?_) <;> intro hc <;> (try simp only [hc]) <;> try simp at hc) | (with_reducible refine And.intro ?_ ?_; (focus ((repeat' (with_reducible refine And.intro ?_ ?_)) <;> first | exact trivial | assumption | (simp; done) | (simp only [List.length_map] at *; omega) | omega | (simp [D.cells, D.ok, D.one, D.pt, D.pt1]; done) | exact r8_sz))) | (with_reducible intro x hx) | omega) <;> (try simp only [Wr, hR, hu, c1, Nat.reduceBEq, argEnv, reduceIte, Nat.reduceEqDiff, Nat.reduceAdd, Nat.reduceSub, reduceCtorEq, binD, binInt, eqD, eqN, boolD, pickD, chkD, convD, faddrD, loadD, splice, D.cells, D.ok, D.one, D.pt1, D.pt0, cond_true, cond_false, mapO, pull, pull2, pull1, pull0, pullσ, pullOb, Go.Vi.freeze, capt, reachL, reachO, isin, merge, mset, renOb, fr, D.ren, D.renL, ofRes, fw]))
   refine GcTo_own [0, 1, 2, 3] (by rfl) (by simp) (by simp [keptW, ObKW, ObW, imp_self, acc_real, acc_nl, acc_pure, acc_fz, acc_sz, acc_rows, acc_spare, D.pt1, D.pt0, pull, pull1, pull0, idx_hit, idx_miss, sucO_some, pullOb, or_false, mapO])
 ·simp only [Bool.true_or]
  repeat' ((first | apply Run_seq | apply Run_skip | apply Run_ret | apply Run_nil | apply Run_condK | apply Run_ops mixed | apply Run_opsX mixed | with_reducible refine PostG_open ?_ | with_reducible refine ro_callA (f := .c (.fn 59 [])) ?_ | with_reducible refine ro_callA' (f := .c (.fn 59 [])) ?_ | with_reducible refine ro_callV ?_ | with_reducible refine ro_callVX ?_ | with_reducible refine CallE_use (hn) (by simp) ?_ | simp (disch := omega) only [w64, wu64, wu32, wu16, wu8, Int.tdiv_eq_ediv_of_nonneg, Int.tmod_eq_emod_of_nonneg] | ((first | refine GuardK_split ?_ ?_ | refine CondK_split ?_ ?_) <;> intro hc <;> (try simp only [hc]) <;> try simp at hc) | (with_reducible refine And.intro ?_ ?_; (focus ((repeat' (with_reducible refine And.intro ?_ ?_)) <;> first | exact trivial | assumption | (simp; done) | (simp only [List.length_map] at *; omega) | omega | (simp [D.cells, D.ok, D.one, D.pt, D.pt1]; done) | exact r8_sz))) | (with_reducible intro x hx) | omega) <;> (try simp only [Wr, hR, hu, Nat.reduceBEq, argEnv, reduceIte, Nat.reduceEqDiff, Nat.reduceAdd, Nat.reduceSub, reduceCtorEq, eqD, eqN, boolD, pickD, chkD, convD, faddrD, loadD, splice, D.cells, D.ok, D.one, D.pt1, D.pt0, cond_true, mapO, pull, pull2, pull1, pull0, pullσ, pullOb, Go.Vi.freeze, capt, reachL, reachO, isin, merge, mset, renOb, fr, D.ren, D.renL, ofRes, fw]))
  refine GcTo_own [0, 1, 2, 3] (by rfl) (by simp) (by simp [keptW, ObKW, ObW, imp_self, acc_real, acc_nl, acc_pure, acc_fz, acc_sz, acc_rows, acc_spare, D.pt1, D.pt0, pull, pull1, pull0, idx_hit, idx_miss, sucO_some, pullOb, or_false, mapO])
theorem numQ_w (l : List UInt8) (bad : Bool) (sz : Nat) (R : List D) (j most : Nat) (x : Int) (hR : R[j]? = some (.int .u64 x)) (hx : 0 ≤ x ∧ x ≤ 18446744073709551615) (hm : most < 18446744073709551616) (hl : l.length ≤ 1099511627776) :
  CallG Try.prog 34 [.ptr 0 0 0 1, .ptr 3 0 j 1, .int .u64 most] [Cw 1 bad, Ww 2 l.length, acc true 1 true (r8 l), Va sz R] (.tup [])
   [Cw 1 (bad || decide (most < uI x)), Ww 2 (l ++ num (uI x)).length, acc true 1 true (r8 (l ++ num (uI x))), Va sz R] := by
 refine callG Try.func34 low34 (by simp [c34]) ?_
 simp only [c34]
 have hu := uI_id hx.1 hx.2
 have hn := number_p l (uI x) x hu.symm (uI_lt x) hl
 have h10 := num_10 (uI_lt x)
 cases bad
 ·simp only [Bool.false_or]
  by_cases hc : most < uI x
  ·have c1 : (x > ((most : Nat) : Int)) = True := by simp; omega
   rw [decide_eq_true hc]
   repeat' ((first | apply Run_seq | apply Run_skip | apply Run_ret | apply Run_nil | apply Run_condK | apply Run_ops mixed | apply Run_opsX mixed | with_reducible refine PostG_open ?_ | with_reducible refine ro_callA (f := .c (.fn 59 [])) ?_ | with_reducible refine ro_callA' (f := .c (.fn 59 [])) ?_ | with_reducible refine ro_callV ?_ | with_reducible refine ro_callVX ?_ | with_reducible refine CallE_use (hn) (by simp) ?_ | ((first | refine GuardK_split ?_ ?_ | refine CondK_split ?_ ?_) <;> intro hc <;> (try simp only [hc]) <;> try simp at hc) | (with_reducible refine And.intro ?_ ?_; (focus ((repeat' (with_reducible refine And.intro ?_ ?_)) <;> first | exact trivial | assumption | (simp; done) | (simp only [List.length_map] at *; omega) | omega | (simp [D.cells, D.ok, D.one, D.pt, D.pt1]; done) | exact r8_sz))) | (with_reducible intro x hx) | omega) <;> (try simp only [Wr, hR, c1, Nat.reduceBEq, argEnv, reduceIte, Nat.reduceEqDiff, Nat.reduceAdd, Nat.reduceSub, reduceCtorEq, binD, binInt, eqD, eqN, boolD, pickD, chkD, faddrD, loadD, splice, D.cells, D.ok, D.one, D.pt1, D.pt0, cond_true, cond_false, mapO, pull, pull2, pull1, pull0, pullσ, pullOb, Go.Vi.freeze, capt, reachL, reachO, isin, merge, mset, renOb, fr, D.ren, D.renL, ofRes, fw]))
   refine GcTo_own [0, 1, 2, 3] (by rfl) (by simp) (by simp [keptW, ObKW, ObW, imp_self, acc_real, acc_nl, acc_pure, acc_fz, acc_sz, acc_rows, acc_spare, D.pt1, D.pt0, pull, pull1, pull0, idx_hit, idx_miss, sucO_some, pullOb, or_false, mapO])
  ·have c1 : (x > ((most : Nat) : Int)) = False := by simp; omega
   rw [decide_eq_false hc]
   repeat' ((first | apply Run_seq | apply Run_skip | apply Run_ret | apply Run_nil | apply Run_condK | apply Run_ops mixed | apply Run_opsX mixed | with_reducible refine PostG_open ?_ | with_reducible refine ro_callA (f := .c (.fn 59 [])) ?_ | with_reducible refine ro_callA' (f := .c (.fn 59 [])) ?_ | with_reducible refine ro_callV ?_ | with_reducible refine ro_callVX ?_ | with_reducible refine CallE_use (hn) (by simp) ?_ | ((first | refine GuardK_split ?_ ?_ | refine CondK_split ?_ ?_) <;> intro hc <;> (try simp only [hc]) <;> try simp at hc) | (with_reducible refine And.intro ?_ ?_; (focus ((repeat' (with_reducible refine And.intro ?_ ?_)) <;> first | exact trivial | assumption | (simp; done) | (simp only [List.length_map] at *; omega) | omega | (simp [D.cells, D.ok, D.one, D.pt, D.pt1]; done) | exact r8_sz))) | (with_reducible intro x hx) | omega) <;> (try simp only [Wr, hR, c1, Nat.reduceBEq, argEnv, reduceIte, Nat.reduceEqDiff, Nat.reduceAdd, Nat.reduceSub, reduceCtorEq, binD, binInt, eqD, eqN, boolD, pickD, chkD, faddrD, loadD, splice, D.cells, D.ok, D.one, D.pt1, D.pt0, cond_true, cond_false, mapO, pull, pull2, pull1, pull0, pullσ, pullOb, Go.Vi.freeze, capt, reachL, reachO, isin, merge, mset, renOb, fr, D.ren, D.renL, ofRes, fw]))
   refine GcTo_own [0, 1, 2, 3] (by rfl) (by simp) (by simp [keptW, ObKW, ObW, imp_self, acc_real, acc_nl, acc_pure, acc_fz, acc_sz, acc_rows, acc_spare, D.pt1, D.pt0, pull, pull1, pull0, idx_hit, idx_miss, sucO_some, pullOb, or_false, mapO])
 ·simp only [Bool.true_or]
  repeat' ((first | apply Run_seq | apply Run_skip | apply Run_ret | apply Run_nil | apply Run_condK | apply Run_ops mixed | apply Run_opsX mixed | with_reducible refine PostG_open ?_ | with_reducible refine ro_callA (f := .c (.fn 59 [])) ?_ | with_reducible refine ro_callA' (f := .c (.fn 59 [])) ?_ | with_reducible refine ro_callV ?_ | with_reducible refine ro_callVX ?_ | with_reducible refine CallE_use (hn) (by simp) ?_ | ((first | refine GuardK_split ?_ ?_ | refine CondK_split ?_ ?_) <;> intro hc <;> (try simp only [hc]) <;> try simp at hc) | (with_reducible refine And.intro ?_ ?_; (focus ((repeat' (with_reducible refine And.intro ?_ ?_)) <;> first | exact trivial | assumption | (simp; done) | (simp only [List.length_map] at *; omega) | omega | (simp [D.cells, D.ok, D.one, D.pt, D.pt1]; done) | exact r8_sz))) | (with_reducible intro x hx) | omega) <;> (try simp only [Wr, hR, Nat.reduceBEq, argEnv, reduceIte, Nat.reduceEqDiff, Nat.reduceAdd, Nat.reduceSub, reduceCtorEq, eqD, eqN, boolD, pickD, chkD, faddrD, loadD, splice, D.cells, D.ok, D.one, D.pt1, D.pt0, cond_true, mapO, pull, pull2, pull1, pull0, pullσ, pullOb, Go.Vi.freeze, capt, reachL, reachO, isin, merge, mset, renOb, fr, D.ren, D.renL, ofRes, fw]))
  refine GcTo_own [0, 1, 2, 3] (by rfl) (by simp) (by simp [keptW, ObKW, ObW, imp_self, acc_real, acc_nl, acc_pure, acc_fz, acc_sz, acc_rows, acc_spare, D.pt1, D.pt0, pull, pull1, pull0, idx_hit, idx_miss, sucO_some, pullOb, or_false, mapO])
theorem numD_w (l : List UInt8) (bad : Bool) (sz : Nat) (R : List D) (j most : Nat) (x : Int) (hR : R[j]? = some (.int .u32 x)) (hx : 0 ≤ x ∧ x ≤ 4294967295) (hm : most < 18446744073709551616) (hl : l.length ≤ 1099511627776) :
  CallG Try.prog 60 [.ptr 0 0 0 1, .ptr 3 0 j 1, .int .u64 most] [Cw 1 bad, Ww 2 l.length, acc true 1 true (r8 l), Va sz R] (.tup [])
   [Cw 1 (bad || decide (most < uI x)), Ww 2 (l ++ num (uI x)).length, acc true 1 true (r8 (l ++ num (uI x))), Va sz R] := by
 refine callG Try.func60 low60 (by simp [c60]) ?_
 simp only [c60]
 have hu := uI_id hx.1 (by omega)
 have hn := number_p l (uI x) x hu.symm (uI_lt x) hl
 have h10 := num_10 (uI_lt x)
 cases bad
 ·simp only [Bool.false_or]
  by_cases hc : most < uI x
  ·have c1 : (x > ((most : Nat) : Int)) = True := by simp; omega
   rw [decide_eq_true hc]
   repeat' ((first | apply Run_seq | apply Run_skip | apply Run_ret | apply Run_nil | apply Run_condK | apply Run_ops mixed | apply Run_opsX mixed | with_reducible refine PostG_open ?_ | with_reducible refine ro_callA (f := .c (.fn 59 [])) ?_ | with_reducible refine ro_callA' (f := .c (.fn 59 [])) ?_ | with_reducible refine ro_callV ?_ | with_reducible refine ro_callVX ?_ | with_reducible refine CallE_use (hn) (by simp) ?_ | simp (disch := omega) only [wu64] | ((first | refine GuardK_split ?_ ?_ | refine CondK_split ?_ ?_) <;> intro hc <;> (try simp only [hc]) <;> try simp at hc) | (with_reducible refine And.intro ?_ ?_; (focus ((repeat' (with_reducible refine And.intro ?_ ?_)) <;> first | exact trivial | assumption | (simp; done) | (simp only [List.length_map] at *; omega) | omega | (simp [D.cells, D.ok, D.one, D.pt, D.pt1]; done) | exact r8_sz))) | (with_reducible intro x hx) | omega) <;> (try simp only [Wr, hR, c1, Nat.reduceBEq, argEnv, reduceIte, Nat.reduceEqDiff, Nat.reduceAdd, Nat.reduceSub, reduceCtorEq, binD, binInt, eqD, eqN, boolD, pickD, chkD, convD, faddrD, loadD, splice, D.cells, D.ok, D.one, D.pt1, D.pt0, cond_true, cond_false, mapO, pull, pull2, pull1, pull0, pullσ, pullOb, Go.Vi.freeze, capt, reachL, reachO, isin, merge, mset, renOb, fr, D.ren, D.renL, ofRes, fw]))
   refine GcTo_own [0, 1, 2, 3] (by rfl) (by simp) (by simp [keptW, ObKW, ObW, imp_self, acc_real, acc_nl, acc_pure, acc_fz, acc_sz, acc_rows, acc_spare, D.pt1, D.pt0, pull, pull1, pull0, idx_hit, idx_miss, sucO_some, pullOb, or_false, mapO])
  ·have c1 : (x > ((most : Nat) : Int)) = False := by simp; omega
   rw [decide_eq_false hc]
   repeat' ((first | apply Run_seq | apply Run_skip | apply Run_ret | apply Run_nil | apply Run_condK | apply Run_ops mixed | apply Run_opsX mixed | with_reducible refine PostG_open ?_ | with_reducible refine ro_callA (f := .c (.fn 59 [])) ?_ | with_reducible refine ro_callA' (f := .c (.fn 59 [])) ?_ | with_reducible refine ro_callV ?_ | with_reducible refine ro_callVX ?_ | with_reducible refine CallE_use (hn) (by simp) ?_ | simp (disch := omega) only [wu64] | ((first | refine GuardK_split ?_ ?_ | refine CondK_split ?_ ?_) <;> intro hc <;> (try simp only [hc]) <;> try simp at hc) | (with_reducible refine And.intro ?_ ?_; (focus ((repeat' (with_reducible refine And.intro ?_ ?_)) <;> first | exact trivial | assumption | (simp; done) | (simp only [List.length_map] at *; omega) | omega | (simp [D.cells, D.ok, D.one, D.pt, D.pt1]; done) | exact r8_sz))) | (with_reducible intro x hx) | omega) <;> (try simp only [Wr, hR, c1, Nat.reduceBEq, argEnv, reduceIte, Nat.reduceEqDiff, Nat.reduceAdd, Nat.reduceSub, reduceCtorEq, binD, binInt, eqD, eqN, boolD, pickD, chkD, convD, faddrD, loadD, splice, D.cells, D.ok, D.one, D.pt1, D.pt0, cond_true, cond_false, mapO, pull, pull2, pull1, pull0, pullσ, pullOb, Go.Vi.freeze, capt, reachL, reachO, isin, merge, mset, renOb, fr, D.ren, D.renL, ofRes, fw]))
   refine GcTo_own [0, 1, 2, 3] (by rfl) (by simp) (by simp [keptW, ObKW, ObW, imp_self, acc_real, acc_nl, acc_pure, acc_fz, acc_sz, acc_rows, acc_spare, D.pt1, D.pt0, pull, pull1, pull0, idx_hit, idx_miss, sucO_some, pullOb, or_false, mapO])
 ·simp only [Bool.true_or]
  repeat' ((first | apply Run_seq | apply Run_skip | apply Run_ret | apply Run_nil | apply Run_condK | apply Run_ops mixed | apply Run_opsX mixed | with_reducible refine PostG_open ?_ | with_reducible refine ro_callA (f := .c (.fn 59 [])) ?_ | with_reducible refine ro_callA' (f := .c (.fn 59 [])) ?_ | with_reducible refine ro_callV ?_ | with_reducible refine ro_callVX ?_ | with_reducible refine CallE_use (hn) (by simp) ?_ | simp (disch := omega) only [wu64] | ((first | refine GuardK_split ?_ ?_ | refine CondK_split ?_ ?_) <;> intro hc <;> (try simp only [hc]) <;> try simp at hc) | (with_reducible refine And.intro ?_ ?_; (focus ((repeat' (with_reducible refine And.intro ?_ ?_)) <;> first | exact trivial | assumption | (simp; done) | (simp only [List.length_map] at *; omega) | omega | (simp [D.cells, D.ok, D.one, D.pt, D.pt1]; done) | exact r8_sz))) | (with_reducible intro x hx) | omega) <;> (try simp only [Wr, hR, Nat.reduceBEq, argEnv, reduceIte, Nat.reduceEqDiff, Nat.reduceAdd, Nat.reduceSub, reduceCtorEq, eqD, eqN, boolD, pickD, chkD, convD, faddrD, loadD, splice, D.cells, D.ok, D.one, D.pt1, D.pt0, cond_true, mapO, pull, pull2, pull1, pull0, pullσ, pullOb, Go.Vi.freeze, capt, reachL, reachO, isin, merge, mset, renOb, fr, D.ren, D.renL, ofRes, fw]))
  refine GcTo_own [0, 1, 2, 3] (by rfl) (by simp) (by simp [keptW, ObKW, ObW, imp_self, acc_real, acc_nl, acc_pure, acc_fz, acc_sz, acc_rows, acc_spare, D.pt1, D.pt0, pull, pull1, pull0, idx_hit, idx_miss, sucO_some, pullOb, or_false, mapO])
theorem name_w (l : List UInt8) (bad : Bool) (sz : Nat) (R : List D) (j : Nat) (x : Int) (hR : R[j]? = some (.int .u32 x)) (hx : 0 ≤ x ∧ x ≤ 4294967295) (hl : l.length ≤ 1099511627776) :
  CallG Try.prog 33 [.ptr 0 0 0 1, .ptr 3 0 j 1] [Cw 1 bad, Ww 2 l.length, acc true 1 true (r8 l), Va sz R] (.tup [])
   [Cw 1 bad, Ww 2 (l ++ num (uI x)).length, acc true 1 true (r8 (l ++ num (uI x))), Va sz R] := by
 refine callG Try.func33 low33 (by simp [c33]) ?_
 simp only [c33]
 have hn := numD_w l bad sz R j 4294967295 x hR hx (by omega) hl
 have e : decide (4294967295 < uI x) = false := by
  have := uI_id hx.1 (show x ≤ 18446744073709551615 by omega)
  rw [decide_eq_false_iff_not]; omega
 rw [e, Bool.or_false] at hn
 repeat' ((first | apply Run_seq | apply Run_ret | apply Run_nil | apply Run_ops mixed | with_reducible refine PostG_open ?_ | with_reducible refine ro_callA (f := .c (.fn 60 [])) ?_ | with_reducible refine ro_callA' (f := .c (.fn 60 [])) ?_ | with_reducible refine ro_callV ?_ | with_reducible refine CallE_use (hn) (by simp) ?_ | (with_reducible refine And.intro ?_ ?_; (focus ((repeat' (with_reducible refine And.intro ?_ ?_)) <;> first | exact trivial | assumption | (simp; done) | (simp only [List.length_map] at *; omega) | omega | (simp [D.cells, D.ok, D.one, D.pt, D.pt1]; done) | exact r8_sz))) | (with_reducible intro x hx) | omega) <;> (try simp only [Nat.reduceBEq, argEnv, reduceIte, Nat.reduceEqDiff, Nat.reduceAdd, Nat.reduceSub, Nat.reduceLT, reduceCtorEq, D.pt1, D.pt0, mapO, pull, pull2, pull1, pull0, pullσ, pullOb, Go.Vi.freeze, capt, reachL, reachO, isin, merge, mset, renOb, fr, D.ren, D.renL, ofRes, fw]))
 refine GcTo_own [0, 1, 2, 3] (by rfl) (by simp) (by simp [keptW, ObKW, ObW, imp_self, acc_real, acc_nl, acc_pure, acc_fz, acc_sz, acc_rows, acc_spare, D.pt1, D.pt0, pull, pull1, pull0, idx_hit, idx_miss, sucO_some, pullOb, or_false, mapO])
theorem big_w (l : List UInt8) (bad : Bool) (sz : Nat) (R : List D) (j : Nat) (x : Int) (hR : R[j]? = some (.int .u64 x)) (hx : 0 ≤ x ∧ x ≤ 18446744073709551615) (hl : l.length ≤ 1099511627776) :
  CallG Try.prog 34 [.ptr 0 0 0 1, .ptr 3 0 j 1, .int .u64 18446744073709551615] [Cw 1 bad, Ww 2 l.length, acc true 1 true (r8 l), Va sz R] (.tup [])
   [Cw 1 bad, Ww 2 (l ++ num (uI x)).length, acc true 1 true (r8 (l ++ num (uI x))), Va sz R] := by
 have hn := numQ_w l bad sz R j 18446744073709551615 x hR hx (by omega) hl
 have e : decide (18446744073709551615 < uI x) = false := by
  have := uI_lt x
  rw [decide_eq_false_iff_not]; omega
 rw [e, Bool.or_false] at hn
 exact hn
end Go.Proofs.Ytgefljdclekadaa

namespace Go.Proofs.Ytgefljdclekadaa
open Go Go.Vi



/-- A coder that reads. -/
abbrev Cr (r : Nat) (bad : Bool) : Ob := ⟨true, false, false, false, 3, [[.nilp, .ptr r 0 0 1, .bool bad]], some 0⟩
/-- What a reader answers: of bytes, and whether it is bad. -/
def rdN (most : Nat) (l : List UInt8) (rb : Bool) : Nat × List UInt8 × Bool := if rb = true then (0, l, true) else rdGo most l 0 0
theorem rdN_lt (m : Nat) (l : List UInt8) (rb : Bool) (hm : m < 18446744073709551616) : (rdN m l rb).1 ≤ m ∧ (rdN m l rb).2.1.length ≤ l.length := by
 unfold rdN
 split
 ·simp
 ·have := rdGo_lt m l 0 0 hm
  omega
theorem readN_p (l : List UInt8) (rb : Bool) (m : Nat) (x : Int) (hx : x = m) (hl : l.length ≤ 1099511627776) :
  CallG Try.prog 58 [.ptr 0 0 0 1, .int .u64 x] [Rd l rb] (.int .u64 (rdN m l rb).1) [Rd (rdN m l rb).2.1 (rdN m l rb).2.2] := by
 unfold rdN
 cases rb
 ·exact readGo_p l m x hx hl
 ·exact readBad_p l x
theorem spl1 {R : List D} {j : Nat} (h : j < R.length) (d : D) : R.take j ++ [d] ++ R.drop (j + 1) = R.set j d := by
 rw [List.set_eq_take_append_cons_drop, if_pos h]; simp
theorem numI_r (l : List UInt8) (rb cb : Bool) (sz : Nat) (R : List D) (j most : Nat) (hz : R.length = sz) (hj : j < sz) (hm : most < 9223372036854775808) (hl : l.length ≤ 1099511627776) :
  CallG Try.prog 32 [.ptr 0 0 0 1, .ptr 2 0 j 1, .int .u64 most] [Cr 1 cb, Rd l rb, Va sz R] (.tup [])
   [Cr 1 cb, Rd (rdN most l rb).2.1 (rdN most l rb).2.2, Va sz (R.set j (.int .i64 (rdN most l rb).1))] := by
 refine callG Try.func32 low32 (by simp [c32]) ?_
 simp only [c32]
 have hc := readN_p l rb most _ rfl hl
 have hlt := rdN_lt most l rb (by omega)
 generalize rdN most l rb = r at hc hlt ⊢
 obtain ⟨v, rest, bad⟩ := r
 dsimp only at hc hlt ⊢
 have hs := spl1 (show j < R.length by omega) (.int .i64 (v : Int))
 repeat' ((first | apply Run_seq | apply Run_skip | apply Run_ret | apply Run_nil | apply Run_condK | apply Run_ops mixed | apply Run_opsX mixed | with_reducible refine PostG_open ?_ | with_reducible refine ro_callA (f := .c (.fn 58 [])) ?_ | with_reducible refine ro_callA' (f := .c (.fn 58 [])) ?_ | with_reducible refine ro_callV ?_ | with_reducible refine ro_callVX ?_ | with_reducible refine CallE_use (hc) (by simp) ?_ | simp (disch := omega) only [w64] | ((first | refine GuardK_split ?_ ?_ | refine CondK_split ?_ ?_) <;> intro hc <;> (try simp only [hc]) <;> try simp at hc) | (with_reducible refine And.intro ?_ ?_; (focus ((repeat' (with_reducible refine And.intro ?_ ?_)) <;> first | exact trivial | assumption | (simp; done) | (simp only [List.length_map] at *; omega) | omega | (simp [D.cells, D.ok, D.one, D.pt, D.pt1]; done) | exact r8_sz))) | (with_reducible intro x hx) | omega) <;> (try simp only [Rd, hs, Nat.reduceBEq, argEnv, reduceIte, Nat.reduceAdd, reduceCtorEq, eqD, eqN, boolD, chkD, convD, faddrD, loadD, splice, D.cells, D.ok, D.one, D.pt1, D.pt0, cond_true, mapO, pull, pull2, pull1, pull0, pullσ, pullOb, Go.Vi.freeze, capt, reachL, reachO, isin, merge, mset, renOb, D.ren, D.renL, ofRes, fw]))
 refine GcTo_own [0, 1, 2] (by rfl) (by simp) (by simp [keptW, ObKW, ObW, imp_self, D.pt1, D.pt0, pull, pull1, pull0, idx_hit, idx_miss, sucO_some, pullOb, or_false, mapO])
theorem numQ_r (l : List UInt8) (rb cb : Bool) (sz : Nat) (R : List D) (j most : Nat) (hz : R.length = sz) (hj : j < sz) (hm : most < 18446744073709551616) (hl : l.length ≤ 1099511627776) :
  CallG Try.prog 34 [.ptr 0 0 0 1, .ptr 2 0 j 1, .int .u64 most] [Cr 1 cb, Rd l rb, Va sz R] (.tup [])
   [Cr 1 cb, Rd (rdN most l rb).2.1 (rdN most l rb).2.2, Va sz (R.set j (.int .u64 (rdN most l rb).1))] := by
 refine callG Try.func34 low34 (by simp [c34]) ?_
 simp only [c34]
 have hc := readN_p l rb most _ rfl hl
 have hlt := rdN_lt most l rb (by omega)
 generalize rdN most l rb = r at hc hlt ⊢
 obtain ⟨v, rest, bad⟩ := r
 dsimp only at hc hlt ⊢
 have hs := spl1 (show j < R.length by omega) (.int .u64 (v : Int))
 repeat' ((first | apply Run_seq | apply Run_skip | apply Run_ret | apply Run_nil | apply Run_condK | apply Run_ops mixed | apply Run_opsX mixed | with_reducible refine PostG_open ?_ | with_reducible refine ro_callA (f := .c (.fn 58 [])) ?_ | with_reducible refine ro_callA' (f := .c (.fn 58 [])) ?_ | with_reducible refine ro_callV ?_ | with_reducible refine ro_callVX ?_ | with_reducible refine CallE_use (hc) (by simp) ?_ | ((first | refine GuardK_split ?_ ?_ | refine CondK_split ?_ ?_) <;> intro hc <;> (try simp only [hc]) <;> try simp at hc) | (with_reducible refine And.intro ?_ ?_; (focus ((repeat' (with_reducible refine And.intro ?_ ?_)) <;> first | exact trivial | assumption | (simp; done) | (simp only [List.length_map] at *; omega) | omega | (simp [D.cells, D.ok, D.one, D.pt, D.pt1]; done) | exact r8_sz))) | (with_reducible intro x hx) | omega) <;> (try simp only [Rd, hs, Nat.reduceBEq, argEnv, reduceIte, Nat.reduceAdd, reduceCtorEq, eqD, eqN, boolD, chkD, faddrD, loadD, splice, D.cells, D.ok, D.one, D.pt1, D.pt0, cond_true, mapO, pull, pull2, pull1, pull0, pullσ, pullOb, Go.Vi.freeze, capt, reachL, reachO, isin, merge, mset, renOb, D.ren, D.renL, ofRes, fw]))
 refine GcTo_own [0, 1, 2] (by rfl) (by simp) (by simp [keptW, ObKW, ObW, imp_self, D.pt1, D.pt0, pull, pull1, pull0, idx_hit, idx_miss, sucO_some, pullOb, or_false, mapO])
theorem numD_r (l : List UInt8) (rb cb : Bool) (sz : Nat) (R : List D) (j most : Nat) (hz : R.length = sz) (hj : j < sz) (hm : most < 4294967296) (hl : l.length ≤ 1099511627776) :
  CallG Try.prog 60 [.ptr 0 0 0 1, .ptr 2 0 j 1, .int .u64 most] [Cr 1 cb, Rd l rb, Va sz R] (.tup [])
   [Cr 1 cb, Rd (rdN most l rb).2.1 (rdN most l rb).2.2, Va sz (R.set j (.int .u32 (rdN most l rb).1))] := by
 refine callG Try.func60 low60 (by simp [c60]) ?_
 simp only [c60]
 have hc := readN_p l rb most _ rfl hl
 have hlt := rdN_lt most l rb (by omega)
 generalize rdN most l rb = r at hc hlt ⊢
 obtain ⟨v, rest, bad⟩ := r
 dsimp only at hc hlt ⊢
 have hs := spl1 (show j < R.length by omega) (.int .u32 (v : Int))
 repeat' ((first | apply Run_seq | apply Run_skip | apply Run_ret | apply Run_nil | apply Run_condK | apply Run_ops mixed | apply Run_opsX mixed | with_reducible refine PostG_open ?_ | with_reducible refine ro_callA (f := .c (.fn 58 [])) ?_ | with_reducible refine ro_callA' (f := .c (.fn 58 [])) ?_ | with_reducible refine ro_callV ?_ | with_reducible refine ro_callVX ?_ | with_reducible refine CallE_use (hc) (by simp) ?_ | simp (disch := omega) only [wu32] | ((first | refine GuardK_split ?_ ?_ | refine CondK_split ?_ ?_) <;> intro hc <;> (try simp only [hc]) <;> try simp at hc) | (with_reducible refine And.intro ?_ ?_; (focus ((repeat' (with_reducible refine And.intro ?_ ?_)) <;> first | exact trivial | assumption | (simp; done) | (simp only [List.length_map] at *; omega) | omega | (simp [D.cells, D.ok, D.one, D.pt, D.pt1]; done) | exact r8_sz))) | (with_reducible intro x hx) | omega) <;> (try simp only [Rd, hs, Nat.reduceBEq, argEnv, reduceIte, Nat.reduceAdd, reduceCtorEq, eqD, eqN, boolD, chkD, convD, faddrD, loadD, splice, D.cells, D.ok, D.one, D.pt1, D.pt0, cond_true, mapO, pull, pull2, pull1, pull0, pullσ, pullOb, Go.Vi.freeze, capt, reachL, reachO, isin, merge, mset, renOb, D.ren, D.renL, ofRes, fw]))
 refine GcTo_own [0, 1, 2] (by rfl) (by simp) (by simp [keptW, ObKW, ObW, imp_self, D.pt1, D.pt0, pull, pull1, pull0, idx_hit, idx_miss, sucO_some, pullOb, or_false, mapO])
theorem name_r (l : List UInt8) (rb cb : Bool) (sz : Nat) (R : List D) (j : Nat) (hz : R.length = sz) (hj : j < sz) (hl : l.length ≤ 1099511627776) :
  CallG Try.prog 33 [.ptr 0 0 0 1, .ptr 2 0 j 1] [Cr 1 cb, Rd l rb, Va sz R] (.tup [])
   [Cr 1 cb, Rd (rdN 4294967295 l rb).2.1 (rdN 4294967295 l rb).2.2, Va sz (R.set j (.int .u32 (rdN 4294967295 l rb).1))] := by
 refine callG Try.func33 low33 (by simp [c33]) ?_
 simp only [c33]
 have hn := numD_r l rb cb sz R j 4294967295 hz hj (by omega) hl
 generalize rdN 4294967295 l rb = r at hn ⊢
 repeat' ((first | apply Run_seq | apply Run_ret | apply Run_nil | apply Run_ops mixed | with_reducible refine PostG_open ?_ | with_reducible refine ro_callA (f := .c (.fn 60 [])) ?_ | with_reducible refine ro_callA' (f := .c (.fn 60 [])) ?_ | with_reducible refine ro_callV ?_ | with_reducible refine CallE_use (hn) (by simp) ?_ | (with_reducible refine And.intro ?_ ?_; (focus ((repeat' (with_reducible refine And.intro ?_ ?_)) <;> first | exact trivial | assumption | (simp; done) | (simp only [List.length_map] at *; omega) | omega | (simp [D.cells, D.ok, D.one, D.pt, D.pt1]; done) | exact r8_sz))) | (with_reducible intro x hx) | omega) <;> (try simp only [Rd, Nat.reduceBEq, argEnv, reduceIte, Nat.reduceEqDiff, Nat.reduceAdd, Nat.reduceSub, Nat.reduceLT, reduceCtorEq, D.pt1, D.pt0, mapO, pull, pull2, pull1, pull0, pullσ, pullOb, Go.Vi.freeze, capt, reachL, reachO, isin, merge, mset, renOb, fr, D.ren, D.renL, ofRes, fw]))
 refine GcTo_own [0, 1, 2] (by rfl) (by simp) (by simp [keptW, ObKW, ObW, imp_self, D.pt1, D.pt0, pull, pull1, pull0, idx_hit, idx_miss, sucO_some, pullOb, or_false, mapO])
end Go.Proofs.Ytgefljdclekadaa

namespace Go.Proofs.Ytgefljdclekadaa
open Go Go.Vi

def rowQ (l : List (Int × Int × Int)) : List (List D) := l.map fun x => [.int .u32 x.1, .int .u64 x.2.1, .int .u64 x.2.2]
theorem rowQ_len {l : List (Int × Int × Int)} : (rowQ l).length = l.length := by simp [rowQ]
def fTu (x : Int × Int) : Prop := Fit x.1 ∧ Fit x.2
def fSh (x : Int × Int × Int) : Prop := Fit x.1 ∧ Fit x.2.1 ∧ Fit x.2.2
def fOf (x : Int) : Prop := Fit x
def fSm (x : Int) : Prop := Fit x
def fDa (x : Int × Int) : Prop := Fit x.1 ∧ Fit x.2
def fEx (x : Int) : Prop := Fit x
def fPl (x : Int) : Prop := Fit x
def fCh (x : Int × Int × Int) : Prop := Fit x.1 ∧ Fit x.2.1 ∧ Fit x.2.2
def fMu (x : Int) : Prop := (0 ≤ x ∧ x ≤ 4294967295)
def fWa (x : Int × Int) : Prop := (0 ≤ x.1 ∧ x.1 ≤ 4294967295) ∧ Fit x.2
def fPa (x : Int × Int) : Prop := (0 ≤ x.1 ∧ x.1 ≤ 4294967295) ∧ (0 ≤ x.2 ∧ x.2 ≤ 4294967295)
end Go.Proofs.Ytgefljdclekadaa

namespace Go.Proofs.Ytgefljdclekadaa
open Go Go.Vi

/-- What is left of the bytes; whether the reader, or the coder, is bad. -/
structure Rs where
 l : List UInt8
 rb : Bool
 cb : Bool
def rqN (m : Nat) (s : Rs) : Nat × Rs := ((rdN m s.l s.rb).1, ⟨(rdN m s.l s.rb).2.1, (rdN m s.l s.rb).2.2, s.cb⟩)
theorem rqN_le (m : Nat) (hm : m < 18446744073709551616) (s : Rs) : (rqN m s).2.l.length ≤ s.l.length ∧ (rqN m s).1 ≤ m := by
 have := rdN_lt m s.l s.rb hm
 exact ⟨this.2, this.1⟩
end Go.Proofs.Ytgefljdclekadaa

namespace Go.Proofs.Ytgefljdclekadaa
open Go Go.Vi



def fZo (b : Int) (ts : List (Int × Int)) : Prop := Fit b ∧ ((ts.length ≤ 140737488351232 ∧ ∀ x ∈ ts, fTu x))
def fHs (ss : List (Int × Int × Int)) : Prop := (ss.length ≤ 140737488351232 ∧ ∀ x ∈ ss, fSh x)
def fSe (s : Se) : Prop := fZo s.base s.turns ∧ (fHs s.shifts ∧ ((s.off.length ≤ 140737488351232 ∧ ∀ x ∈ s.off, fOf x) ∧ (Fit s.before ∧ (Fit s.after))))
def fSs (xs : List Int) : Prop := (xs.length ≤ 140737488351232 ∧ ∀ x ∈ xs, fSm x)
def fRu (r : Ru) : Prop := Fit r.freq ∧ (Fit r.interval ∧ (Fit r.count ∧ (Fit r.til ∧ (fSs r.bm ∧ (fSs r.bmd ∧ ((r.bd.length ≤ 140737488351232 ∧ ∀ x ∈ r.bd, fDa x) ∧ (fSs r.bsp ∧ (Fit r.start))))))))
def fE0 (e : Ev) : Prop := Fit e.start ∧ (Fit e.long ∧ (True ∧ (True)))
def fE1 (e : Ev) : Prop := Fit e.start ∧ (Fit e.long ∧ (True ∧ (fRu e.rule ∧ ((e.ex.length ≤ 140737488351232 ∧ ∀ x ∈ e.ex, fEx x) ∧ ((e.plus.length ≤ 140737488351232 ∧ ∀ x ∈ e.plus, fPl x) ∧ ((e.ch.length ≤ 140737488351232 ∧ ∀ x ∈ e.ch, fCh x)))))))
def fEv (e : Ev) : Prop := fE0 e ∧ fE1 e
def fQu (q : Qu) : Prop := Fit q.a ∧ (Fit q.b ∧ (Fit q.long ∧ (Fit q.grid ∧ ((q.must.length ≤ 140737488351232 ∧ ∀ x ∈ q.must, fMu x) ∧ ((q.may.length ≤ 140737488351232 ∧ ∀ x ∈ q.may, fWa x) ∧ (Fit q.seats ∧ ((q.apart.length ≤ 140737488351232 ∧ ∀ x ∈ q.apart, fPa x) ∧ (fHs q.prefer))))))))
end Go.Proofs.Ytgefljdclekadaa

namespace Go.Proofs.Ytgefljdclekadaa
open Go Go.Vi

end Go.Proofs.Ytgefljdclekadaa

namespace Go.Proofs.Ytgefljdclekadaa
open Go Go.Vi

abbrev Ru0 : Ru := ⟨0, 0, 0, 0, [], [], [], [], 0⟩
end Go.Proofs.Ytgefljdclekadaa
