import Derived.Test.YtgefljdclekadaaGreatWMH
import Derived.Test.YtgefljdclekadaaGreatVi25
import Derived.Test.YtgefljdclekadaaGreatWMI
set_option linter.unusedVariables false
set_option linter.unusedSimpArgs false
set_option linter.unnecessarySimpa false
namespace Go.Proofs.YtgefljdclekadaaGreat
open Go Go.Vi



theorem numE_w (l : List UInt8) (bad : Bool) (sz : Nat) (R : List D) (j most : Nat) (x : Int) (hR : R[j]? = some (.int .i64 x)) (hx : Fit x) (hm : most < 18446744073709551616) (hl : l.length ≤ 1099511627776) :
  CallG Tryz.prog 52 [.ptr 0 0 0 1, .ptr 3 0 j 1, .int .u64 most] [Cw 1 bad, Ww 2 l.length, acc true 1 true (r8 l), Va sz R] (.tup [])
   [Cw 1 (bad || decide (most < uI x)), Ww 2 (l ++ num (uI x)).length, acc true 1 true (r8 (l ++ num (uI x))), Va sz R] := by
 refine callG Tryz.func52 low52 (by simp [c52]) ?_
 simp only [c52]
 have hu := uI_wrap x
 have hn := number_p l (uI x) (uI x) rfl (uI_lt x) hl
 have h10 := num_10 (uI_lt x)
 unfold Fit at hx
 cases bad
 ·simp only [Bool.false_or]
  by_cases hc : most < uI x
  ·have c1 : (((uI x : Nat) : Int) > ((most : Nat) : Int)) = True := by simp; omega
   rw [decide_eq_true hc]
   repeat' ((first | apply Run_seq | apply Run_skip | apply Run_ret | apply Run_nil | apply Run_condK | apply Run_ops mixed | apply Run_opsX mixed | (with_reducible first | refine PostG_open ?_ | refine ro_callA (f := .c (.fn 97 [])) ?_ | refine ro_callV ?_ | refine ro_callVX ?_ | refine CallE_use (hn) (by simp) ?_) | simp (disch := omega) only [w64, wu64, wu32, wu16, wu8, Int.tdiv_eq_ediv_of_nonneg, Int.tmod_eq_emod_of_nonneg] | ((first | refine GuardK_split ?_ ?_ | refine CondK_split ?_ ?_) <;> intro hc <;> (try simp only [hc]) <;> try simp at hc) | (with_reducible refine ⟨?_, ?_⟩; (focus ((repeat' with_reducible refine ⟨?_, ?_⟩) <;> first | exact trivial | assumption | (simp; done) | (simp only [List.length_map] at *; omega) | omega | (simp [fs]; done) | exact r8_sz))) | (with_reducible intro x hx) | omega) <;> (try simp only [Wr, hR, hu, c1, Nat.reduceBEq, reduceIte, Nat.reduceEqDiff, Nat.reduceAdd, Nat.reduceSub, reduceCtorEq, cond_true, cond_false, fw, fd]))
   refine GcTo_own [0, 1, 2, 3] (by rfl) (by simp) (by simp [fg])
  ·have c1 : (((uI x : Nat) : Int) > ((most : Nat) : Int)) = False := by simp; omega
   rw [decide_eq_false hc]
   repeat' ((first | apply Run_seq | apply Run_skip | apply Run_ret | apply Run_nil | apply Run_condK | apply Run_ops mixed | apply Run_opsX mixed | (with_reducible first | refine PostG_open ?_ | refine ro_callA (f := .c (.fn 97 [])) ?_ | refine ro_callV ?_ | refine ro_callVX ?_ | refine CallE_use (hn) (by simp) ?_) | simp (disch := omega) only [w64, wu64, wu32, wu16, wu8, Int.tdiv_eq_ediv_of_nonneg, Int.tmod_eq_emod_of_nonneg] | ((first | refine GuardK_split ?_ ?_ | refine CondK_split ?_ ?_) <;> intro hc <;> (try simp only [hc]) <;> try simp at hc) | (with_reducible refine ⟨?_, ?_⟩; (focus ((repeat' with_reducible refine ⟨?_, ?_⟩) <;> first | exact trivial | assumption | (simp; done) | (simp only [List.length_map] at *; omega) | omega | (simp [fs]; done) | exact r8_sz))) | (with_reducible intro x hx) | omega) <;> (try simp only [Wr, hR, hu, c1, Nat.reduceBEq, reduceIte, Nat.reduceEqDiff, Nat.reduceAdd, Nat.reduceSub, reduceCtorEq, cond_true, cond_false, fw, fd]))
   refine GcTo_own [0, 1, 2, 3] (by rfl) (by simp) (by simp [fg])
 ·simp only [Bool.true_or]
  repeat' ((first | apply Run_seq | apply Run_skip | apply Run_ret | apply Run_nil | apply Run_condK | apply Run_ops mixed | apply Run_opsX mixed | (with_reducible first | refine PostG_open ?_ | refine ro_callA (f := .c (.fn 97 [])) ?_ | refine ro_callV ?_ | refine ro_callVX ?_ | refine CallE_use (hn) (by simp) ?_) | simp (disch := omega) only [w64, wu64, wu32, wu16, wu8, Int.tdiv_eq_ediv_of_nonneg, Int.tmod_eq_emod_of_nonneg] | ((first | refine GuardK_split ?_ ?_ | refine CondK_split ?_ ?_) <;> intro hc <;> (try simp only [hc]) <;> try simp at hc) | (with_reducible refine ⟨?_, ?_⟩; (focus ((repeat' with_reducible refine ⟨?_, ?_⟩) <;> first | exact trivial | assumption | (simp; done) | (simp only [List.length_map] at *; omega) | omega | (simp [fs]; done) | exact r8_sz))) | (with_reducible intro x hx) | omega) <;> (try simp only [Wr, hR, hu, Nat.reduceBEq, reduceIte, Nat.reduceEqDiff, Nat.reduceAdd, Nat.reduceSub, reduceCtorEq, cond_true, fw, fd]))
  refine GcTo_own [0, 1, 2, 3] (by rfl) (by simp) (by simp [fg])
def eRe0 (r : Re) : List UInt8 := num (uI r.err) ++ (num (uI r.ver) ++ (eRow eSl r.slots ++ (tx8 r.cursor ++ (fl8 false))))
def xRe0 (r : Re) : Bool := decide (13 < uI r.err) || (xRow xSl 100 r.slots || (decide (64 < (r.cursor.size : Int))))
def fRe0 (r : Re) : Prop := Fit r.err ∧ ((0 ≤ r.ver ∧ r.ver ≤ 18446744073709551615) ∧ ((r.slots.length ≤ 140737488351232 ∧ ∀ x ∈ r.slots, fSl x) ∧ (r.cursor.size ≤ 1099511627776 ∧ (True))))
set_option maxHeartbeats 2000000 in
theorem cRe0_w (l : List UInt8) (bad : Bool) (sz : Nat) (R : List D) (j : Nat) (r : Re) (hi : r.po.id = 0) (hR4 : R[j + 4]? = some (.int .u32 r.po.id)) (hR0 : R[j]? = some (.int .i64 r.err)) (hR1 : R[j + 1]? = some (.int .u64 r.ver)) (hR2 : R[j + 2]? = some (L (row3 r.slots))) (hR3 : R[j + 3]? = some (.str r.cursor)) (hf : fRe0 r) (hl : (l ++ eRe0 r).length ≤ 1099511627776) :
  CallG Tryz.prog 20 [.ptr 0 0 0 1, .ptr 3 0 j 1] [Cw 1 bad, Ww 2 l.length, acc true 1 true (r8 l), Va sz R] (.tup [])
   [Cw 1 (bad || xRe0 r), Ww 2 (l ++ eRe0 r).length, acc true 1 true (r8 (l ++ eRe0 r)), Va sz R] := by
 refine callG Tryz.func20 low20 (by simp [c20]) ?_
 simp only [c20]
 unfold fRe0 at hf
 obtain ⟨l1, e1⟩ : ∃ l1, l1 = l ++ num (uI r.err) := ⟨_, rfl⟩
 obtain ⟨b1, d1⟩ : ∃ b1, b1 = (bad || decide (13 < uI r.err)) := ⟨_, rfl⟩
 obtain ⟨l2, e2⟩ : ∃ l2, l2 = l1 ++ num (uI r.ver) := ⟨_, rfl⟩
 obtain ⟨l3, e3⟩ : ∃ l3, l3 = l2 ++ eRow eSl r.slots := ⟨_, rfl⟩
 obtain ⟨b3, d3⟩ : ∃ b3, b3 = (b1 || xRow xSl 100 r.slots) := ⟨_, rfl⟩
 obtain ⟨l4, e4⟩ : ∃ l4, l4 = l3 ++ tx8 r.cursor := ⟨_, rfl⟩
 obtain ⟨b4, d4⟩ : ∃ b4, b4 = (b3 || decide (64 < (r.cursor.size : Int))) := ⟨_, rfl⟩
 obtain ⟨l5, e5⟩ : ∃ l5, l5 = l4 ++ fl8 false := ⟨_, rfl⟩
 have el : l ++ eRe0 r = l5 := by rw [e5, e4, e3, e2, e1]; simp only [eRe0, List.append_assoc]
 have eb : (bad || xRe0 r) = b4 := by rw [d4, d3, d1]; simp only [xRe0, Bool.or_assoc]
 rw [el] at hl
 rw [el, eb]
 have g4 : l4.length ≤ l5.length := by rw [e5, List.length_append]; omega
 have g3 : l3.length ≤ l4.length := by rw [e4, List.length_append]; omega
 have g2 : l2.length ≤ l3.length := by rw [e3, List.length_append]; omega
 have g1 : l1.length ≤ l2.length := by rw [e2, List.length_append]; omega
 have g0 : l.length ≤ l1.length := by rw [e1, List.length_append]; omega
 have h1 := numE_w l bad sz R j 13 r.err hR0 hf.1 (by omega) (by omega)
 rw [← e1, ← d1] at h1
 have h2 := big_w l1 b1 sz R (j + 1) r.ver hR1 hf.2.1 (by omega)
 rw [← e2] at h2
 have h3 := rowSl_w l2 b1 sz R (j + 2) 100 r.slots hR2 (by omega) hf.2.2.1.1 hf.2.2.1.2 (by rw [← e3]; omega)
 rw [← e3, ← d3] at h3
 have h4 := text_w l3 b3 sz R (j + 3) r.cursor 64 hR3 hf.2.2.2.1 (by omega)
 rw [← e4, ← d4] at h4
 have h5 := flag_w l4 b4 1 [.bool false] 0 false rfl (by omega)
 rw [← e5] at h5
 clear e1 e2 e3 e4 e5 d1 d3 d4 el eb
 rw [hi] at hR4
 have u0 : ((0 : Int) != 0) = false := rfl
 repeat' ((first | apply Run_seq | apply Run_skip | apply Run_ret | apply Run_nil | apply Run_condK | apply Run_ops mixed | apply Run_opsX mixed | (with_reducible first | refine PostG_open ?_ | refine ro_callA (f := .c (.fn 52 [])) ?_ | refine ro_callA (f := .c (.fn 53 [])) ?_ | refine ro_callE (f := .c (.fn 54 [])) (z := []) (q := [0, 1, 2, 3, 4]) ?_ | refine ro_callE' (f := .c (.fn 54 [])) (z := []) (q := [0, 1, 2, 3, 4]) ?_ | refine ro_callA (f := .c (.fn 58 [])) ?_ | refine ro_callA' (f := .c (.fn 59 [])) ?_ | refine ro_callV ?_ | refine ro_callVX ?_ | refine CallE_use (h1) (by simp) ?_ | refine CallE_use (h2) (by simp) ?_ | refine CallE_use (h3) (by simp) ?_ | refine CallE_use (h4) (by simp) ?_ | refine CallE_use (h5) (by simp) ?_) | ((first | refine GuardK_split ?_ ?_ | refine CondK_split ?_ ?_) <;> intro hc <;> (try simp only [hc]) <;> try simp at hc) | (with_reducible refine ⟨?_, ?_⟩; (focus ((repeat' with_reducible refine ⟨?_, ?_⟩) <;> first | exact trivial | assumption | (simp; done) | (simp only [List.length_map] at *; omega) | omega | (simp [fs]; done) | exact r8_sz))) | (with_reducible intro x hx) | omega) <;> (try simp only [hR4, u0, Nat.reduceBEq, reduceIte, Nat.reduceEqDiff, Nat.reduceAdd, Nat.reduceSub, Nat.reduceLT, reduceCtorEq, ne_eq, fw, fd]))
 refine GcTo_own [0, 1, 2, 3] (by rfl) (by simp) (by simp [fg])
def eRe1 (r : Re) : List UInt8 := num (uI r.err) ++ (num (uI r.ver) ++ (eRow eSl r.slots ++ (tx8 r.cursor ++ (fl8 true ++ (ePo r.po)))))
def xRe1 (r : Re) : Bool := decide (13 < uI r.err) || (xRow xSl 100 r.slots || (decide (64 < (r.cursor.size : Int)) || (xPo r.po)))
def fRe1 (r : Re) : Prop := Fit r.err ∧ ((0 ≤ r.ver ∧ r.ver ≤ 18446744073709551615) ∧ ((r.slots.length ≤ 140737488351232 ∧ ∀ x ∈ r.slots, fSl x) ∧ (r.cursor.size ≤ 1099511627776 ∧ (True ∧ (fPo r.po)))))
set_option maxHeartbeats 2000000 in
theorem cRe1_w (l : List UInt8) (bad : Bool) (sz : Nat) (R : List D) (j : Nat) (r : Re) (hu : (r.po.id == 0) = false) (hR0 : R[j]? = some (.int .i64 r.err)) (hR1 : R[j + 1]? = some (.int .u64 r.ver)) (hR2 : R[j + 2]? = some (L (row3 r.slots))) (hR3 : R[j + 3]? = some (.str r.cursor)) (hR4 : R[j + 4]? = some (.int .u32 r.po.id)) (hR5 : R[j + 5]? = some (.int .u32 r.po.owner)) (hR6 : R[j + 6]? = some (.int .i64 r.po.qu.a)) (hR7 : R[j + 7]? = some (.int .i64 r.po.qu.b)) (hR8 : R[j + 8]? = some (.int .i64 r.po.qu.long)) (hR9 : R[j + 9]? = some (.int .i64 r.po.qu.grid)) (hR10 : R[j + 10]? = some (L (row1 .u32 r.po.qu.must))) (hR11 : R[j + 11]? = some (L (row2 .u32 .i64 r.po.qu.may))) (hR12 : R[j + 12]? = some (.int .i64 r.po.qu.seats)) (hR13 : R[j + 13]? = some (L (row2 .u32 .u32 r.po.qu.apart))) (hR14 : R[j + 14]? = some (L (row3 r.po.qu.prefer))) (hR15 : R[j + 15]? = some (L (row1 .i64 r.po.slots))) (hR16 : R[j + 16]? = some (L (row2 .u32 .i64 r.po.votes))) (hR17 : R[j + 17]? = some (.int .i64 r.po.til)) (hR18 : R[j + 18]? = some (.int .i64 r.po.state)) (hR19 : R[j + 19]? = some (.int .i64 r.po.winner)) (hf : fRe1 r) (hl : (l ++ eRe1 r).length ≤ 1099511627776) :
  CallG Tryz.prog 20 [.ptr 0 0 0 1, .ptr 3 0 j 1] [Cw 1 bad, Ww 2 l.length, acc true 1 true (r8 l), Va sz R] (.tup [])
   [Cw 1 (bad || xRe1 r), Ww 2 (l ++ eRe1 r).length, acc true 1 true (r8 (l ++ eRe1 r)), Va sz R] := by
 refine callG Tryz.func20 low20 (by simp [c20]) ?_
 simp only [c20]
 unfold fRe1 at hf
 obtain ⟨l1, e1⟩ : ∃ l1, l1 = l ++ num (uI r.err) := ⟨_, rfl⟩
 obtain ⟨b1, d1⟩ : ∃ b1, b1 = (bad || decide (13 < uI r.err)) := ⟨_, rfl⟩
 obtain ⟨l2, e2⟩ : ∃ l2, l2 = l1 ++ num (uI r.ver) := ⟨_, rfl⟩
 obtain ⟨l3, e3⟩ : ∃ l3, l3 = l2 ++ eRow eSl r.slots := ⟨_, rfl⟩
 obtain ⟨b3, d3⟩ : ∃ b3, b3 = (b1 || xRow xSl 100 r.slots) := ⟨_, rfl⟩
 obtain ⟨l4, e4⟩ : ∃ l4, l4 = l3 ++ tx8 r.cursor := ⟨_, rfl⟩
 obtain ⟨b4, d4⟩ : ∃ b4, b4 = (b3 || decide (64 < (r.cursor.size : Int))) := ⟨_, rfl⟩
 obtain ⟨l5, e5⟩ : ∃ l5, l5 = l4 ++ fl8 true := ⟨_, rfl⟩
 obtain ⟨l6, e6⟩ : ∃ l6, l6 = l5 ++ ePo r.po := ⟨_, rfl⟩
 obtain ⟨b6, d6⟩ : ∃ b6, b6 = (b4 || xPo r.po) := ⟨_, rfl⟩
 have el : l ++ eRe1 r = l6 := by rw [e6, e5, e4, e3, e2, e1]; simp only [eRe1, List.append_assoc]
 have eb : (bad || xRe1 r) = b6 := by rw [d6, d4, d3, d1]; simp only [xRe1, Bool.or_assoc]
 rw [el] at hl
 rw [el, eb]
 have g5 : l5.length ≤ l6.length := by rw [e6, List.length_append]; omega
 have g4 : l4.length ≤ l5.length := by rw [e5, List.length_append]; omega
 have g3 : l3.length ≤ l4.length := by rw [e4, List.length_append]; omega
 have g2 : l2.length ≤ l3.length := by rw [e3, List.length_append]; omega
 have g1 : l1.length ≤ l2.length := by rw [e2, List.length_append]; omega
 have g0 : l.length ≤ l1.length := by rw [e1, List.length_append]; omega
 have h1 := numE_w l bad sz R j 13 r.err hR0 hf.1 (by omega) (by omega)
 rw [← e1, ← d1] at h1
 have h2 := big_w l1 b1 sz R (j + 1) r.ver hR1 hf.2.1 (by omega)
 rw [← e2] at h2
 have h3 := rowSl_w l2 b1 sz R (j + 2) 100 r.slots hR2 (by omega) hf.2.2.1.1 hf.2.2.1.2 (by rw [← e3]; omega)
 rw [← e3, ← d3] at h3
 have h4 := text_w l3 b3 sz R (j + 3) r.cursor 64 hR3 hf.2.2.2.1 (by omega)
 rw [← e4, ← d4] at h4
 have h5 := flag_w l4 b4 1 [.bool true] 0 true rfl (by omega)
 rw [← e5] at h5
 have h6 := cPo_w l5 b4 sz R (j + 4) r.po hR4 hR5 hR6 hR7 hR8 hR9 hR10 hR11 hR12 hR13 hR14 hR15 hR16 hR17 hR18 hR19 hf.2.2.2.2.2 (by rw [← e6]; omega)
 rw [← e6, ← d6] at h6
 clear e1 e2 e3 e4 e5 e6 d1 d3 d4 d6 el eb
 have u0 : (r.po.id != 0) = true := by rw [bne, hu]; rfl
 cases b6
 ·repeat' ((first | apply Run_seq | apply Run_skip | apply Run_ret | apply Run_nil | apply Run_condK | apply Run_ops mixed | apply Run_opsX mixed | (with_reducible first | refine PostG_open ?_ | refine ro_callA (f := .c (.fn 52 [])) ?_ | refine ro_callA (f := .c (.fn 53 [])) ?_ | refine ro_callE (f := .c (.fn 54 [])) (z := []) (q := [0, 1, 2, 3, 4]) ?_ | refine ro_callE' (f := .c (.fn 54 [])) (z := []) (q := [0, 1, 2, 3, 4]) ?_ | refine ro_callA (f := .c (.fn 58 [])) ?_ | refine ro_callA' (f := .c (.fn 59 [])) ?_ | refine ro_callA (f := .c (.fn 60 [])) ?_ | refine ro_callV ?_ | refine ro_callVX ?_ | refine CallE_use (h1) (by simp) ?_ | refine CallE_use (h2) (by simp) ?_ | refine CallE_use (h3) (by simp) ?_ | refine CallE_use (h4) (by simp) ?_ | refine CallE_use (h5) (by simp) ?_ | refine CallE_use (h6) (by simp) ?_) | ((first | refine GuardK_split ?_ ?_ | refine CondK_split ?_ ?_) <;> intro hc <;> (try simp only [hc]) <;> try simp at hc) | (with_reducible refine ⟨?_, ?_⟩; (focus ((repeat' with_reducible refine ⟨?_, ?_⟩) <;> first | exact trivial | assumption | (simp; done) | (simp only [List.length_map] at *; omega) | omega | (simp [fs]; done) | exact r8_sz))) | (with_reducible intro x hx) | omega) <;> (try simp only [hR4, hu, u0, Nat.reduceBEq, reduceIte, Nat.reduceEqDiff, Nat.reduceAdd, Nat.reduceSub, Nat.reduceLT, reduceCtorEq, cond_false, ne_eq, fw, fd]))
  refine GcTo_own [0, 1, 2, 3] (by rfl) (by simp) (by simp [fg])
 ·repeat' ((first | apply Run_seq | apply Run_skip | apply Run_ret | apply Run_nil | apply Run_condK | apply Run_ops mixed | apply Run_opsX mixed | (with_reducible first | refine PostG_open ?_ | refine ro_callA (f := .c (.fn 52 [])) ?_ | refine ro_callA (f := .c (.fn 53 [])) ?_ | refine ro_callE (f := .c (.fn 54 [])) (z := []) (q := [0, 1, 2, 3, 4]) ?_ | refine ro_callE' (f := .c (.fn 54 [])) (z := []) (q := [0, 1, 2, 3, 4]) ?_ | refine ro_callA (f := .c (.fn 58 [])) ?_ | refine ro_callA' (f := .c (.fn 59 [])) ?_ | refine ro_callA (f := .c (.fn 60 [])) ?_ | refine ro_callV ?_ | refine ro_callVX ?_ | refine CallE_use (h1) (by simp) ?_ | refine CallE_use (h2) (by simp) ?_ | refine CallE_use (h3) (by simp) ?_ | refine CallE_use (h4) (by simp) ?_ | refine CallE_use (h5) (by simp) ?_ | refine CallE_use (h6) (by simp) ?_) | ((first | refine GuardK_split ?_ ?_ | refine CondK_split ?_ ?_) <;> intro hc <;> (try simp only [hc]) <;> try simp at hc) | (with_reducible refine ⟨?_, ?_⟩; (focus ((repeat' with_reducible refine ⟨?_, ?_⟩) <;> first | exact trivial | assumption | (simp; done) | (simp only [List.length_map] at *; omega) | omega | (simp [fs]; done) | exact r8_sz))) | (with_reducible intro x hx) | omega) <;> (try simp only [hR4, u0, Nat.reduceBEq, reduceIte, Nat.reduceEqDiff, Nat.reduceAdd, Nat.reduceSub, Nat.reduceLT, reduceCtorEq, cond_true, ne_eq, fw, fd]))
  refine GcTo_own [0, 1, 2, 3] (by rfl) (by simp) (by simp [fg])
structure fRe (r : Re) : Prop where
 err : Fit r.err
 ver : 0 ≤ r.ver ∧ r.ver ≤ 18446744073709551615
 slots : r.slots.length ≤ 140737488351232 ∧ ∀ x ∈ r.slots, fSl x
 cursor : r.cursor.size ≤ 1099511627776
 po : fPo r.po
def eRe (r : Re) : List UInt8 := if r.po.id = 0 then eRe0 r else eRe1 r
def xRe (r : Re) : Bool := if r.po.id = 0 then xRe0 r else xRe1 r
theorem reply_w (l : List UInt8) (bad : Bool) (r : Re) (hf : fRe r) (hl : (l ++ eRe r).length ≤ 1099511627776) :
  CallG Tryz.prog 20 [.ptr 0 0 0 1, .ptr 3 0 0 1] [Cw 1 bad, Ww 2 l.length, acc true 1 true (r8 l), Va 20 r.cells] (.tup [])
   [Cw 1 (bad || xRe r), Ww 2 (l ++ eRe r).length, acc true 1 true (r8 (l ++ eRe r)), Va 20 r.cells] := by
 unfold eRe xRe
 unfold eRe at hl
 by_cases k : r.po.id = 0
 ·rw [if_pos k] at hl ⊢
  rw [if_pos k]
  exact cRe0_w l bad 20 r.cells 0 r k rfl rfl rfl rfl rfl ⟨hf.err, hf.ver, hf.slots, hf.cursor, trivial⟩ hl
 ·rw [if_neg k] at hl ⊢
  rw [if_neg k]
  exact cRe1_w l bad 20 r.cells 0 r (beq_eq_false_iff_ne.2 k) rfl rfl rfl rfl rfl rfl rfl rfl rfl rfl rfl rfl rfl rfl rfl rfl rfl rfl rfl rfl ⟨hf.err, hf.ver, hf.slots, hf.cursor, trivial, hf.po⟩ hl
end Go.Proofs.YtgefljdclekadaaGreat

namespace Go.Proofs.YtgefljdclekadaaGreat
open Go Go.Vi



theorem numE_r (l : List UInt8) (rb cb : Bool) (sz : Nat) (R : List D) (j most : Nat) (hz : R.length = sz) (hj : j < sz) (hm : most < 9223372036854775808) (hl : l.length ≤ 1099511627776) :
  CallG Tryz.prog 52 [.ptr 0 0 0 1, .ptr 2 0 j 1, .int .u64 most] [Cr 1 cb, Rd l rb, Va sz R] (.tup [])
   [Cr 1 cb, Rd (rdN most l rb).2.1 (rdN most l rb).2.2, Va sz (R.set j (.int .i64 (rdN most l rb).1))] := by
 refine callG Tryz.func52 low52 (by simp [c52]) ?_
 simp only [c52]
 have hc := readN_p l rb most _ rfl hl
 have hlt := rdN_lt most l rb (by omega)
 generalize rdN most l rb = r at hc hlt ⊢
 obtain ⟨v, rest, bad⟩ := r
 dsimp only at hc hlt ⊢
 have hs := spl1 (show j < R.length by omega) (.int .i64 (v : Int))
 repeat' ((first | apply Run_seq | apply Run_skip | apply Run_ret | apply Run_nil | apply Run_condK | apply Run_ops mixed | apply Run_opsX mixed | (with_reducible first | refine PostG_open ?_ | refine ro_callA' (f := .c (.fn 96 [])) ?_ | refine ro_callV ?_ | refine ro_callVX ?_ | refine CallE_use (hc) (by simp) ?_) | simp (disch := omega) only [w64] | ((first | refine GuardK_split ?_ ?_ | refine CondK_split ?_ ?_) <;> intro hc <;> (try simp only [hc]) <;> try simp at hc) | (with_reducible refine ⟨?_, ?_⟩; (focus ((repeat' with_reducible refine ⟨?_, ?_⟩) <;> first | exact trivial | assumption | (simp; done) | (simp only [List.length_map] at *; omega) | omega | (simp [fs]; done) | exact r8_sz))) | (with_reducible intro x hx) | omega) <;> (try simp only [hs, Nat.reduceBEq, reduceIte, Nat.reduceAdd, reduceCtorEq, cond_true, fw, fd]))
 refine GcTo_own [0, 1, 2] (by rfl) (by simp) (by simp [fg])
def Z20 : List D := [.int .i64 0, .int .u64 0, .list (some true) true [], .str (ByteArray.mk (Array.mk [])), .int .u32 0, .int .u32 0, .int .i64 0, .int .i64 0, .int .i64 0, .int .i64 0, .list (some true) true [], .list (some true) true [], .int .i64 0, .list (some true) true [], .list (some true) true [], .list (some true) true [], .list (some true) true [], .int .i64 0, .int .i64 0, .int .i64 0]
def Po0 : Po := ⟨0, 0, ⟨0, 0, 0, 0, [], [], 0, [], []⟩, [], [], 0, 0, 0⟩
def rReT (v1 v2 : Nat) (v3 : List (Int × Int × Int)) (v4 : ByteArray) (s5 : Rs) : Re × Rs :=
 match rPo s5 with
 | (v6, s6) =>
 (⟨v1, v2, v3, v4, v6⟩, ⟨s6.l, s6.rb, s6.cb || decide (v6.id = 0)⟩)
def rRe (s : Rs) : Re × Rs :=
 match rqN 13 s with
 | (v1, s1) =>
 match rqN 18446744073709551615 s1 with
 | (v2, s2) =>
 match rRow rSl 100 s2 with
 | (v3, s3) =>
 match rqT 64 s3 with
 | (v4, s4) =>
 match rqF s4 with
 | (v5, s5) =>
 if v5 = true then rReT v1 v2 v3 v4 s5 else (⟨v1, v2, v3, v4, Po0⟩, s5)
set_option maxHeartbeats 8000000 in
theorem reply_r (s : Rs) (hl : s.l.length ≤ 1099511627776) : ∃ R', R'.map nl1 = (rRe s).1.cells ∧
  CallG Tryz.prog 20 [.ptr 0 0 0 1, .ptr 2 0 0 1] [Cr 1 s.cb, Rd s.l s.rb, Va 20 Z20] (.tup [])
   [Cr 1 (rRe s).2.cb, Rd (rRe s).2.l (rRe s).2.rb, Va 20 R'] := by
 unfold rRe
 obtain ⟨R, eR⟩ : ∃ R, R = Z20 := ⟨_, rfl⟩
 rw [← eR]
 have hN2 : R[2]? = some (.list (some true) true []) := by subst eR; rfl
 have hN10 : R[10]? = some (.list (some true) true []) := by subst eR; rfl
 have hN11 : R[11]? = some (.list (some true) true []) := by subst eR; rfl
 have hN13 : R[13]? = some (.list (some true) true []) := by subst eR; rfl
 have hN14 : R[14]? = some (.list (some true) true []) := by subst eR; rfl
 have hN15 : R[15]? = some (.list (some true) true []) := by subst eR; rfl
 have hN16 : R[16]? = some (.list (some true) true []) := by subst eR; rfl
 have hI : R[4]? = some (.int .u32 0) := by subst eR; rfl
 have z0 : R.length = 20 := by subst eR; rfl
 have k0 : ∀ x : Nat, True → R[x]? = R[x]? := fun _ _ => rfl
 have g1 := (rqN_le 13 (by omega) s).1
 have h1 : CallG Tryz.prog 52 [.ptr 0 0 0 1, .ptr 2 0 0 1, .int .u64 13] [Cr 1 s.cb, Rd s.l s.rb, Va 20 R] (.tup []) [Cr 1 (rqN 13 s).2.cb, Rd (rqN 13 s).2.l (rqN 13 s).2.rb, Va 20 (R.set 0 (.int .i64 (((rqN 13 s).1 : Nat) : Int)))] := numE_r s.l s.rb s.cb 20 R 0 13 (by omega) (by omega) (by omega) (by omega)
 generalize rqN 13 s = q1 at h1 g1 ⊢
 obtain ⟨v1, s1⟩ := q1
 dsimp only at h1 g1 ⊢
 obtain ⟨R1, e1⟩ : ∃ R1, R1 = R.set 0 (.int .i64 ((v1 : Nat) : Int)) := ⟨_, rfl⟩
 rw [← e1] at h1
 have z1 : R1.length = 20 := by rw [e1, List.length_set] <;> exact z0
 have k1 : ∀ x : Nat, x ≠ 0 → R1[x]? = R[x]? := fun x hx => by rw [e1, List.getElem?_set_ne (by omega)] <;> exact k0 x (by omega)
 have g2 := (rqN_le 18446744073709551615 (by omega) s1).1
 have h2 : CallG Tryz.prog 53 [.ptr 0 0 0 1, .ptr 2 0 1 1, .int .u64 18446744073709551615] [Cr 1 s1.cb, Rd s1.l s1.rb, Va 20 R1] (.tup []) [Cr 1 (rqN 18446744073709551615 s1).2.cb, Rd (rqN 18446744073709551615 s1).2.l (rqN 18446744073709551615 s1).2.rb, Va 20 (R1.set 1 (.int .u64 (((rqN 18446744073709551615 s1).1 : Nat) : Int)))] := numQ_r s1.l s1.rb s1.cb 20 R1 1 18446744073709551615 (by omega) (by omega) (by omega) (by omega)
 generalize rqN 18446744073709551615 s1 = q2 at h2 g2 ⊢
 obtain ⟨v2, s2⟩ := q2
 dsimp only at h2 g2 ⊢
 obtain ⟨R2, e2⟩ : ∃ R2, R2 = R1.set 1 (.int .u64 ((v2 : Nat) : Int)) := ⟨_, rfl⟩
 rw [← e2] at h2
 have z2 : R2.length = 20 := by rw [e2, List.length_set] <;> exact z1
 have k2 : ∀ x : Nat, x ≠ 0 ∧ x ≠ 1 → R2[x]? = R[x]? := fun x hx => by rw [e2, List.getElem?_set_ne (by omega)] <;> exact k1 x (by omega)
 have g3 := rRow_le rSl_le 100 (by omega) s2
 have h3 : CallG Tryz.prog 54 [.ptr 0 0 0 1, .ptr 2 0 2 1, .int .i64 100, .fn 55 [.ptr 3 0 0 1]] [Cr 1 s2.cb, Rd s2.l s2.rb, Va 20 R2, Bx 0] (.tup []) [Cr 1 (rRow rSl 100 s2).2.cb, Rd (rRow rSl 100 s2).2.l (rRow rSl 100 s2).2.rb, Va 20 (R2.set 2 (L (row3 (rRow rSl 100 s2).1))), Bx 0] := rowSl_r s2 20 R2 2 100 (by rw [k2 _ (by omega)]; exact hN2) (by omega) (by omega) (by omega)
 generalize rRow rSl 100 s2 = q3 at h3 g3 ⊢
 obtain ⟨v3, s3⟩ := q3
 dsimp only at h3 g3 ⊢
 obtain ⟨R3, e3⟩ : ∃ R3, R3 = R2.set 2 (L (row3 v3)) := ⟨_, rfl⟩
 rw [← e3] at h3
 have z3 : R3.length = 20 := by rw [e3, List.length_set] <;> exact z2
 have k3 : ∀ x : Nat, x ≠ 0 ∧ x ≠ 1 ∧ x ≠ 2 → R3[x]? = R[x]? := fun x hx => by rw [e3, List.getElem?_set_ne (by omega)] <;> exact k2 x (by omega)
 have g4 := rqT_le 64 (by omega) s3
 have h4 : CallG Tryz.prog 58 [.ptr 0 0 0 1, .ptr 2 0 3 1, .int .i64 64] [Cr 1 s3.cb, Rd s3.l s3.rb, Va 20 R3] (.tup []) [Cr 1 (rqT 64 s3).2.cb, Rd (rqT 64 s3).2.l (rqT 64 s3).2.rb, Va 20 (R3.set 3 (.str (rqT 64 s3).1))] := text_r s3.l s3.rb s3.cb 20 R3 3 64 (by omega) (by omega) (by omega) (by omega)
 generalize rqT 64 s3 = q4 at h4 g4 ⊢
 obtain ⟨v4, s4⟩ := q4
 dsimp only at h4 g4 ⊢
 obtain ⟨R4, e4⟩ : ∃ R4, R4 = R3.set 3 (.str v4) := ⟨_, rfl⟩
 rw [← e4] at h4
 have z4 : R4.length = 20 := by rw [e4, List.length_set] <;> exact z3
 have k4 : ∀ x : Nat, x ≠ 0 ∧ x ≠ 1 ∧ x ≠ 2 ∧ x ≠ 3 → R4[x]? = R[x]? := fun x hx => by rw [e4, List.getElem?_set_ne (by omega)] <;> exact k3 x (by omega)
 have g5 := rqF_le s4
 have h5 : CallG Tryz.prog 59 [.ptr 0 0 0 1, .ptr 2 0 0 1] [Cr 1 s4.cb, Rd s4.l s4.rb, Va 1 [.bool false]] (.tup []) [Cr 1 (rqF s4).2.cb, Rd (rqF s4).2.l (rqF s4).2.rb, Va 1 [.bool (rqF s4).1]] := flag_r s4.l s4.rb s4.cb 1 [.bool false] 0 rfl (by omega) (by omega)
 generalize rqF s4 = q5 at h5 g5 ⊢
 obtain ⟨v5, s5⟩ := q5
 dsimp only at h5 g5 ⊢
 have u0 : ((0 : Int) != 0) = false := rfl
 have hI4 : R4[4]? = some (.int .u32 0) := by rw [k4 _ (by omega)]; exact hI
 cases v5
 ·simp only [Bool.false_eq_true, reduceIte]
  refine ⟨R4, ?_, ?_⟩
  ·rw [e4, e3, e2, e1, eR]
   rfl
  clear eR e1 e2 e3 e4 z1 z2 z3 z4 k0 k1 k2 k3 k4
  refine callG Tryz.func20 low20 (by simp [c20]) ?_
  simp only [c20]
  repeat' ((first | apply Run_seq | apply Run_skip | apply Run_ret | apply Run_nil | apply Run_condK | apply Run_ops mixed | apply Run_opsX mixed | (with_reducible first | refine PostG_open ?_ | refine ro_callA (f := .c (.fn 52 [])) ?_ | refine ro_callA (f := .c (.fn 53 [])) ?_ | refine ro_callE (f := .c (.fn 54 [])) (z := []) (q := [0, 1, 2, 3]) ?_ | refine ro_callE' (f := .c (.fn 54 [])) (z := []) (q := [0, 1, 2, 3]) ?_ | refine ro_callA (f := .c (.fn 58 [])) ?_ | refine ro_callA' (f := .c (.fn 59 [])) ?_ | refine ro_callV ?_ | refine ro_callVX ?_ | refine CallE_use (h1) (by simp) ?_ | refine CallE_use (h2) (by simp) ?_ | refine CallE_use (h3) (by simp) ?_ | refine CallE_use (h4) (by simp) ?_ | refine CallE_use (h5) (by simp) ?_) | ((first | refine GuardK_split ?_ ?_ | refine CondK_split ?_ ?_) <;> intro hc <;> (try simp only [hc]) <;> try simp at hc) | (with_reducible refine ⟨?_, ?_⟩; (focus ((repeat' with_reducible refine ⟨?_, ?_⟩) <;> first | exact trivial | assumption | (simp; done) | (simp only [List.length_map] at *; omega) | omega | (simp [fs]; done) | exact r8_sz))) | (with_reducible intro x hx) | omega) <;> (try simp only [hI4, u0, Nat.reduceBEq, reduceIte, Nat.reduceEqDiff, Nat.reduceAdd, Nat.reduceSub, Nat.reduceLT, reduceCtorEq, ne_eq, fw, fd]))
  refine GcTo_own [0, 1, 2] (by rfl) (by simp) (by simp [fg])
 ·simp only [reduceIte]
  unfold rReT
  have g6 := rPo_le s5
  have h6 : CallG Tryz.prog 60 [.ptr 0 0 0 1, .ptr 2 0 4 1] [Cr 1 s5.cb, Rd s5.l s5.rb, Va 20 R4] (.tup []) [Cr 1 (rPo s5).2.cb, Rd (rPo s5).2.l (rPo s5).2.rb, Va 20 (setL R4 4 (rPo s5).1.row)] := cPo_r s5 20 R4 4 (by rw [k4 _ (by omega)]; exact hN10) (by rw [k4 _ (by omega)]; exact hN11) (by rw [k4 _ (by omega)]; exact hN13) (by rw [k4 _ (by omega)]; exact hN14) (by rw [k4 _ (by omega)]; exact hN15) (by rw [k4 _ (by omega)]; exact hN16) (by omega) (by omega) (by omega)
  generalize rPo s5 = q6 at h6 g6 ⊢
  obtain ⟨v6, s6⟩ := q6
  dsimp only at h6 g6 ⊢
  obtain ⟨R5, e5⟩ : ∃ R5, R5 = setL R4 4 v6.row := ⟨_, rfl⟩
  rw [← e5] at h6
  have hI5 : R5[4]? = some (.int .u32 v6.id) := by rw [e5, e4, e3, e2, e1, eR]; rfl
  refine ⟨R5, ?_, ?_⟩
  ·rw [e5, e4, e3, e2, e1, eR]
   rfl
  clear eR e1 e2 e3 e4 e5 z1 z2 z3 z4 k0 k1 k2 k3 k4
  refine callG Tryz.func20 low20 (by simp [c20]) ?_
  simp only [c20]
  have hd : (v6.id == 0) = decide (v6.id = 0) := by rw [Bool.eq_iff_iff]; simp
  generalize decide (v6.id = 0) = d at hd ⊢
  generalize s6.cb = c6 at h6 ⊢
  repeat' ((first | apply Run_seq | apply Run_skip | apply Run_ret | apply Run_nil | apply Run_condK | apply Run_ops mixed | apply Run_opsX mixed | (with_reducible first | refine PostG_open ?_ | refine ro_callA (f := .c (.fn 52 [])) ?_ | refine ro_callA (f := .c (.fn 53 [])) ?_ | refine ro_callE (f := .c (.fn 54 [])) (z := []) (q := [0, 1, 2, 3]) ?_ | refine ro_callE' (f := .c (.fn 54 [])) (z := []) (q := [0, 1, 2, 3]) ?_ | refine ro_callA (f := .c (.fn 58 [])) ?_ | refine ro_callA' (f := .c (.fn 59 [])) ?_ | refine ro_callA (f := .c (.fn 60 [])) ?_ | refine ro_callV ?_ | refine ro_callVX ?_ | refine CallE_use (h1) (by simp) ?_ | refine CallE_use (h2) (by simp) ?_ | refine CallE_use (h3) (by simp) ?_ | refine CallE_use (h4) (by simp) ?_ | refine CallE_use (h5) (by simp) ?_ | refine CallE_use (h6) (by simp) ?_) | ((first | refine GuardK_split ?_ ?_ | refine CondK_split ?_ ?_) <;> intro hc <;> (try simp only [hc]) <;> try simp at hc) | (with_reducible refine ⟨?_, ?_⟩; (focus ((repeat' with_reducible refine ⟨?_, ?_⟩) <;> first | exact trivial | assumption | (simp; done) | (simp only [List.length_map] at *; omega) | omega | (simp [fs]; done) | exact r8_sz))) | (with_reducible intro x hx) | omega) <;> (try simp only [hI4, hI5, hd, u0, Nat.reduceBEq, reduceIte, Nat.reduceEqDiff, Nat.reduceAdd, Nat.reduceSub, Nat.reduceLT, reduceCtorEq, cond_true, cond_false, ne_eq, fw, fd]))
  all_goals (try simp only [Bool.true_or, Bool.false_or])
  ·refine GcTo_own [0, 1, 2] (by rfl) (by simp) (by simp [fg])
  ·refine GcTo_own [0, 1, 2] (by rfl) (by simp) (by simp [fg])
end Go.Proofs.YtgefljdclekadaaGreat

namespace Go.Proofs.YtgefljdclekadaaGreat
open Go Go.Vi



def gOkR (q : Re × Rs) (b : List UInt8) : Bool := !q.2.cb && (!q.2.rb && q.2.l.isEmpty) && decide (b.length ≤ 65536)
def Rz : Re := ⟨0, 0, [], ⟨Array.mk []⟩, Po0⟩
def getAnsR (b : List UInt8) : D := .tup [.agg (if gOkR (rRe ⟨b, false, false⟩) b = true then (rRe ⟨b, false, false⟩).1.cells else Rz.cells), .bool (gOkR (rRe ⟨b, false, false⟩) b)]
theorem getReply_p (b : List UInt8) (hl : b.length ≤ 1099511627776) : PureD Tryz.prog 9 [.list none false (r8 b)] (getAnsR b) := by
 refine pureV Tryz.func9 low9 (by simp [c9]) ?_
 unfold getAnsR
 obtain ⟨R', hm, ha⟩ := reply_r ⟨b, false, false⟩ hl
 have hn := newReader_p none false b hl
 dsimp only at ha
 generalize rRe ⟨b, false, false⟩ = q at hm ha ⊢
 obtain ⟨v, s⟩ := q
 dsimp only at hm ha ⊢
 have hr := read_p 65536 b s.l s.rb s.cb hl (by omega)
 have hg : gOkR (v, s) b = (!s.cb && (!s.rb && s.l.isEmpty) && decide (b.length ≤ 65536)) := rfl
 rw [← hg] at hr
 generalize gOkR (v, s) b = ok at hr ⊢
 clear hg
 unfold Z20 at ha
 simp only [c9, c9_18, c9_17, c9_16, c9_15]
 obtain ⟨C, hC⟩ : ∃ C, C = c9_14 := ⟨_, rfl⟩
 rw [← hC]
 repeat' ((first | apply Run_seq | apply Run_skip | apply Run_ret | apply Run_nil | apply Run_condK | apply Run_ops mixed | (with_reducible first | refine PostV_open ?_ | refine ro_callA' (f := .c (.fn 30 [])) ?_ | refine ro_callA' (f := .c (.fn 20 [])) ?_ | refine ro_callV ?_ | refine CallE_use (hn) (by simp) ?_ | refine CallE_use (ha) (by simp) ?_) | (refine CondK_split ?_ ?_ <;> intro hc <;> (try simp only [hc]) <;> try simp at hc) | (with_reducible refine ⟨?_, ?_⟩; (focus ((repeat' with_reducible refine ⟨?_, ?_⟩) <;> first | exact trivial | assumption | (simp; done) | (simp only [List.length_map] at *; omega) | omega | (simp [fs]; done) | exact r8_sz))) | (with_reducible intro x hx) | omega) <;> (try simp only [Nat.reduceBEq, reduceIte, Nat.reduceEqDiff, Nat.reduceAdd, Nat.reduceSub, Nat.reduceLT, Nat.reduceLeDiff, reduceCtorEq, ne_eq, fw, fd]))
 refine Run_nl 3 v.cells rfl rfl rfl rfl hm ?_
 subst hC
 clear ha hm hn
 simp only [List.set_cons_zero, List.set_cons_succ, Re.cells]
 cases ok
 ·simp only [Bool.false_eq_true, reduceIte, Rz, Po0, row1, row2, row3, List.map_nil]
  repeat' ((first | apply Run_seq | apply Run_skip | apply Run_ret | apply Run_nil | apply Run_condK | apply Run_ops mixed | (with_reducible first | refine PostV_open ?_ | refine ro_callA' (f := .c (.fn 31 [])) ?_ | refine ro_callV ?_ | refine CallE_use (hr) (by simp) ?_) | (refine CondK_split ?_ ?_ <;> intro hc <;> (try simp only [hc]) <;> try simp at hc) | (with_reducible refine ⟨?_, ?_⟩; (focus ((repeat' with_reducible refine ⟨?_, ?_⟩) <;> first | exact trivial | assumption | (simp; done) | (simp only [List.length_map] at *; omega) | omega | (simp [fs]; done) | exact r8_sz))) | (with_reducible intro x hx) | omega) <;> (try simp only [Nat.reduceBEq, reduceIte, Nat.reduceEqDiff, Nat.reduceAdd, Nat.reduceSub, reduceCtorEq, fw, fd]))
 ·simp only [reduceIte]
  repeat' ((first | apply Run_seq | apply Run_skip | apply Run_ret | apply Run_nil | apply Run_condK | apply Run_ops mixed | (with_reducible first | refine PostV_open ?_ | refine ro_callA' (f := .c (.fn 31 [])) ?_ | refine ro_callV ?_ | refine CallE_use (hr) (by simp) ?_) | (refine CondK_split ?_ ?_ <;> intro hc <;> (try simp only [hc]) <;> try simp at hc) | (with_reducible refine ⟨?_, ?_⟩; (focus ((repeat' with_reducible refine ⟨?_, ?_⟩) <;> first | exact trivial | assumption | (simp; done) | (simp only [List.length_map] at *; omega) | omega | (simp [fs]; done) | exact r8_sz))) | (with_reducible intro x hx) | omega) <;> (try simp only [Nat.reduceBEq, reduceIte, Nat.reduceEqDiff, Nat.reduceAdd, Nat.reduceSub, reduceCtorEq, fw, fd]))

def nRe (r : Re) : Re := if r.po.id = 0 then { r with po := Po0 } else r
theorem nRe_fits {r : Re} (h : r.fits) : (nRe r).fits := by
 obtain ⟨h1, h2⟩ := h
 unfold nRe
 split
 ·exact ⟨h1, by simp [Po0, Po.fits, Qu.fits]⟩
 ·exact ⟨h1, h2⟩
/-- A reply that was written is read. -/
theorem rtRe (r : Re) (hf : fRe r) (hx : xRe r = false) (t : List UInt8) : rRe ⟨eRe r ++ t, false, false⟩ = (nRe r, ⟨t, false, false⟩) := by
 unfold xRe at hx
 unfold eRe nRe
 by_cases k : r.po.id = 0
 ·rw [if_pos k] at hx ⊢
  rw [if_pos k]
  unfold xRe0 at hx
  simp only [Bool.or_eq_false_iff] at hx
  unfold rRe eRe0
  simp only [List.append_assoc]
  rw [rtN 13 r.err hx.1]
  try dsimp only
  rw [rtD 18446744073709551615 r.ver (by omega) hf.ver]
  try dsimp only
  rw [rtRow 100 r.slots (by omega) hx.2.1 hf.slots rtSl]
  try dsimp only
  rw [rtT 64 r.cursor (by omega) hx.2.2]
  try dsimp only
  rw [rtF false]
  try dsimp only
  simp only [Bool.false_eq_true, reduceIte]
  rw [cN hf.err hx.1 (by omega), uI_id hf.ver.1 hf.ver.2]
 ·rw [if_neg k] at hx ⊢
  rw [if_neg k]
  unfold xRe1 at hx
  simp only [Bool.or_eq_false_iff] at hx
  unfold rRe eRe1
  simp only [List.append_assoc]
  rw [rtN 13 r.err hx.1]
  try dsimp only
  rw [rtD 18446744073709551615 r.ver (by omega) hf.ver]
  try dsimp only
  rw [rtRow 100 r.slots (by omega) hx.2.1 hf.slots rtSl]
  try dsimp only
  rw [rtT 64 r.cursor (by omega) hx.2.2.1]
  try dsimp only
  rw [rtF true]
  try dsimp only
  simp only [reduceIte]
  unfold rReT
  rw [rtPo r.po hf.po hx.2.2.2]
  try dsimp only
  rw [cN hf.err hx.1 (by omega), uI_id hf.ver.1 hf.ver.2, decide_eq_false k]
  rfl
def wOkR (a : Re) : Bool := !xRe a && decide ((eRe a).length ≤ 65536)
def putOkR (a : Re) : Bool := wOkR a && decide (nRe a = a)
def putAnsR (a : Re) : D := if putOkR a = true then .tup [.list none false (r8 (eRe a)), .bool true] else .tup [.list none false [], .bool false]
theorem getAnsR_put {a : Re} (hf : fRe a) (h : wOkR a = true) : getAnsR (eRe a) = .tup [.agg (nRe a).cells, .bool true] := by
 unfold wOkR at h
 simp only [Bool.and_eq_true, Bool.not_eq_true', decide_eq_true_eq] at h
 have e := rtRe a hf h.1 []
 rw [List.append_nil] at e
 have g : gOkR (nRe a, ⟨[], false, false⟩) (eRe a) = true := by unfold gOkR; simp [h.2]
 unfold getAnsR
 rw [e, g]
 rfl
set_option maxHeartbeats 2000000 in
theorem putReply_p (a : Re) (hf : fRe a) (hfit : a.fits) (hl : (eRe a).length ≤ 1099511627776) : PureD Tryz.prog 7 [.agg a.cells] (putAnsR a) := by
 refine pureV Tryz.func7 low7 (by simp [c7]) ?_
 simp only [c7]
 have h1 := newWriter_p
 have h2 := reply_w [] false a hf (by simpa using hl)
 simp only [List.nil_append, Bool.false_or, List.length_nil] at h2
 have h3 := written_p 65536 (eRe a) (xRe a) hl (by omega) (wOkR a) rfl
 have h4 := getReply_p (eRe a) hl
 have h5 := recRe_p (nRe a) a (nRe_fits hfit) hfit
 unfold putAnsR putOkR
 cases hw : wOkR a
 ·rw [hw] at h3
  simp only [Bool.false_eq_true, reduceIte, Bool.false_and] at h3 ⊢
  clear h4 h5
  unfold Re.cells at h2 ⊢
  repeat' ((first | apply Run_seq | apply Run_skip | apply Run_ret | apply Run_nil | apply Run_condK | apply Run_ops mixed | (with_reducible first | refine PostV_open ?_ | refine ro_callA' (f := .c (.fn 19 [])) ?_ | refine ro_callA' (f := .c (.fn 20 [])) ?_ | refine ro_callA' (f := .c (.fn 21 [])) ?_ | refine ro_callV ?_ | refine CallE_use (h1) (by simp) ?_ | refine CallE_use (h2) (by simp) ?_ | refine CallE_use (h3) (by simp) ?_) | ((first | refine GuardK_split ?_ ?_ | refine CondK_split ?_ ?_) <;> intro hc <;> (try simp only [hc]) <;> try simp at hc) | (with_reducible refine ⟨?_, ?_⟩; (focus ((repeat' with_reducible refine ⟨?_, ?_⟩) <;> first | exact trivial | assumption | (simp; done) | (simp only [List.length_map] at *; omega) | omega | (simp [fs]; done) | exact r8_sz))) | (with_reducible intro x hx) | omega) <;> (try simp only [Wr, Nat.reduceBEq, reduceIte, Nat.reduceEqDiff, Nat.reduceAdd, Nat.reduceSub, Nat.reduceLT, Nat.reduceLeDiff, reduceCtorEq, ne_eq, fw, fd]))
 ·rw [hw] at h3
  rw [getAnsR_put hf hw] at h4
  simp only [reduceIte, Bool.true_and] at h3 ⊢
  generalize nRe a = x at h4 h5 ⊢
  generalize hd : decide (x = a) = d at h5 ⊢
  unfold Re.cells at h2 h4 h5 ⊢
  clear hd
  cases d
  ·simp only [Bool.false_eq_true, reduceIte]
   repeat' ((first | apply Run_seq | apply Run_skip | apply Run_ret | apply Run_nil | apply Run_condK | apply Run_ops mixed | (with_reducible first | refine PostV_open ?_ | refine ro_callA' (f := .c (.fn 19 [])) ?_ | refine ro_callA' (f := .c (.fn 20 [])) ?_ | refine ro_callA' (f := .c (.fn 21 [])) ?_ | refine ro_callV ?_ | refine CallE_use (h1) (by simp) ?_ | refine CallE_use (h2) (by simp) ?_ | refine CallE_use (h3) (by simp) ?_) | refine CallV_pure (h4) ?_ ?_ | refine CallV_pure (h5) ?_ ?_ | ((first | refine GuardK_split ?_ ?_ | refine CondK_split ?_ ?_) <;> intro hc <;> (try simp only [hc]) <;> try simp at hc) | (with_reducible refine ⟨?_, ?_⟩; (focus ((repeat' with_reducible refine ⟨?_, ?_⟩) <;> first | exact trivial | assumption | (simp; done) | (simp only [List.length_map] at *; omega) | omega | (simp [fs]; done) | exact r8_sz))) | (with_reducible intro x hx) | omega) <;> (try simp only [Wr, Nat.reduceBEq, reduceIte, Nat.reduceEqDiff, Nat.reduceAdd, Nat.reduceSub, Nat.reduceLT, Nat.reduceLeDiff, reduceCtorEq, cond_false, ne_eq, fw, fd]))
  ·simp only [reduceIte]
   repeat' ((first | apply Run_seq | apply Run_skip | apply Run_ret | apply Run_nil | apply Run_condK | apply Run_ops mixed | (with_reducible first | refine PostV_open ?_ | refine ro_callA' (f := .c (.fn 19 [])) ?_ | refine ro_callA' (f := .c (.fn 20 [])) ?_ | refine ro_callA' (f := .c (.fn 21 [])) ?_ | refine ro_callV ?_ | refine CallE_use (h1) (by simp) ?_ | refine CallE_use (h2) (by simp) ?_ | refine CallE_use (h3) (by simp) ?_) | refine CallV_pure (h4) ?_ ?_ | refine CallV_pure (h5) ?_ ?_ | ((first | refine GuardK_split ?_ ?_ | refine CondK_split ?_ ?_) <;> intro hc <;> (try simp only [hc]) <;> try simp at hc) | (with_reducible refine ⟨?_, ?_⟩; (focus ((repeat' with_reducible refine ⟨?_, ?_⟩) <;> first | exact trivial | assumption | (simp; done) | (simp only [List.length_map] at *; omega) | omega | (simp [fs]; done) | exact r8_sz))) | (with_reducible intro x hx) | omega) <;> (try simp only [Wr, Nat.reduceBEq, reduceIte, Nat.reduceEqDiff, Nat.reduceAdd, Nat.reduceSub, Nat.reduceLT, Nat.reduceLeDiff, reduceCtorEq, cond_false, ne_eq, fw, fd]))
end Go.Proofs.YtgefljdclekadaaGreat
