import Derived.Test.YtgefljdclekadaaGreatWMC
import Derived.Test.YtgefljdclekadaaGreatVi25
import Derived.Test.YtgefljdclekadaaGreatWMD
import Derived.Test.YtgefljdclekadaaGreatWR3
import Derived.Test.YtgefljdclekadaaGreatWMG
import Derived.Test.YtgefljdclekadaaGreatWMK
set_option linter.unusedVariables false
set_option linter.unusedSimpArgs false
set_option linter.unnecessarySimpa false
namespace Go.Proofs.YtgefljdclekadaaGreat
open Go Go.Vi



abbrev Bd (S : List UInt8) (bad : Bool) : D := .agg [.str (bs S), .bool bad]
/-- A step of the document's writer: what was written well so far, and what is added. -/
def Bst (f : Nat) (qs : List D) (S : List UInt8) (bad x : Bool) (e : List UInt8) : Prop :=
 ∃ S', PureD Tryz.prog f (Bd S bad :: qs) (Bd S' (bad || x)) ∧ ((bad || x) = false → S' = S ++ e) ∧ S'.length ≤ S.length + e.length
theorem bN (S : List UInt8) (bad : Bool) (n : Int) (m : Nat) (hn : Fit n) (hm : m < 9223372036854775808) (hl : S.length ≤ 1099511628776) :
  Bst 23 [.int .i64 n, .int .i64 m] S bad (decide (m < uI n)) (num (uI n)) := by
 have h10 := num_10 (uI_lt n)
 by_cases h1 : n < 0
 ·have c1 : (n < 0) = True := by simpa using h1
  have hx : decide (m < uI n) = true := by
   have h3 : uI n = (n + 18446744073709551616).toNat := by have := hn.1; unfold uI; omega
   have := hn.1
   rw [h3, decide_eq_true_eq]
   omega
  refine ⟨S, ?_, fun h => absurd h (by rw [hx, Bool.or_true]; simp), by omega⟩
  rw [hx, Bool.or_true]
  refine pureV Tryz.func23 low23 (by simp [c23]) ?_
  simp only [c23]
  repeat' ((first | apply Run_seq | apply Run_skip | apply Run_ret | apply Run_nil | apply Run_condK | apply Run_ops mixed | apply Run_opsX mixed | (with_reducible first | refine PostV_open ?_ | refine ro_callVX ?_) | simp (disch := omega) only [w64, wu64, wu32, wu16, wu8, Int.tdiv_eq_ediv_of_nonneg, Int.tmod_eq_emod_of_nonneg] | ((first | refine GuardK_split ?_ ?_ | refine CondK_split ?_ ?_) <;> intro hc <;> (try simp only [hc]) <;> try simp at hc) | (with_reducible refine ⟨?_, ?_⟩; (focus ((repeat' with_reducible refine ⟨?_, ?_⟩) <;> first | exact trivial | assumption | (simp; done) | (simp only [List.length_map] at *; omega) | omega | (simp [fs]; done) | exact r8_sz))) | (with_reducible intro x hx) | omega) <;> (try simp only [bs_mk, c1, Nat.reduceBEq, reduceIte, Nat.reduceAdd, Nat.reduceLeDiff, reduceCtorEq, cond_true, ne_eq, fw, fd]))
 ·have c1 : (n < 0) = False := by simpa using h1
  have hu : ((uI n : Nat) : Int) = n := by have := hn.2; unfold uI; omega
  by_cases h2 : n > m
  ·have c2 : (n > (m : Int)) = True := by simpa using h2
   have hx : decide (m < uI n) = true := by simp only [decide_eq_true_eq]; omega
   refine ⟨S, ?_, fun h => absurd h (by rw [hx, Bool.or_true]; simp), by omega⟩
   rw [hx, Bool.or_true]
   refine pureV Tryz.func23 low23 (by simp [c23]) ?_
   simp only [c23]
   repeat' ((first | apply Run_seq | apply Run_skip | apply Run_ret | apply Run_nil | apply Run_condK | apply Run_ops mixed | apply Run_opsX mixed | (with_reducible first | refine PostV_open ?_ | refine ro_callVX ?_) | simp (disch := omega) only [w64, wu64, wu32, wu16, wu8, Int.tdiv_eq_ediv_of_nonneg, Int.tmod_eq_emod_of_nonneg] | ((first | refine GuardK_split ?_ ?_ | refine CondK_split ?_ ?_) <;> intro hc <;> (try simp only [hc]) <;> try simp at hc) | (with_reducible refine ⟨?_, ?_⟩; (focus ((repeat' with_reducible refine ⟨?_, ?_⟩) <;> first | exact trivial | assumption | (simp; done) | (simp only [List.length_map] at *; omega) | omega | (simp [fs]; done) | exact r8_sz))) | (with_reducible intro x hx) | omega) <;> (try simp only [bs_mk, c1, c2, Nat.reduceBEq, reduceIte, Nat.reduceAdd, Nat.reduceLeDiff, reduceCtorEq, cond_false, ne_eq, fw, fd]))
  ·have c2 : (n > (m : Int)) = False := by simpa using h2
   have hx : decide (m < uI n) = false := by simp only [decide_eq_false_iff_not]; omega
   refine ⟨S ++ num (uI n), ?_, fun _ => rfl, by rw [List.length_append]; omega⟩
   rw [hx, Bool.or_false]
   have e := (bs_app (l := S) (m := num (uI n))).symm
   have hw := uI_wrap n
   refine pureV Tryz.func23 low23 (by simp [c23]) ?_
   simp only [c23]
   repeat' ((first | apply Run_seq | apply Run_skip | apply Run_ret | apply Run_nil | apply Run_condK | apply Run_ops mixed | apply Run_opsX mixed | (with_reducible first | refine PostV_open ?_ | refine ro_callVX ?_) | refine CallV_pure (refNumber_p (uI n) _ rfl (uI_lt n)) ?_ ?_ | simp (disch := omega) only [w64, wu64, wu32, wu16, wu8, Int.tdiv_eq_ediv_of_nonneg, Int.tmod_eq_emod_of_nonneg] | ((first | refine GuardK_split ?_ ?_ | refine CondK_split ?_ ?_) <;> intro hc <;> (try simp only [hc]) <;> try simp at hc) | (with_reducible refine ⟨?_, ?_⟩; (focus ((repeat' with_reducible refine ⟨?_, ?_⟩) <;> first | exact trivial | assumption | (simp; done) | (simp only [List.length_map] at *; omega) | omega | (simp [fs]; done) | exact r8_sz))) | (with_reducible intro x hx) | omega) <;> (try simp only [bs_mk, bs_size, c1, c2, e, hw, Nat.reduceBEq, reduceIte, Nat.reduceAdd, Nat.reduceSub, Nat.reduceLeDiff, reduceCtorEq, cond_false, ne_eq, fw, fd]))
theorem bU (S : List UInt8) (bad : Bool) (n : Int) (hn : 0 ≤ n ∧ n ≤ 18446744073709551615) (hl : S.length ≤ 1099511628776) :
  Bst 24 [.int .u64 n] S bad false (num (uI n)) := by
 have h10 := num_10 (uI_lt n)
 have e := (bs_app (l := S) (m := num (uI n))).symm
 refine ⟨S ++ num (uI n), ?_, fun _ => rfl, by rw [List.length_append]; omega⟩
 rw [Bool.or_false]
 refine pureV Tryz.func24 low24 (by simp [c24]) ?_
 simp only [c24]
 repeat' ((first | apply Run_seq | apply Run_ret | apply Run_nil | apply Run_ops mixed | apply Run_opsX mixed | (with_reducible first | refine PostV_open ?_ | refine ro_callVX ?_) | refine CallV_pure (refNumber_p (uI n) _ (uI_id hn.1 hn.2).symm (uI_lt n)) ?_ ?_ | simp (disch := omega) only [w64, wu64, wu32, wu16, wu8, Int.tdiv_eq_ediv_of_nonneg, Int.tmod_eq_emod_of_nonneg] | (with_reducible refine ⟨?_, ?_⟩; (focus ((repeat' with_reducible refine ⟨?_, ?_⟩) <;> first | exact trivial | assumption | (simp; done) | (simp only [List.length_map] at *; omega) | omega | (simp [fs]; done) | exact r8_sz))) | (with_reducible intro x hx) | omega) <;> (try simp only [bs_mk, bs_size, e, Nat.reduceBEq, reduceIte, Nat.reduceAdd, Nat.reduceSub, Nat.reduceLeDiff, reduceCtorEq, ne_eq, fw, fd]))
theorem bM (S : List UInt8) (bad : Bool) (n : Int) (hn : Fit n) (hl : S.length ≤ 1099511628776) :
  Bst 25 [.int .i64 n] S bad false (num (zz n)) := by
 have h10 := num_10 (zz_lt hn.1 hn.2)
 have e := (bs_app (l := S) (m := num (zz n))).symm
 refine ⟨S ++ num (zz n), ?_, fun _ => rfl, by rw [List.length_append]; omega⟩
 rw [Bool.or_false]
 refine pureV Tryz.func25 low25 (by simp [c25]) ?_
 simp only [c25]
 repeat' ((first | apply Run_seq | apply Run_ret | apply Run_nil | apply Run_ops mixed | apply Run_opsX mixed | (with_reducible first | refine PostV_open ?_ | refine ro_callVX ?_) | refine CallV_pure (refSigned_p n hn.1 hn.2) ?_ ?_ | simp (disch := omega) only [w64, wu64, wu32, wu16, wu8, Int.tdiv_eq_ediv_of_nonneg, Int.tmod_eq_emod_of_nonneg] | (with_reducible refine ⟨?_, ?_⟩; (focus ((repeat' with_reducible refine ⟨?_, ?_⟩) <;> first | exact trivial | assumption | (simp; done) | (simp only [List.length_map] at *; omega) | omega | (simp [fs]; done) | exact r8_sz))) | (with_reducible intro x hx) | omega) <;> (try simp only [bs_mk, bs_size, e, Nat.reduceBEq, reduceIte, Nat.reduceAdd, Nat.reduceSub, Nat.reduceLeDiff, reduceCtorEq, ne_eq, fw, fd]))
theorem bF (S : List UInt8) (bad : Bool) (b : Bool) (hl : S.length ≤ 1099511628776) :
  Bst 27 [.bool b] S bad false (fl8 b) := by
 have e := (bs_app (l := S) (m := fl8 b)).symm
 have hf := refFlag_p b
 refine ⟨S ++ fl8 b, ?_, fun _ => rfl, by rw [List.length_append]; omega⟩
 have h1 : (fl8 b).length = 1 := rfl
 rw [Bool.or_false]
 rw [show (if b then 1 else 0) = (if b then (1 : UInt8) else 0) from rfl, show ([if b then (1 : UInt8) else 0]) = fl8 b from rfl] at hf
 generalize fl8 b = q at *
 refine pureV Tryz.func27 low27 (by simp [c27]) ?_
 simp only [c27]
 repeat' ((first | apply Run_seq | apply Run_ret | apply Run_nil | apply Run_ops mixed | apply Run_opsX mixed | (with_reducible first | refine PostV_open ?_ | refine ro_callVX ?_) | refine CallV_pure (hf) ?_ ?_ | simp (disch := omega) only [w64, wu64, wu32, wu16, wu8, Int.tdiv_eq_ediv_of_nonneg, Int.tmod_eq_emod_of_nonneg] | (with_reducible refine ⟨?_, ?_⟩; (focus ((repeat' with_reducible refine ⟨?_, ?_⟩) <;> first | exact trivial | assumption | (simp; done) | (simp only [List.length_map] at *; omega) | omega | (simp [fs]; done) | exact r8_sz))) | (with_reducible intro x hx) | omega) <;> (try simp only [bs_mk, bs_size, e, Nat.reduceBEq, reduceIte, Nat.reduceAdd, Nat.reduceSub, Nat.reduceLeDiff, reduceCtorEq, ne_eq, fw, fd]))
theorem bT (S : List UInt8) (bad : Bool) (s : ByteArray) (m : Nat) (hs : s.size ≤ 1099511627776) (hl : S.length ≤ 1099511628776) :
  Bst 26 [.str s, .int .i64 m] S bad (decide ((m : Int) < (s.size : Int))) (tx8 s) := by
 have e := (bs_app (l := S) (m := tx8 s)).symm
 have hf := refText_p s hs
 refine ⟨S ++ tx8 s, ?_, fun _ => rfl, by rw [List.length_append]; omega⟩
 have h1 : (tx8 s).length ≤ 1099511627800 := by
  unfold tx8
  have h1 := num_10 (n := s.size) (by omega)
  have h2 : s.data.toList.length = s.size := rfl
  rw [List.length_append]
  omega
 rw [show num s.size ++ s.data.toList = tx8 s from rfl] at hf
 generalize tx8 s = q at *
 have hd : ((s.size : Int) > (m : Int)) = ((m : Int) < (s.size : Int)) := rfl
 refine pureV Tryz.func26 low26 (by simp [c26]) ?_
 simp only [c26]
 by_cases hc : (m : Int) < (s.size : Int)
 ·have c1 : ((s.size : Int) > (m : Int)) = True := by simpa using hc
  rw [decide_eq_true hc]
  cases bad
  ·simp only [Bool.or_true]
   repeat' ((first | apply Run_seq | apply Run_ret | apply Run_nil | apply Run_ops mixed | apply Run_opsX mixed | (with_reducible first | refine PostV_open ?_ | refine ro_callVX ?_) | refine CallV_pure (hf) ?_ ?_ | simp (disch := omega) only [w64, wu64, wu32, wu16, wu8, Int.tdiv_eq_ediv_of_nonneg, Int.tmod_eq_emod_of_nonneg] | (refine GuardK_split ?_ ?_ <;> intro hc <;> (try simp only [hc]) <;> try simp at hc) | (with_reducible refine ⟨?_, ?_⟩; (focus ((repeat' with_reducible refine ⟨?_, ?_⟩) <;> first | exact trivial | assumption | (simp; done) | omega | (simp [fs]; done) | exact r8_sz))) | (with_reducible intro x hx) | omega) <;> (try simp only [bs_mk, bs_size, e, c1, Nat.reduceBEq, reduceIte, Nat.reduceAdd, Nat.reduceSub, Nat.reduceLeDiff, reduceCtorEq, cond_false, ne_eq, fw, fd]))
  ·simp only [Bool.or_true]
   repeat' ((first | apply Run_seq | apply Run_ret | apply Run_nil | apply Run_ops mixed | apply Run_opsX mixed | (with_reducible first | refine PostV_open ?_ | refine ro_callVX ?_) | refine CallV_pure (hf) ?_ ?_ | simp (disch := omega) only [w64, wu64, wu32, wu16, wu8, Int.tdiv_eq_ediv_of_nonneg, Int.tmod_eq_emod_of_nonneg] | (refine GuardK_split ?_ ?_ <;> intro hc <;> (try simp only [hc]) <;> try simp at hc) | (with_reducible refine ⟨?_, ?_⟩; (focus ((repeat' with_reducible refine ⟨?_, ?_⟩) <;> first | exact trivial | assumption | (simp; done) | omega | (simp [fs]; done) | exact r8_sz))) | (with_reducible intro x hx) | omega) <;> (try simp only [bs_mk, bs_size, e, Nat.reduceBEq, reduceIte, Nat.reduceAdd, Nat.reduceSub, Nat.reduceLeDiff, reduceCtorEq, cond_true, ne_eq, fw, fd]))
 ·have c1 : ((s.size : Int) > (m : Int)) = False := by simpa using hc
  rw [decide_eq_false hc]
  cases bad
  ·simp only [Bool.or_false]
   repeat' ((first | apply Run_seq | apply Run_ret | apply Run_nil | apply Run_ops mixed | apply Run_opsX mixed | (with_reducible first | refine PostV_open ?_ | refine ro_callVX ?_) | refine CallV_pure (hf) ?_ ?_ | simp (disch := omega) only [w64, wu64, wu32, wu16, wu8, Int.tdiv_eq_ediv_of_nonneg, Int.tmod_eq_emod_of_nonneg] | (refine GuardK_split ?_ ?_ <;> intro hc <;> (try simp only [hc]) <;> try simp at hc) | (with_reducible refine ⟨?_, ?_⟩; (focus ((repeat' with_reducible refine ⟨?_, ?_⟩) <;> first | exact trivial | assumption | (simp; done) | omega | (simp [fs]; done) | exact r8_sz))) | (with_reducible intro x hx) | omega) <;> (try simp only [bs_mk, bs_size, e, c1, Nat.reduceBEq, reduceIte, Nat.reduceAdd, Nat.reduceSub, Nat.reduceLeDiff, reduceCtorEq, cond_false, ne_eq, fw, fd]))
  ·simp only [Bool.or_false]
   repeat' ((first | apply Run_seq | apply Run_ret | apply Run_nil | apply Run_ops mixed | apply Run_opsX mixed | (with_reducible first | refine PostV_open ?_ | refine ro_callVX ?_) | refine CallV_pure (hf) ?_ ?_ | simp (disch := omega) only [w64, wu64, wu32, wu16, wu8, Int.tdiv_eq_ediv_of_nonneg, Int.tmod_eq_emod_of_nonneg] | (refine GuardK_split ?_ ?_ <;> intro hc <;> (try simp only [hc]) <;> try simp at hc) | (with_reducible refine ⟨?_, ?_⟩; (focus ((repeat' with_reducible refine ⟨?_, ?_⟩) <;> first | exact trivial | assumption | (simp; done) | omega | (simp [fs]; done) | exact r8_sz))) | (with_reducible intro x hx) | omega) <;> (try simp only [bs_mk, bs_size, e, Nat.reduceBEq, reduceIte, Nat.reduceAdd, Nat.reduceSub, Nat.reduceLeDiff, reduceCtorEq, cond_true, ne_eq, fw, fd]))
end Go.Proofs.YtgefljdclekadaaGreat

namespace Go.Proofs.YtgefljdclekadaaGreat
open Go Go.Vi



abbrev Vb (S : List UInt8) (bad : Bool) : Ob := Va 2 [.str (bs S), .bool bad]
def bI {α : Type} (bad : Bool) (m : Nat) (x : α → Bool) (xs : List α) (i : Nat) : Bool := bad || (decide (m < xs.length) || (xs.take i).any x)
theorem bI_zero {α : Type} {bad : Bool} {m : Nat} {x : α → Bool} {xs : List α} : bI bad m x xs 0 = (bad || decide (m < xs.length)) := by simp [bI]
theorem bI_step {α : Type} {bad : Bool} {m : Nat} {x : α → Bool} {xs : List α} {i : Nat} {y : α} (h : xs[i]? = some y) : bI bad m x xs (i + 1) = (bI bad m x xs i || x y) := by
 unfold bI
 rw [any_take x h, Bool.or_assoc, Bool.or_assoc]
theorem bI_end {α : Type} {bad : Bool} {m : Nat} {x : α → Bool} {xs : List α} : bI bad m x xs xs.length = (bad || xRow x m xs) := by
 unfold bI xRow
 rw [List.take_length]
def Rin {α : Type} (S : List UInt8) (bad : Bool) (m : Nat) (e : α → List UInt8) (x : α → Bool) (xs : List α) (i : Nat) (S' : List UInt8) : Prop :=
 i ≤ xs.length ∧ (bI bad m x xs i = false → S' = S ++ (num xs.length ++ (xs.take i).flatMap e)) ∧ S'.length ≤ S.length + (num xs.length ++ (xs.take i).flatMap e).length
theorem uI_nat {k : Nat} (h : k < 18446744073709551616) : uI (k : Int) = k := by unfold uI; omega
theorem Rin_zero {α : Type} {S : List UInt8} {bad : Bool} {m : Nat} {e : α → List UInt8} {x : α → Bool} {xs : List α} {S' : List UInt8} (h1 : (bad || decide (m < xs.length)) = false → S' = S ++ num xs.length) (h2 : S'.length ≤ S.length + (num xs.length).length) : Rin S bad m e x xs 0 S' := by
 refine ⟨Nat.zero_le _, fun h => ?_, by simpa using h2⟩
 rw [bI_zero] at h
 simpa using h1 h
theorem Rin_step {α : Type} {S : List UInt8} {bad : Bool} {m : Nat} {e : α → List UInt8} {x : α → Bool} {xs : List α} {i : Nat} {y : α} {S' S2 : List UInt8} (hy : xs[i]? = some y) (h : Rin S bad m e x xs i S')
  (h1 : bI bad m x xs (i + 1) = false → S2 = S' ++ e y) (h2 : S2.length ≤ S'.length + (e y).length) : Rin S bad m e x xs (i + 1) S2 := by
 obtain ⟨a, b, c⟩ := h
 have hi : i < xs.length := (List.getElem?_eq_some_iff.1 hy).1
 refine ⟨hi, fun h => ?_, ?_⟩
 ·have h3 := h
  rw [bI_step hy, Bool.or_eq_false_iff] at h3
  rw [h1 h, b h3.1, fm_take e hy]
  simp only [List.append_assoc]
 ·rw [fm_take e hy]
  simp only [List.length_append] at c ⊢
  omega
theorem Rin_le {α : Type} {S : List UInt8} {bad : Bool} {m : Nat} {e : α → List UInt8} {x : α → Bool} {xs : List α} {i : Nat} {S' : List UInt8} (h : Rin S bad m e x xs i S') (hl : (S ++ eRow e xs).length ≤ 1099511627776) : S'.length ≤ 1099511627776 := by
 have h1 := h.2.2
 have h2 := fm_le e xs i
 unfold eRow at hl
 simp only [List.length_append] at h1 hl
 omega
theorem Rin_end {α : Type} {S : List UInt8} {bad : Bool} {m : Nat} {e : α → List UInt8} {x : α → Bool} {xs : List α} {S' : List UInt8} (h : Rin S bad m e x xs xs.length S') :
  ((bad || xRow x m xs) = false → S' = S ++ eRow e xs) ∧ S'.length ≤ S.length + (eRow e xs).length := by
 obtain ⟨a, b, c⟩ := h
 rw [bI_end] at b
 rw [List.take_length] at b c
 exact ⟨b, c⟩
theorem seq_ex {P : Nat → List UInt8 → Prop} {Rel : Nat → List UInt8 → List UInt8 → Prop} {S1 : List UInt8} (h0 : P 0 S1) : ∀ n : Nat, (∀ i S, i < n → P i S → ∃ S2, Rel i S S2 ∧ P (i + 1) S2) →
  ∃ s : Nat → List UInt8, s 0 = S1 ∧ P n (s n) ∧ ∀ i, i < n → P i (s i) ∧ Rel i (s i) (s (i + 1))
 | 0, _ => ⟨fun _ => S1, rfl, h0, fun i hi => by omega⟩
 | n + 1, h => by
  obtain ⟨s, e0, hn, hs⟩ := seq_ex h0 n fun i S hi => h i S (by omega)
  obtain ⟨S2, hr, hp⟩ := h n (s n) (by omega) hn
  refine ⟨fun i => if i ≤ n then s i else S2, by simp [e0], ?_, fun i hi => ?_⟩
  ·simp only [show ¬ n + 1 ≤ n by omega, if_false]; exact hp
  ·by_cases hlt : i < n
   ·simp only [show i ≤ n by omega, show i + 1 ≤ n by omega, if_true]
    exact hs i hlt
   ·obtain rfl : i = n := by omega
    simp only [Nat.le_refl, show ¬ i + 1 ≤ i by omega, if_true, if_false]
    exact ⟨hn, hr⟩
/-- A row, step by step: each step adds what its element is written as. -/
theorem row_ex {α : Type} {S : List UInt8} {bad : Bool} {m : Nat} {e : α → List UInt8} {x : α → Bool} {f : α → Prop} {xs : List α} {S1 : List UInt8} {Rel : α → Bool → List UInt8 → List UInt8 → Prop} (hf : ∀ y ∈ xs, f y) (hl : (S ++ eRow e xs).length ≤ 1099511627776)
  (h1 : (bad || decide (m < xs.length)) = false → S1 = S ++ num xs.length) (h2 : S1.length ≤ S.length + (num xs.length).length)
  (hb : ∀ y, f y → ∀ S b, S.length ≤ 1099511627776 → ∃ S2, Rel y b S S2 ∧ ((b || x y) = false → S2 = S ++ e y) ∧ S2.length ≤ S.length + (e y).length) :
  ∃ s : Nat → List UInt8, s 0 = S1 ∧ (((bad || xRow x m xs) = false → s xs.length = S ++ eRow e xs) ∧ (s xs.length).length ≤ S.length + (eRow e xs).length) ∧
   ∀ i y, xs[i]? = some y → (s i).length ≤ 1099511627776 ∧ Rel y (bI bad m x xs i) (s i) (s (i + 1)) := by
 obtain ⟨s, e0, hn, hs⟩ := seq_ex (P := Rin S bad m e x xs) (Rel := fun i S' S2 => ∀ y, xs[i]? = some y → Rel y (bI bad m x xs i) S' S2) (S1 := S1) (Rin_zero h1 h2) xs.length (fun i S' hi hp => by
  obtain ⟨y, hy⟩ : ∃ y, xs[i]? = some y := ⟨_, List.getElem?_eq_getElem hi⟩
  obtain ⟨S2, r1, r2, r3⟩ := hb y (hf y (List.mem_of_getElem? hy)) S' (bI bad m x xs i) (Rin_le hp hl)
  refine ⟨S2, fun z hz => ?_, Rin_step hy hp (by rw [bI_step hy]; exact r2) r3⟩
  rw [hy] at hz
  cases hz
  exact r1)
 refine ⟨s, e0, Rin_end hn, fun i y hy => ?_⟩
 have hi : i < xs.length := (List.getElem?_eq_some_iff.1 hy).1
 exact ⟨Rin_le (hs i hi).1 hl, (hs i hi).2 y hy⟩
set_option maxHeartbeats 2000000 in
theorem bStamps (S : List UInt8) (bad : Bool) (xs : List Int) (m : Nat) (hm : m < 9223372036854775808) (hxl : xs.length ≤ 140737488351232) (hx : ∀ x ∈ xs, fTs x) (hl : (S ++ eRow eTs xs).length ≤ 1099511627776) :
  Bst 68 [L (row1 .i64 xs), .int .i64 m] S bad (xRow xTs m xs) (eRow eTs xs) := by
 have hS : S.length ≤ 1099511627776 := by rw [List.length_append] at hl; omega
 obtain ⟨S1, h1, e1, g1⟩ := bN S bad xs.length m (by constructor <;> omega) hm (by omega)
 rw [uI_nat (by omega)] at h1 e1 g1
 obtain ⟨s, e0, ⟨e2, g2⟩, hs⟩ := row_ex (x := xTs) (Rel := fun y b S S2 => PureD Tryz.prog 25 [Bd S b, .int .i64 y] (Bd S2 b)) hx hl e1 g1 (fun y hy S b hl => by
  obtain ⟨S2, a1, a2, a3⟩ := bM S b y hy (by omega)
  rw [Bool.or_false] at a1 a2
  exact ⟨S2, a1, by rw [show xTs y = false from rfl, Bool.or_false]; exact a2, a3⟩)
 subst e0
 rw [← bI_zero (x := xTs)] at h1
 refine ⟨s xs.length, ?_, e2, g2⟩
 rw [← bI_end]
 clear e1 g1 e2 g2
 refine pureV Tryz.func68 low68 (by simp [c68]) ?_
 simp only [c68]
 repeat' ((first | apply Run_seq | apply Run_skip | apply Run_block | apply Run_blk | refine Run_exit rfl ?_ | apply Run_ret | apply Run_nil | apply Run_condK | apply Run_ops mixed | apply Run_opsX mixed | (with_reducible first | refine PostV_open ?_ | refine ro_callV ?_ | refine ro_callVX ?_) | refine CallV_pure (h1) ?_ ?_ | simp (disch := omega) only [w64, wu64, wu32, wu16, wu8, Int.tdiv_eq_ediv_of_nonneg, Int.tmod_eq_emod_of_nonneg] | (refine CondK_split ?_ ?_ <;> intro hc <;> (try simp only [hc]) <;> try simp at hc) | (with_reducible refine ⟨?_, ?_⟩; (focus ((repeat' with_reducible refine ⟨?_, ?_⟩) <;> first | exact trivial | assumption | (simp; done) | (simp only [List.length_map] at *; omega) | omega | (simp [fs]; done) | exact r8_sz))) | (with_reducible intro x hx) | omega) <;> (try simp only [bs_mk, row1_len, Nat.reduceBEq, reduceIte, Nat.reduceAdd, reduceCtorEq, ne_eq, fw, fd]))
 refine Run_loop (ι := {i : Nat // i ≤ xs.length}) (fun i => ([(1, L (row1 .i64 xs)), (3, .ptr 0 0 0 1), (6, .ptr 1 0 0 1), (14, .int .i64 xs.length), (15, .int .i64 i.1)], [Vb (s i.1) (bI bad m xTs xs i.1), Vb [] false])) (fun i => xs.length - i.1) ⟨0, by omega⟩ ?_ ?_
 ·refine Ent_gc [0, 1] (by rfl) (by simp) (by simp [fg]) (by simp [fg])
 rintro ⟨i, hi⟩ hk
 dsimp only at hk ⊢
 by_cases hlt : i < xs.length
 ·have c1 : ((i : Int) < (xs.length : Int)) = True := by simp; omega
  obtain ⟨y, hy⟩ : ∃ y, xs[i]? = some y := ⟨_, List.getElem?_eq_getElem hlt⟩
  have hr := row1_get (k := .i64) hy
  have r1 := (hs i y hy).2
  have hb : bI bad m xTs xs (i + 1) = bI bad m xTs xs i := by rw [bI_step hy, show xTs y = false from rfl, Bool.or_false]
  repeat' ((first | apply Run_seq | apply Run_skip | apply Run_block | apply Run_blk | refine Run_exit rfl ?_ | apply Run_ret | apply Run_nil | apply Run_condK | apply Run_ops mixed | apply Run_opsX mixed | (with_reducible first | refine PostV_open ?_ | refine ro_callV ?_ | refine ro_callVX ?_) | refine CallV_pure (r1) ?_ ?_ | simp (disch := omega) only [w64] | (refine CondK_split ?_ ?_ <;> intro hc <;> (try simp only [hc]) <;> try simp at hc) | (with_reducible refine ⟨?_, ?_⟩; (focus ((repeat' with_reducible refine ⟨?_, ?_⟩) <;> first | exact trivial | assumption | (simp; done) | (simp only [List.length_map] at *; omega) | omega | (simp [fs]; done) | exact r8_sz))) | (with_reducible intro x hx) | omega) <;> (try simp only [row1_len, c1, hr, Nat.reduceBEq, reduceIte, Nat.reduceAdd, fw, fd]))
  refine hk ⟨i + 1, by omega⟩ _ _ (by dsimp only; omega) ?_
  dsimp only
  rw [hb]
  refine Ent_gc [0, 1] (by rfl) (by simp) (by simp [fg]) (by simp [fg])
 ·have c1 : ((i : Int) < (xs.length : Int)) = False := by simp; omega
  obtain rfl : i = xs.length := by omega
  repeat' ((first | apply Run_seq | apply Run_skip | apply Run_block | apply Run_blk | refine Run_exit rfl ?_ | apply Run_ret | apply Run_nil | apply Run_condK | apply Run_ops mixed | apply Run_opsX mixed | (with_reducible first | refine PostV_open ?_ | refine ro_callV ?_ | refine ro_callVX ?_) | simp (disch := omega) only [w64, wu64, wu32, wu16, wu8, Int.tdiv_eq_ediv_of_nonneg, Int.tmod_eq_emod_of_nonneg] | (refine CondK_split ?_ ?_ <;> intro hc <;> (try simp only [hc]) <;> try simp at hc) | (with_reducible refine ⟨?_, ?_⟩; (focus ((repeat' with_reducible refine ⟨?_, ?_⟩) <;> first | exact trivial | assumption | (simp; done) | (simp only [List.length_map] at *; omega) | omega | (simp [fs]; done) | exact r8_sz))) | (with_reducible intro x hx) | omega) <;> (try simp only [c1, Nat.reduceBEq, reduceIte, Nat.reduceAdd, fw, fd]))
end Go.Proofs.YtgefljdclekadaaGreat

namespace Go.Proofs.YtgefljdclekadaaGreat
open Go Go.Vi



def relSh (y : Int × Int × Int) (b : Bool) (S S2 : List UInt8) : Prop := ∃ T1 T2, PureD Tryz.prog 23 [Bd S b, .int .i64 y.1, .int .i64 127] (Bd T1 (b || decide (127 < uI y.1))) ∧ PureD Tryz.prog 23 [Bd T1 (b || decide (127 < uI y.1)), .int .i64 y.2.1, .int .i64 1440] (Bd T2 ((b || decide (127 < uI y.1)) || decide (1440 < uI y.2.1))) ∧ PureD Tryz.prog 23 [Bd T2 ((b || decide (127 < uI y.1)) || decide (1440 < uI y.2.1)), .int .i64 y.2.2, .int .i64 1440] (Bd S2 (((b || decide (127 < uI y.1)) || decide (1440 < uI y.2.1)) || decide (1440 < uI y.2.2)))
theorem exSh (y : Int × Int × Int) (hy : fSh y) (S : List UInt8) (b : Bool) (hl : S.length ≤ 1099511627776) : ∃ S2, relSh y b S S2 ∧ ((b || xSh y) = false → S2 = S ++ eSh y) ∧ S2.length ≤ S.length + (eSh y).length := by
 unfold fSh at hy
 have w0 := num_10 (uI_lt y.1)
 obtain ⟨U1, a0, c0, l0⟩ := bN S b y.1 127 hy.1 (by omega) (by omega)
 have w1 := num_10 (uI_lt y.2.1)
 obtain ⟨U2, a1, c1, l1⟩ := bN U1 (b || decide (127 < uI y.1)) y.2.1 1440 hy.2.1 (by omega) (by omega)
 have w2 := num_10 (uI_lt y.2.2)
 obtain ⟨U3, a2, c2, l2⟩ := bN U2 ((b || decide (127 < uI y.1)) || decide (1440 < uI y.2.1)) y.2.2 1440 hy.2.2 (by omega) (by omega)
 refine ⟨U3, ⟨U1, U2, a0, a1, a2⟩, fun h => ?_, by simp only [eSh, List.length_append]; omega⟩
 unfold xSh at h
 simp only [← Bool.or_assoc] at h
 have h2 := h
 have h1 := (Bool.or_eq_false_iff.1 h2).1
 have h0 := (Bool.or_eq_false_iff.1 h1).1
 rw [c2 h2, c1 h1, c0 h0]
 simp only [eSh, List.append_assoc]
def relMu (y : Int) (b : Bool) (S S2 : List UInt8) : Prop := PureD Tryz.prog 24 [Bd S b, .int .u64 y] (Bd S2 b)
theorem exMu (y : Int) (hy : fMu y) (S : List UInt8) (b : Bool) (hl : S.length ≤ 1099511627776) : ∃ S2, relMu y b S S2 ∧ ((b || xMu y) = false → S2 = S ++ eMu y) ∧ S2.length ≤ S.length + (eMu y).length := by
 unfold fMu at hy
 have w0 := num_10 (uI_lt y)
 obtain ⟨U1, a0, c0, l0⟩ := bU S b y ⟨hy.1, by have := hy.2; omega⟩ (by omega)
 rw [Bool.or_false] at a0 c0
 refine ⟨U1, a0, fun h => ?_, by simp only [eMu]; omega⟩
 unfold xMu at h
 rw [Bool.or_false] at h
 have h0 := h
 rw [c0 h0]
 rfl
def relWa (y : Int × Int) (b : Bool) (S S2 : List UInt8) : Prop := ∃ T1, PureD Tryz.prog 24 [Bd S b, .int .u64 y.1] (Bd T1 b) ∧ PureD Tryz.prog 23 [Bd T1 b, .int .i64 y.2, .int .i64 1000] (Bd S2 (b || decide (1000 < uI y.2)))
theorem exWa (y : Int × Int) (hy : fWa y) (S : List UInt8) (b : Bool) (hl : S.length ≤ 1099511627776) : ∃ S2, relWa y b S S2 ∧ ((b || xWa y) = false → S2 = S ++ eWa y) ∧ S2.length ≤ S.length + (eWa y).length := by
 unfold fWa at hy
 have w0 := num_10 (uI_lt y.1)
 obtain ⟨U1, a0, c0, l0⟩ := bU S b y.1 ⟨hy.1.1, by have := hy.1.2; omega⟩ (by omega)
 rw [Bool.or_false] at a0 c0
 have w1 := num_10 (uI_lt y.2)
 obtain ⟨U2, a1, c1, l1⟩ := bN U1 b y.2 1000 hy.2 (by omega) (by omega)
 refine ⟨U2, ⟨U1, a0, a1⟩, fun h => ?_, by simp only [eWa, List.length_append]; omega⟩
 unfold xWa at h
 have h1 := h
 have h0 := (Bool.or_eq_false_iff.1 h1).1
 rw [c1 h1, c0 h0]
 simp only [eWa, List.append_assoc]
def relPa (y : Int × Int) (b : Bool) (S S2 : List UInt8) : Prop := ∃ T1, PureD Tryz.prog 24 [Bd S b, .int .u64 y.1] (Bd T1 b) ∧ PureD Tryz.prog 24 [Bd T1 b, .int .u64 y.2] (Bd S2 b)
theorem exPa (y : Int × Int) (hy : fPa y) (S : List UInt8) (b : Bool) (hl : S.length ≤ 1099511627776) : ∃ S2, relPa y b S S2 ∧ ((b || xPa y) = false → S2 = S ++ ePa y) ∧ S2.length ≤ S.length + (ePa y).length := by
 unfold fPa at hy
 have w0 := num_10 (uI_lt y.1)
 obtain ⟨U1, a0, c0, l0⟩ := bU S b y.1 ⟨hy.1.1, by have := hy.1.2; omega⟩ (by omega)
 rw [Bool.or_false] at a0 c0
 have w1 := num_10 (uI_lt y.2)
 obtain ⟨U2, a1, c1, l1⟩ := bU U1 b y.2 ⟨hy.2.1, by have := hy.2.2; omega⟩ (by omega)
 rw [Bool.or_false] at a1 c1
 refine ⟨U2, ⟨U1, a0, a1⟩, fun h => ?_, by simp only [ePa, List.length_append]; omega⟩
 unfold xPa at h
 rw [Bool.or_false] at h
 have h1 := h
 have h0 := h1
 rw [c1 h1, c0 h0]
 simp only [ePa, List.append_assoc]
set_option maxHeartbeats 4000000 in
set_option maxRecDepth 8000 in
theorem bShifts8 (S : List UInt8) (bad : Bool) (xs : List (Int × Int × Int)) (hf : fHs xs) (hl : (S ++ eHs xs).length ≤ 1099511627776) :
  Bst 80 [L (row3 xs), .int .i64 8] S bad (xHs 8 xs) (eHs xs) := by
 unfold fHs at hf
 unfold eHs at hl
 simp only [List.length_append] at hl
 have u1 := uI_nat (k := xs.length) (by have := hf.1; omega)
 obtain ⟨Q1, h1, p1, q1⟩ := bN S bad xs.length 8 (by have := hf.1; constructor <;> omega) (by omega) (by omega)
 rw [u1] at h1 p1 q1
 obtain ⟨s1, z1, ⟨c1, g1⟩, r1⟩ := row_ex (x := xSh) (e := eSh) (Rel := relSh) hf.2 (by rw [List.length_append]; omega) p1 q1 exSh
 rw [← z1, ← bI_zero (x := xSh)] at h1
 obtain ⟨b1, d1⟩ : ∃ b1, b1 = (bad || xRow xSh 8 xs) := ⟨_, rfl⟩
 have y1 : bI bad 8 xSh xs xs.length = b1 := by rw [bI_end, d1]
 rw [← d1] at c1
 obtain ⟨S1, t1⟩ : ∃ S1, S1 = s1 xs.length := ⟨_, rfl⟩
 rw [← t1] at c1 g1
 have eb : (bad || xHs 8 xs) = b1 := by rw [d1]; simp only [xHs]
 refine ⟨S1, ?_, fun h => ?_, by unfold eHs; (try simp only [List.length_append]); omega⟩
 rotate_left
 ·rw [eb] at h
  have k1 := h
  rw [c1 k1]
  simp only [eHs]
 rw [eb]
 clear eb c1 d1
 refine pureV Tryz.func80 low80 (by simp [c80]) ?_
 simp only [c80]
 repeat' ((first | apply Run_seq | apply Run_skip | apply Run_block | apply Run_blk | refine Run_exit rfl ?_ | apply Run_ret | apply Run_nil | apply Run_condK | apply Run_ops mixed | apply Run_opsX mixed | (with_reducible first | refine PostV_open ?_ | refine ro_callV ?_ | refine ro_callVX ?_) | refine CallV_pure (h1) ?_ ?_ | simp (disch := omega) only [w64, wu64, wu32, wu16, wu8, Int.tdiv_eq_ediv_of_nonneg, Int.tmod_eq_emod_of_nonneg] | (refine CondK_split ?_ ?_ <;> intro hc <;> (try simp only [hc]) <;> try simp at hc) | (with_reducible refine ⟨?_, ?_⟩; (focus ((repeat' with_reducible refine ⟨?_, ?_⟩) <;> first | exact trivial | assumption | (simp; done) | (simp only [List.length_map] at *; omega) | omega | (simp [fs]; done) | exact r8_sz))) | (with_reducible intro x hx) | omega) <;> (try simp only [bs_mk, row3_len, Nat.reduceBEq, reduceIte, Nat.reduceAdd, reduceCtorEq, ne_eq, fw, fd]))
 refine Run_loop (ι := {i : Nat // i ≤ xs.length}) (fun i => ([(1, L (row3 xs)), (3, .ptr 0 0 0 1), (6, .ptr 1 0 0 1), (14, .int .i64 xs.length), (15, .int .i64 i.1)], [Vb (s1 i.1) (bI bad 8 xSh xs i.1), Vb [] false])) (fun i => xs.length - i.1) ⟨0, by omega⟩ ?_ ?_
 ·refine Ent_gc [0, 1] (by rfl) (by simp) (by simp [fg]) (by simp [fg])
 rintro ⟨i, hi⟩ hk
 dsimp only at hk ⊢
 by_cases hlt : i < xs.length
 ·have c1 : ((i : Int) < (xs.length : Int)) = True := by simp; omega
  obtain ⟨y, hy⟩ : ∃ y, xs[i]? = some y := ⟨_, List.getElem?_eq_getElem hlt⟩
  have hr := row3_get hy
  have hb : bI bad 8 xSh xs (i + 1) = (bI bad 8 xSh xs i || xSh y) := bI_step hy
  have hm := hf.2 y (List.mem_of_getElem? hy)
  unfold fSh at hm
  obtain ⟨W1, W2, v0, v1, v2⟩ := (r1 i y hy).2
  repeat' ((first | apply Run_seq | apply Run_skip | apply Run_block | apply Run_blk | refine Run_exit rfl ?_ | apply Run_ret | apply Run_nil | apply Run_condK | apply Run_ops mixed | apply Run_opsX mixed | (with_reducible first | refine PostV_open ?_ | refine ro_callV ?_ | refine ro_callVX ?_) | refine CallV_pure (v0) ?_ ?_ | refine CallV_pure (v1) ?_ ?_ | refine CallV_pure (v2) ?_ ?_ | simp (disch := omega) only [w64] | (refine CondK_split ?_ ?_ <;> intro hc <;> (try simp only [hc]) <;> try simp at hc) | (with_reducible refine ⟨?_, ?_⟩; (focus ((repeat' with_reducible refine ⟨?_, ?_⟩) <;> first | exact trivial | assumption | (simp; done) | (simp only [List.length_map] at *; omega) | omega | (simp [fs]; done) | exact r8_sz))) | (with_reducible intro x hx) | omega) <;> (try simp only [row3_len, c1, hr, Nat.reduceBEq, reduceIte, Nat.reduceAdd, fw, fd]))
  refine hk ⟨i + 1, by omega⟩ _ _ (by dsimp only; omega) ?_
  dsimp only
  rw [hb]
  unfold xSh
  simp only [← Bool.or_assoc]
  refine Ent_gc [0, 1] (by rfl) (by simp) (by simp [fg]) (by simp [fg])
 have c1 : ((i : Int) < (xs.length : Int)) = False := by simp; omega
 obtain rfl : i = xs.length := by omega
 clear hk hlt hi
 rw [← t1, y1]
 repeat' ((first | apply Run_seq | apply Run_skip | apply Run_block | apply Run_blk | refine Run_exit rfl ?_ | apply Run_ret | apply Run_nil | apply Run_condK | apply Run_ops mixed | apply Run_opsX mixed | (with_reducible first | refine PostV_open ?_ | refine ro_callV ?_ | refine ro_callVX ?_) | simp (disch := omega) only [w64, wu64, wu32, wu16, wu8, Int.tdiv_eq_ediv_of_nonneg, Int.tmod_eq_emod_of_nonneg] | (refine CondK_split ?_ ?_ <;> intro hc <;> (try simp only [hc]) <;> try simp at hc) | (with_reducible refine ⟨?_, ?_⟩; (focus ((repeat' with_reducible refine ⟨?_, ?_⟩) <;> first | exact trivial | assumption | (simp; done) | (simp only [List.length_map] at *; omega) | omega | (simp [fs]; done) | exact r8_sz))) | (with_reducible intro x hx) | omega) <;> (try simp only [c1, Nat.reduceBEq, reduceIte, Nat.reduceAdd, fw, fd]))
set_option maxHeartbeats 4000000 in
set_option maxRecDepth 8000 in
theorem bQuery (S : List UInt8) (bad : Bool) (q : Qu) (hf : fQu q) (hl : (S ++ eQu q).length ≤ 1099511627776) :
  Bst 67 [.agg q.cells] S bad (xQu q) (eQu q) := by
 unfold fQu at hf
 unfold eQu at hl
 simp only [List.length_append] at hl
 obtain ⟨S1, h1, c1, g1⟩ := bM S bad q.a hf.1 (by omega)
 rw [Bool.or_false] at h1 c1
 obtain ⟨S2, h2, c2, g2⟩ := bM S1 bad q.b hf.2.1 (by omega)
 rw [Bool.or_false] at h2 c2
 obtain ⟨S3, h3, c3, g3⟩ := bN S2 bad q.long 10080 hf.2.2.1 (by omega) (by omega)
 obtain ⟨b3, d3⟩ : ∃ b3, b3 = (bad || decide (10080 < uI q.long)) := ⟨_, rfl⟩
 rw [← d3] at h3 c3
 obtain ⟨S4, h4, c4, g4⟩ := bN S3 b3 q.grid 1440 hf.2.2.2.1 (by omega) (by omega)
 obtain ⟨b4, d4⟩ : ∃ b4, b4 = (b3 || decide (1440 < uI q.grid)) := ⟨_, rfl⟩
 rw [← d4] at h4 c4
 have u5 := uI_nat (k := q.must.length) (by have := hf.2.2.2.2.1.1; omega)
 obtain ⟨Q5, h5, p5, q5⟩ := bN S4 b4 q.must.length 64 (by have := hf.2.2.2.2.1.1; constructor <;> omega) (by omega) (by omega)
 rw [u5] at h5 p5 q5
 obtain ⟨s5, z5, ⟨c5, g5⟩, r5⟩ := row_ex (x := xMu) (e := eMu) (Rel := relMu) hf.2.2.2.2.1.2 (by rw [List.length_append]; omega) p5 q5 exMu
 rw [← z5, ← bI_zero (x := xMu)] at h5
 obtain ⟨b5, d5⟩ : ∃ b5, b5 = (b4 || xRow xMu 64 q.must) := ⟨_, rfl⟩
 have y5 : bI b4 64 xMu q.must q.must.length = b5 := by rw [bI_end, d5]
 rw [← d5] at c5
 obtain ⟨S5, t5⟩ : ∃ S5, S5 = s5 q.must.length := ⟨_, rfl⟩
 rw [← t5] at c5 g5
 have u6 := uI_nat (k := q.may.length) (by have := hf.2.2.2.2.2.1.1; omega)
 obtain ⟨Q6, h6, p6, q6⟩ := bN S5 b5 q.may.length 16 (by have := hf.2.2.2.2.2.1.1; constructor <;> omega) (by omega) (by omega)
 rw [u6] at h6 p6 q6
 obtain ⟨s6, z6, ⟨c6, g6⟩, r6⟩ := row_ex (x := xWa) (e := eWa) (Rel := relWa) hf.2.2.2.2.2.1.2 (by rw [List.length_append]; omega) p6 q6 exWa
 rw [← z6, ← bI_zero (x := xWa)] at h6
 obtain ⟨b6, d6⟩ : ∃ b6, b6 = (b5 || xRow xWa 16 q.may) := ⟨_, rfl⟩
 have y6 : bI b5 16 xWa q.may q.may.length = b6 := by rw [bI_end, d6]
 rw [← d6] at c6
 obtain ⟨S6, t6⟩ : ∃ S6, S6 = s6 q.may.length := ⟨_, rfl⟩
 rw [← t6] at c6 g6
 obtain ⟨S7, h7, c7, g7⟩ := bN S6 b6 q.seats 100 hf.2.2.2.2.2.2.1 (by omega) (by omega)
 obtain ⟨b7, d7⟩ : ∃ b7, b7 = (b6 || decide (100 < uI q.seats)) := ⟨_, rfl⟩
 rw [← d7] at h7 c7
 have u8 := uI_nat (k := q.apart.length) (by have := hf.2.2.2.2.2.2.2.1.1; omega)
 obtain ⟨Q8, h8, p8, q8⟩ := bN S7 b7 q.apart.length 32 (by have := hf.2.2.2.2.2.2.2.1.1; constructor <;> omega) (by omega) (by omega)
 rw [u8] at h8 p8 q8
 obtain ⟨s8, z8, ⟨c8, g8⟩, r8⟩ := row_ex (x := xPa) (e := ePa) (Rel := relPa) hf.2.2.2.2.2.2.2.1.2 (by rw [List.length_append]; omega) p8 q8 exPa
 rw [← z8, ← bI_zero (x := xPa)] at h8
 obtain ⟨b8, d8⟩ : ∃ b8, b8 = (b7 || xRow xPa 32 q.apart) := ⟨_, rfl⟩
 have y8 : bI b7 32 xPa q.apart q.apart.length = b8 := by rw [bI_end, d8]
 rw [← d8] at c8
 obtain ⟨S8, t8⟩ : ∃ S8, S8 = s8 q.apart.length := ⟨_, rfl⟩
 rw [← t8] at c8 g8
 obtain ⟨S9, h9, c9, g9⟩ := bShifts8 S8 b8 q.prefer hf.2.2.2.2.2.2.2.2 (by rw [List.length_append]; omega)
 obtain ⟨b9, d9⟩ : ∃ b9, b9 = (b8 || xHs 8 q.prefer) := ⟨_, rfl⟩
 rw [← d9] at h9 c9
 have eb : (bad || xQu q) = b9 := by rw [d9, d8, d7, d6, d5, d4, d3]; simp only [xQu, Bool.or_assoc]
 refine ⟨S9, ?_, fun h => ?_, by unfold eQu; (try simp only [List.length_append]); omega⟩
 rotate_left
 ·rw [eb] at h
  have k9 := h
  have k8 := k9
  rw [d9, Bool.or_eq_false_iff] at k8
  replace k8 := k8.1
  have k7 := k8
  rw [d8, Bool.or_eq_false_iff] at k7
  replace k7 := k7.1
  have k6 := k7
  rw [d7, Bool.or_eq_false_iff] at k6
  replace k6 := k6.1
  have k5 := k6
  rw [d6, Bool.or_eq_false_iff] at k5
  replace k5 := k5.1
  have k4 := k5
  rw [d5, Bool.or_eq_false_iff] at k4
  replace k4 := k4.1
  have k3 := k4
  rw [d4, Bool.or_eq_false_iff] at k3
  replace k3 := k3.1
  have k2 := k3
  rw [d3, Bool.or_eq_false_iff] at k2
  replace k2 := k2.1
  have k1 := k2
  rw [c9 k9, c8 k8, c7 k7, c6 k6, c5 k5, c4 k4, c3 k3, c2 k2, c1 k1]
  simp only [eQu, List.append_assoc]
 rw [eb]
 clear eb c1 c2 c3 c4 c5 c6 c7 c8 c9 d3 d4 d5 d6 d7 d8 d9
 unfold Qu.cells
 refine pureV Tryz.func67 low67 (by simp [c67]) ?_
 simp only [c67]
 repeat' ((first | apply Run_seq | apply Run_skip | apply Run_block | apply Run_blk | refine Run_exit rfl ?_ | apply Run_ret | apply Run_nil | apply Run_condK | apply Run_ops mixed | apply Run_opsX mixed | (with_reducible first | refine PostV_open ?_ | refine ro_callV ?_ | refine ro_callVX ?_) | refine CallV_pure (h1) ?_ ?_ | refine CallV_pure (h2) ?_ ?_ | refine CallV_pure (h3) ?_ ?_ | refine CallV_pure (h4) ?_ ?_ | refine CallV_pure (h5) ?_ ?_ | refine CallV_pure (h6) ?_ ?_ | refine CallV_pure (h7) ?_ ?_ | refine CallV_pure (h8) ?_ ?_ | refine CallV_pure (h9) ?_ ?_ | simp (disch := omega) only [w64, wu64, wu32, wu16, wu8, Int.tdiv_eq_ediv_of_nonneg, Int.tmod_eq_emod_of_nonneg] | (refine CondK_split ?_ ?_ <;> intro hc <;> (try simp only [hc]) <;> try simp at hc) | (with_reducible refine ⟨?_, ?_⟩; (focus ((repeat' with_reducible refine ⟨?_, ?_⟩) <;> first | exact trivial | assumption | (simp; done) | (simp only [List.length_map] at *; omega) | omega | (simp [fs]; done) | exact r8_sz))) | (with_reducible intro x hx) | omega) <;> (try simp only [bs_mk, row1_len, Nat.reduceBEq, reduceIte, Nat.reduceAdd, reduceCtorEq, ne_eq, fw, fd]))
 refine Run_loop (ι := {i : Nat // i ≤ q.must.length}) (fun i => ([(2, .ptr 0 0 0 1), (3, .ptr 1 0 0 1), (4, .ptr 2 0 0 1), (29, .int .i64 q.must.length), (30, .int .i64 i.1)], [Vb (s5 i.1) (bI b4 64 xMu q.must i.1), Va 9 [.int .i64 q.a, .int .i64 q.b, .int .i64 q.long, .int .i64 q.grid, L (row1 .u32 q.must), L (row2 .u32 .i64 q.may), .int .i64 q.seats, L (row2 .u32 .u32 q.apart), L (row3 q.prefer)], Vb [] false])) (fun i => q.must.length - i.1) ⟨0, by omega⟩ ?_ ?_
 ·refine Ent_gc [0, 1, 2] (by rfl) (by simp) (by simp [fg]) (by simp [fg])
 rintro ⟨i, hi⟩ hk
 dsimp only at hk ⊢
 by_cases hlt : i < q.must.length
 ·have c1 : ((i : Int) < (q.must.length : Int)) = True := by simp; omega
  obtain ⟨y, hy⟩ : ∃ y, q.must[i]? = some y := ⟨_, List.getElem?_eq_getElem hlt⟩
  have hr := row1_get (k := .u32) hy
  have hb : bI b4 64 xMu q.must (i + 1) = (bI b4 64 xMu q.must i || xMu y) := bI_step hy
  have hm := hf.2.2.2.2.1.2 y (List.mem_of_getElem? hy)
  unfold fMu at hm
  have v0 := (r5 i y hy).2
  unfold relMu at v0
  have o0 : IntKind.u64.wrap y = y := by rw [wu64m]; have := hm; omega
  repeat' ((first | apply Run_seq | apply Run_skip | apply Run_block | apply Run_blk | refine Run_exit rfl ?_ | apply Run_ret | apply Run_nil | apply Run_condK | apply Run_ops mixed | apply Run_opsX mixed | (with_reducible first | refine PostV_open ?_ | refine ro_callV ?_ | refine ro_callVX ?_) | refine CallV_pure (v0) ?_ ?_ | simp (disch := omega) only [w64] | (refine CondK_split ?_ ?_ <;> intro hc <;> (try simp only [hc]) <;> try simp at hc) | (with_reducible refine ⟨?_, ?_⟩; (focus ((repeat' with_reducible refine ⟨?_, ?_⟩) <;> first | exact trivial | assumption | (simp; done) | (simp only [List.length_map] at *; omega) | omega | (simp [fs]; done) | exact r8_sz))) | (with_reducible intro x hx) | omega) <;> (try simp only [row1_len, c1, hr, o0, Nat.reduceBEq, reduceIte, Nat.reduceAdd, fw, fd]))
  refine hk ⟨i + 1, by omega⟩ _ _ (by dsimp only; omega) ?_
  dsimp only
  rw [hb]
  unfold xMu
  rw [Bool.or_false]
  refine Ent_gc [0, 1, 2] (by rfl) (by simp) (by simp [fg]) (by simp [fg])
 have c1 : ((i : Int) < (q.must.length : Int)) = False := by simp; omega
 obtain rfl : i = q.must.length := by omega
 clear hk hlt hi
 rw [← t5, y5]
 repeat' ((first | apply Run_seq | apply Run_skip | apply Run_block | apply Run_blk | refine Run_exit rfl ?_ | apply Run_ret | apply Run_nil | apply Run_condK | apply Run_ops mixed | apply Run_opsX mixed | (with_reducible first | refine PostV_open ?_ | refine ro_callV ?_ | refine ro_callVX ?_) | refine CallV_pure (h6) ?_ ?_ | refine CallV_pure (h7) ?_ ?_ | refine CallV_pure (h8) ?_ ?_ | refine CallV_pure (h9) ?_ ?_ | simp (disch := omega) only [w64, wu64, wu32, wu16, wu8, Int.tdiv_eq_ediv_of_nonneg, Int.tmod_eq_emod_of_nonneg] | (refine CondK_split ?_ ?_ <;> intro hc <;> (try simp only [hc]) <;> try simp at hc) | (with_reducible refine ⟨?_, ?_⟩; (focus ((repeat' with_reducible refine ⟨?_, ?_⟩) <;> first | exact trivial | assumption | (simp; done) | (simp only [List.length_map] at *; omega) | omega | (simp [fs]; done) | exact r8_sz))) | (with_reducible intro x hx) | omega) <;> (try simp only [row2_len, c1, Nat.reduceBEq, reduceIte, Nat.reduceAdd, fw, fd]))
 refine Run_loop (ι := {i : Nat // i ≤ q.may.length}) (fun i => ([(2, .ptr 0 0 0 1), (3, .ptr 1 0 0 1), (4, .ptr 2 0 0 1), (49, .int .i64 q.may.length), (50, .int .i64 i.1)], [Vb (s6 i.1) (bI b5 16 xWa q.may i.1), Va 9 [.int .i64 q.a, .int .i64 q.b, .int .i64 q.long, .int .i64 q.grid, L (row1 .u32 q.must), L (row2 .u32 .i64 q.may), .int .i64 q.seats, L (row2 .u32 .u32 q.apart), L (row3 q.prefer)], Vb [] false])) (fun i => q.may.length - i.1) ⟨0, by omega⟩ ?_ ?_
 ·refine Ent_gc [0, 1, 2] (by rfl) (by simp) (by simp [fg]) (by simp [fg])
 rintro ⟨i, hi⟩ hk
 dsimp only at hk ⊢
 by_cases hlt : i < q.may.length
 ·have c1 : ((i : Int) < (q.may.length : Int)) = True := by simp; omega
  obtain ⟨y, hy⟩ : ∃ y, q.may[i]? = some y := ⟨_, List.getElem?_eq_getElem hlt⟩
  have hr := row2_get (k := .u32) (m := .i64) hy
  have hb : bI b5 16 xWa q.may (i + 1) = (bI b5 16 xWa q.may i || xWa y) := bI_step hy
  have hm := hf.2.2.2.2.2.1.2 y (List.mem_of_getElem? hy)
  unfold fWa at hm
  obtain ⟨W1, v0, v1⟩ := (r6 i y hy).2
  have o0 : IntKind.u64.wrap y.1 = y.1 := by rw [wu64m]; have := hm.1; omega
  repeat' ((first | apply Run_seq | apply Run_skip | apply Run_block | apply Run_blk | refine Run_exit rfl ?_ | apply Run_ret | apply Run_nil | apply Run_condK | apply Run_ops mixed | apply Run_opsX mixed | (with_reducible first | refine PostV_open ?_ | refine ro_callV ?_ | refine ro_callVX ?_) | refine CallV_pure (v0) ?_ ?_ | refine CallV_pure (v1) ?_ ?_ | simp (disch := omega) only [w64] | (refine CondK_split ?_ ?_ <;> intro hc <;> (try simp only [hc]) <;> try simp at hc) | (with_reducible refine ⟨?_, ?_⟩; (focus ((repeat' with_reducible refine ⟨?_, ?_⟩) <;> first | exact trivial | assumption | (simp; done) | (simp only [List.length_map] at *; omega) | omega | (simp [fs]; done) | exact r8_sz))) | (with_reducible intro x hx) | omega) <;> (try simp only [row2_len, c1, hr, o0, Nat.reduceBEq, reduceIte, Nat.reduceAdd, fw, fd]))
  refine hk ⟨i + 1, by omega⟩ _ _ (by dsimp only; omega) ?_
  dsimp only
  rw [hb]
  unfold xWa
  refine Ent_gc [0, 1, 2] (by rfl) (by simp) (by simp [fg]) (by simp [fg])
 have c1 : ((i : Int) < (q.may.length : Int)) = False := by simp; omega
 obtain rfl : i = q.may.length := by omega
 clear hk hlt hi
 rw [← t6, y6]
 repeat' ((first | apply Run_seq | apply Run_skip | apply Run_block | apply Run_blk | refine Run_exit rfl ?_ | apply Run_ret | apply Run_nil | apply Run_condK | apply Run_ops mixed | apply Run_opsX mixed | (with_reducible first | refine PostV_open ?_ | refine ro_callV ?_ | refine ro_callVX ?_) | refine CallV_pure (h7) ?_ ?_ | refine CallV_pure (h8) ?_ ?_ | refine CallV_pure (h9) ?_ ?_ | simp (disch := omega) only [w64, wu64, wu32, wu16, wu8, Int.tdiv_eq_ediv_of_nonneg, Int.tmod_eq_emod_of_nonneg] | (refine CondK_split ?_ ?_ <;> intro hc <;> (try simp only [hc]) <;> try simp at hc) | (with_reducible refine ⟨?_, ?_⟩; (focus ((repeat' with_reducible refine ⟨?_, ?_⟩) <;> first | exact trivial | assumption | (simp; done) | (simp only [List.length_map] at *; omega) | omega | (simp [fs]; done) | exact r8_sz))) | (with_reducible intro x hx) | omega) <;> (try simp only [row2_len, c1, Nat.reduceBEq, reduceIte, Nat.reduceAdd, reduceCtorEq, fw, fd]))
 refine Run_loop (ι := {i : Nat // i ≤ q.apart.length}) (fun i => ([(2, .ptr 0 0 0 1), (3, .ptr 1 0 0 1), (4, .ptr 2 0 0 1), (80, .int .i64 q.apart.length), (81, .int .i64 i.1)], [Vb (s8 i.1) (bI b7 32 xPa q.apart i.1), Va 9 [.int .i64 q.a, .int .i64 q.b, .int .i64 q.long, .int .i64 q.grid, L (row1 .u32 q.must), L (row2 .u32 .i64 q.may), .int .i64 q.seats, L (row2 .u32 .u32 q.apart), L (row3 q.prefer)], Vb [] false])) (fun i => q.apart.length - i.1) ⟨0, by omega⟩ ?_ ?_
 ·refine Ent_gc [0, 1, 2] (by rfl) (by simp) (by simp [fg]) (by simp [fg])
 rintro ⟨i, hi⟩ hk
 dsimp only at hk ⊢
 by_cases hlt : i < q.apart.length
 ·have c1 : ((i : Int) < (q.apart.length : Int)) = True := by simp; omega
  obtain ⟨y, hy⟩ : ∃ y, q.apart[i]? = some y := ⟨_, List.getElem?_eq_getElem hlt⟩
  have hr := row2_get (k := .u32) (m := .u32) hy
  have hb : bI b7 32 xPa q.apart (i + 1) = (bI b7 32 xPa q.apart i || xPa y) := bI_step hy
  have hm := hf.2.2.2.2.2.2.2.1.2 y (List.mem_of_getElem? hy)
  unfold fPa at hm
  obtain ⟨W1, v0, v1⟩ := (r8 i y hy).2
  have o0 : IntKind.u64.wrap y.1 = y.1 := by rw [wu64m]; have := hm.1; omega
  have o1 : IntKind.u64.wrap y.2 = y.2 := by rw [wu64m]; have := hm.2; omega
  repeat' ((first | apply Run_seq | apply Run_skip | apply Run_block | apply Run_blk | refine Run_exit rfl ?_ | apply Run_ret | apply Run_nil | apply Run_condK | apply Run_ops mixed | apply Run_opsX mixed | (with_reducible first | refine PostV_open ?_ | refine ro_callV ?_ | refine ro_callVX ?_) | refine CallV_pure (v0) ?_ ?_ | refine CallV_pure (v1) ?_ ?_ | simp (disch := omega) only [w64] | (refine CondK_split ?_ ?_ <;> intro hc <;> (try simp only [hc]) <;> try simp at hc) | (with_reducible refine ⟨?_, ?_⟩; (focus ((repeat' with_reducible refine ⟨?_, ?_⟩) <;> first | exact trivial | assumption | (simp; done) | (simp only [List.length_map] at *; omega) | omega | (simp [fs]; done) | exact r8_sz))) | (with_reducible intro x hx) | omega) <;> (try simp only [row2_len, c1, hr, o0, o1, Nat.reduceBEq, reduceIte, Nat.reduceAdd, fw, fd]))
  refine hk ⟨i + 1, by omega⟩ _ _ (by dsimp only; omega) ?_
  dsimp only
  rw [hb]
  unfold xPa
  rw [Bool.or_false]
  refine Ent_gc [0, 1, 2] (by rfl) (by simp) (by simp [fg]) (by simp [fg])
 have c1 : ((i : Int) < (q.apart.length : Int)) = False := by simp; omega
 obtain rfl : i = q.apart.length := by omega
 clear hk hlt hi
 rw [← t8, y8]
 repeat' ((first | apply Run_seq | apply Run_skip | apply Run_block | apply Run_blk | refine Run_exit rfl ?_ | apply Run_ret | apply Run_nil | apply Run_condK | apply Run_ops mixed | apply Run_opsX mixed | (with_reducible first | refine PostV_open ?_ | refine ro_callV ?_ | refine ro_callVX ?_) | refine CallV_pure (h9) ?_ ?_ | simp (disch := omega) only [w64, wu64, wu32, wu16, wu8, Int.tdiv_eq_ediv_of_nonneg, Int.tmod_eq_emod_of_nonneg] | (refine CondK_split ?_ ?_ <;> intro hc <;> (try simp only [hc]) <;> try simp at hc) | (with_reducible refine ⟨?_, ?_⟩; (focus ((repeat' with_reducible refine ⟨?_, ?_⟩) <;> first | exact trivial | assumption | (simp; done) | (simp only [List.length_map] at *; omega) | omega | (simp [fs]; done) | exact r8_sz))) | (with_reducible intro x hx) | omega) <;> (try simp only [c1, Nat.reduceBEq, reduceIte, Nat.reduceAdd, fw, fd]))
end Go.Proofs.YtgefljdclekadaaGreat

namespace Go.Proofs.YtgefljdclekadaaGreat
open Go Go.Vi



def relVo (y : Int × Int) (b : Bool) (S S2 : List UInt8) : Prop := ∃ T1, PureD Tryz.prog 24 [Bd S b, .int .u64 y.1] (Bd T1 b) ∧ PureD Tryz.prog 23 [Bd T1 b, .int .i64 y.2, .int .i64 40] (Bd S2 (b || decide (40 < uI y.2)))
theorem exVo (y : Int × Int) (hy : fVo y) (S : List UInt8) (b : Bool) (hl : S.length ≤ 1099511627776) : ∃ S2, relVo y b S S2 ∧ ((b || xVo y) = false → S2 = S ++ eVo y) ∧ S2.length ≤ S.length + (eVo y).length := by
 unfold fVo at hy
 have w0 := num_10 (uI_lt y.1)
 obtain ⟨U1, a0, c0, l0⟩ := bU S b y.1 ⟨hy.1.1, by have := hy.1.2; omega⟩ (by omega)
 rw [Bool.or_false] at a0 c0
 have w1 := num_10 (uI_lt y.2)
 obtain ⟨U2, a1, c1, l1⟩ := bN U1 b y.2 40 hy.2 (by omega) (by omega)
 refine ⟨U2, ⟨U1, a0, a1⟩, fun h => ?_, by simp only [eVo, List.length_append]; omega⟩
 unfold xVo at h
 have h1 := h
 have h0 := (Bool.or_eq_false_iff.1 h1).1
 rw [c1 h1, c0 h0]
 simp only [eVo, List.append_assoc]
set_option maxHeartbeats 4000000 in
set_option maxRecDepth 8000 in
theorem bPoll (S : List UInt8) (bad : Bool) (p : Po) (hf : fPo p) (hl : (S ++ ePo p).length ≤ 1099511627776) :
  Bst 28 [.agg p.row] S bad (xPo p) (ePo p) := by
 unfold fPo at hf
 unfold ePo at hl
 simp only [List.length_append] at hl
 obtain ⟨S1, h1, c1, g1⟩ := bU S bad p.id ⟨hf.1.1, by have := hf.1.2; omega⟩ (by omega)
 rw [Bool.or_false] at h1 c1
 obtain ⟨S2, h2, c2, g2⟩ := bU S1 bad p.owner ⟨hf.2.1.1, by have := hf.2.1.2; omega⟩ (by omega)
 rw [Bool.or_false] at h2 c2
 obtain ⟨S3, h3, c3, g3⟩ := bQuery S2 bad p.qu hf.2.2.1 (by rw [List.length_append]; omega)
 obtain ⟨b3, d3⟩ : ∃ b3, b3 = (bad || xQu p.qu) := ⟨_, rfl⟩
 rw [← d3] at h3 c3
 obtain ⟨S4, h4, c4, g4⟩ := bStamps S3 b3 p.slots 40 (by omega) hf.2.2.2.1.1 hf.2.2.2.1.2 (by rw [List.length_append]; omega)
 obtain ⟨b4, d4⟩ : ∃ b4, b4 = (b3 || xRow xTs 40 p.slots) := ⟨_, rfl⟩
 rw [← d4] at h4 c4
 have u5 := uI_nat (k := p.votes.length) (by have := hf.2.2.2.2.1.1; omega)
 obtain ⟨Q5, h5, p5, q5⟩ := bN S4 b4 p.votes.length 4096 (by have := hf.2.2.2.2.1.1; constructor <;> omega) (by omega) (by omega)
 rw [u5] at h5 p5 q5
 obtain ⟨s5, z5, ⟨c5, g5⟩, r5⟩ := row_ex (x := xVo) (e := eVo) (Rel := relVo) hf.2.2.2.2.1.2 (by rw [List.length_append]; omega) p5 q5 exVo
 rw [← z5, ← bI_zero (x := xVo)] at h5
 obtain ⟨b5, d5⟩ : ∃ b5, b5 = (b4 || xRow xVo 4096 p.votes) := ⟨_, rfl⟩
 have y5 : bI b4 4096 xVo p.votes p.votes.length = b5 := by rw [bI_end, d5]
 rw [← d5] at c5
 obtain ⟨S5, t5⟩ : ∃ S5, S5 = s5 p.votes.length := ⟨_, rfl⟩
 rw [← t5] at c5 g5
 obtain ⟨S6, h6, c6, g6⟩ := bM S5 b5 p.til hf.2.2.2.2.2.1 (by omega)
 rw [Bool.or_false] at h6 c6
 obtain ⟨S7, h7, c7, g7⟩ := bN S6 b5 p.state 4 hf.2.2.2.2.2.2.1 (by omega) (by omega)
 obtain ⟨b7, d7⟩ : ∃ b7, b7 = (b5 || decide (4 < uI p.state)) := ⟨_, rfl⟩
 rw [← d7] at h7 c7
 obtain ⟨S8, h8, c8, g8⟩ := bN S7 b7 p.winner 40 hf.2.2.2.2.2.2.2 (by omega) (by omega)
 obtain ⟨b8, d8⟩ : ∃ b8, b8 = (b7 || decide (40 < uI p.winner)) := ⟨_, rfl⟩
 rw [← d8] at h8 c8
 have eb : (bad || xPo p) = b8 := by rw [d8, d7, d5, d4, d3]; simp only [xPo, Bool.or_assoc]
 refine ⟨S8, ?_, fun h => ?_, by unfold ePo; (try simp only [List.length_append]); omega⟩
 rotate_left
 ·rw [eb] at h
  have k8 := h
  have k7 := k8
  rw [d8, Bool.or_eq_false_iff] at k7
  replace k7 := k7.1
  have k6 := k7
  rw [d7, Bool.or_eq_false_iff] at k6
  replace k6 := k6.1
  have k5 := k6
  have k4 := k5
  rw [d5, Bool.or_eq_false_iff] at k4
  replace k4 := k4.1
  have k3 := k4
  rw [d4, Bool.or_eq_false_iff] at k3
  replace k3 := k3.1
  have k2 := k3
  rw [d3, Bool.or_eq_false_iff] at k2
  replace k2 := k2.1
  have k1 := k2
  rw [c8 k8, c7 k7, c6 k6, c5 k5, c4 k4, c3 k3, c2 k2, c1 k1]
  simp only [ePo, List.append_assoc]
 rw [eb]
 clear eb c1 c2 c3 c4 c5 c6 c7 c8 d3 d4 d5 d7 d8
 unfold Po.row
 unfold Qu.cells at h3
 have oa : IntKind.u64.wrap p.id = p.id := by rw [wu64m]; have := hf.1; omega
 have ob : IntKind.u64.wrap p.owner = p.owner := by rw [wu64m]; have := hf.2.1; omega
 refine pureV Tryz.func28 low28 (by simp [c28]) ?_
 simp only [c28]
 repeat' ((first | apply Run_seq | apply Run_skip | apply Run_block | apply Run_blk | refine Run_exit rfl ?_ | apply Run_ret | apply Run_nil | apply Run_condK | apply Run_ops mixed | apply Run_opsX mixed | (with_reducible first | refine PostV_open ?_ | refine ro_callVX ?_) | refine CallV_pure (h1) ?_ ?_ | refine CallV_pure (h2) ?_ ?_ | refine CallV_pure (h3) ?_ ?_ | refine CallV_pure (h4) ?_ ?_ | refine CallV_pure (h5) ?_ ?_ | refine CallV_pure (h6) ?_ ?_ | refine CallV_pure (h7) ?_ ?_ | refine CallV_pure (h8) ?_ ?_ | simp (disch := omega) only [w64, wu64, wu32, wu16, wu8, Int.tdiv_eq_ediv_of_nonneg, Int.tmod_eq_emod_of_nonneg] | (refine CondK_split ?_ ?_ <;> intro hc <;> (try simp only [hc]) <;> try simp at hc) | (with_reducible refine ⟨?_, ?_⟩; (focus ((repeat' with_reducible refine ⟨?_, ?_⟩) <;> first | exact trivial | assumption | (simp; done) | (simp only [List.length_map] at *; omega) | omega | (simp [fs]; done) | exact r8_sz))) | (with_reducible intro x hx) | omega) <;> (try simp only [bs_mk, row2_len, oa, ob, Nat.reduceBEq, reduceIte, Nat.reduceAdd, Nat.reduceLeDiff, reduceCtorEq, ne_eq, fw, fd]))
 refine Run_loop (ι := {i : Nat // i ≤ p.votes.length}) (fun i => ([(2, .ptr 0 0 0 1), (3, .ptr 1 0 0 1), (4, .ptr 2 0 0 1), (27, .int .i64 p.votes.length), (28, .int .i64 i.1)], [Vb (s5 i.1) (bI b4 4096 xVo p.votes i.1), Va 16 [.int .u32 p.id, .int .u32 p.owner, .int .i64 p.qu.a, .int .i64 p.qu.b, .int .i64 p.qu.long, .int .i64 p.qu.grid, L (row1 .u32 p.qu.must), L (row2 .u32 .i64 p.qu.may), .int .i64 p.qu.seats, L (row2 .u32 .u32 p.qu.apart), L (row3 p.qu.prefer), L (row1 .i64 p.slots), L (row2 .u32 .i64 p.votes), .int .i64 p.til, .int .i64 p.state, .int .i64 p.winner], Vb [] false])) (fun i => p.votes.length - i.1) ⟨0, by omega⟩ ?_ ?_
 ·refine Ent_gc [0, 1, 2] (by rfl) (by simp) (by simp [fg]) (by simp [fg])
 rintro ⟨i, hi⟩ hk
 dsimp only at hk ⊢
 by_cases hlt : i < p.votes.length
 ·have c1 : ((i : Int) < (p.votes.length : Int)) = True := by simp; omega
  obtain ⟨y, hy⟩ : ∃ y, p.votes[i]? = some y := ⟨_, List.getElem?_eq_getElem hlt⟩
  have hr := row2_get (k := .u32) (m := .i64) hy
  have hb : bI b4 4096 xVo p.votes (i + 1) = (bI b4 4096 xVo p.votes i || xVo y) := bI_step hy
  have hm := hf.2.2.2.2.1.2 y (List.mem_of_getElem? hy)
  unfold fVo at hm
  obtain ⟨W1, v0, v1⟩ := (r5 i y hy).2
  have o0 : IntKind.u64.wrap y.1 = y.1 := by rw [wu64m]; have := hm.1; omega
  repeat' ((first | apply Run_seq | apply Run_skip | apply Run_block | apply Run_blk | refine Run_exit rfl ?_ | apply Run_ret | apply Run_nil | apply Run_condK | apply Run_ops mixed | apply Run_opsX mixed | (with_reducible first | refine PostV_open ?_ | refine ro_callVX ?_) | refine CallV_pure (v0) ?_ ?_ | refine CallV_pure (v1) ?_ ?_ | simp (disch := omega) only [w64] | (refine CondK_split ?_ ?_ <;> intro hc <;> (try simp only [hc]) <;> try simp at hc) | (with_reducible refine ⟨?_, ?_⟩; (focus ((repeat' with_reducible refine ⟨?_, ?_⟩) <;> first | exact trivial | assumption | (simp; done) | (simp only [List.length_map] at *; omega) | omega | (simp [fs]; done) | exact r8_sz))) | (with_reducible intro x hx) | omega) <;> (try simp only [row2_len, c1, hr, o0, Nat.reduceBEq, reduceIte, Nat.reduceAdd, fw, fd]))
  refine hk ⟨i + 1, by omega⟩ _ _ (by dsimp only; omega) ?_
  dsimp only
  rw [hb]
  unfold xVo
  refine Ent_gc [0, 1, 2] (by rfl) (by simp) (by simp [fg]) (by simp [fg])
 have c1 : ((i : Int) < (p.votes.length : Int)) = False := by simp; omega
 obtain rfl : i = p.votes.length := by omega
 clear hk hlt hi
 rw [← t5, y5]
 repeat' ((first | apply Run_seq | apply Run_skip | apply Run_block | apply Run_blk | refine Run_exit rfl ?_ | apply Run_ret | apply Run_nil | apply Run_condK | apply Run_ops mixed | apply Run_opsX mixed | (with_reducible first | refine PostV_open ?_ | refine ro_callVX ?_) | refine CallV_pure (h6) ?_ ?_ | refine CallV_pure (h7) ?_ ?_ | refine CallV_pure (h8) ?_ ?_ | simp (disch := omega) only [w64, wu64, wu32, wu16, wu8, Int.tdiv_eq_ediv_of_nonneg, Int.tmod_eq_emod_of_nonneg] | (refine CondK_split ?_ ?_ <;> intro hc <;> (try simp only [hc]) <;> try simp at hc) | (with_reducible refine ⟨?_, ?_⟩; (focus ((repeat' with_reducible refine ⟨?_, ?_⟩) <;> first | exact trivial | assumption | (simp; done) | (simp only [List.length_map] at *; omega) | omega | (simp [fs]; done) | exact r8_sz))) | (with_reducible intro x hx) | omega) <;> (try simp only [c1, Nat.reduceBEq, reduceIte, Nat.reduceAdd, fw, fd]))
end Go.Proofs.YtgefljdclekadaaGreat

namespace Go.Proofs.YtgefljdclekadaaGreat
open Go Go.Vi



def relSl (y : Int × Int × Int) (b : Bool) (S S2 : List UInt8) : Prop := ∃ T1 T2, PureD Tryz.prog 25 [Bd S b, .int .i64 y.1] (Bd T1 b) ∧ PureD Tryz.prog 23 [Bd T1 b, .int .i64 y.2.1, .int .i64 100000] (Bd T2 (b || decide (100000 < uI y.2.1))) ∧ PureD Tryz.prog 23 [Bd T2 (b || decide (100000 < uI y.2.1)), .int .i64 y.2.2, .int .i64 100] (Bd S2 ((b || decide (100000 < uI y.2.1)) || decide (100 < uI y.2.2)))
theorem exSl (y : Int × Int × Int) (hy : fSl y) (S : List UInt8) (b : Bool) (hl : S.length ≤ 1099511627776) : ∃ S2, relSl y b S S2 ∧ ((b || xSl y) = false → S2 = S ++ eSl y) ∧ S2.length ≤ S.length + (eSl y).length := by
 unfold fSl at hy
 have w0 := num_10 (zz_lt hy.1.1 hy.1.2)
 obtain ⟨U1, a0, c0, l0⟩ := bM S b y.1 hy.1 (by omega)
 rw [Bool.or_false] at a0 c0
 have w1 := num_10 (uI_lt y.2.1)
 obtain ⟨U2, a1, c1, l1⟩ := bN U1 b y.2.1 100000 hy.2.1 (by omega) (by omega)
 have w2 := num_10 (uI_lt y.2.2)
 obtain ⟨U3, a2, c2, l2⟩ := bN U2 (b || decide (100000 < uI y.2.1)) y.2.2 100 hy.2.2 (by omega) (by omega)
 refine ⟨U3, ⟨U1, U2, a0, a1, a2⟩, fun h => ?_, by simp only [eSl, List.length_append]; omega⟩
 unfold xSl at h
 simp only [← Bool.or_assoc] at h
 have h2 := h
 have h1 := (Bool.or_eq_false_iff.1 h2).1
 have h0 := (Bool.or_eq_false_iff.1 h1).1
 rw [c2 h2, c1 h1, c0 h0]
 simp only [eSl, List.append_assoc]
set_option maxHeartbeats 8000000 in
set_option maxRecDepth 8000 in
theorem refRe0_p (r : Re) (hi : r.po.id = 0) (hfit : r.fits) (hf : fRe0 r) (hl : ([] ++ eRe0 r : List UInt8).length ≤ 1099511627776) : PureD Tryz.prog 8 [.agg r.cells] (if (!xRe0 r && decide ((eRe0 r).length ≤ 65536) && decide (r.po = Po0)) = true then .tup [.str (bs (eRe0 r)), .bool true] else .tup [.str (bs []), .bool false]) := by
 unfold fRe0 at hf
 unfold eRe0 at hl
 simp only [List.length_append] at hl
 obtain ⟨S1, h1, c1, g1⟩ := bN [] false r.err 13 hf.1 (by omega) (by omega)
 obtain ⟨b1, d1⟩ : ∃ b1, b1 = (false || decide (13 < uI r.err)) := ⟨_, rfl⟩
 rw [← d1] at h1 c1
 obtain ⟨S2, h2, c2, g2⟩ := bU S1 b1 r.ver ⟨hf.2.1.1, by have := hf.2.1.2; omega⟩ (by omega)
 rw [Bool.or_false] at h2 c2
 have u3 := uI_nat (k := r.slots.length) (by have := hf.2.2.1.1; omega)
 obtain ⟨Q3, h3, p3, q3⟩ := bN S2 b1 r.slots.length 100 (by have := hf.2.2.1.1; constructor <;> omega) (by omega) (by omega)
 rw [u3] at h3 p3 q3
 obtain ⟨s3, z3, ⟨c3, g3⟩, r3⟩ := row_ex (x := xSl) (e := eSl) (Rel := relSl) hf.2.2.1.2 (by rw [List.length_append]; omega) p3 q3 exSl
 rw [← z3, ← bI_zero (x := xSl)] at h3
 obtain ⟨b3, d3⟩ : ∃ b3, b3 = (b1 || xRow xSl 100 r.slots) := ⟨_, rfl⟩
 have y3 : bI b1 100 xSl r.slots r.slots.length = b3 := by rw [bI_end, d3]
 rw [← d3] at c3
 obtain ⟨S3, t3⟩ : ∃ S3, S3 = s3 r.slots.length := ⟨_, rfl⟩
 rw [← t3] at c3 g3
 obtain ⟨S4, h4, c4, g4⟩ := bT S3 b3 r.cursor 64 hf.2.2.2.1 (by omega)
 obtain ⟨b4, d4⟩ : ∃ b4, b4 = (b3 || decide (((64 : Nat) : Int) < (r.cursor.size : Int))) := ⟨_, rfl⟩
 rw [← d4] at h4 c4
 obtain ⟨S5, h5, c5, g5⟩ := bF S4 b4 false (by omega)
 rw [Bool.or_false] at h5 c5
 have eb : xRe0 r = b4 := by rw [d4, d3, d1]; simp only [xRe0, Bool.or_assoc, Bool.false_or]; try rfl
 have es : b4 = false → S5 = eRe0 r := fun h => by
  have k5 := h
  have k4 := k5
  have k3 := k4
  rw [d4, Bool.or_eq_false_iff] at k3
  replace k3 := k3.1
  have k2 := k3
  rw [d3, Bool.or_eq_false_iff] at k2
  replace k2 := k2.1
  have k1 := k2
  rw [c5 k5, c4 k4, c3 k3, c2 k2, c1 k1]
  simp only [eRe0, List.append_assoc, List.nil_append]
 rw [eb]
 have gl : S5.length ≤ 1099511627776 := by simp only [List.length_nil] at *; omega
 clear eb c1 c2 c3 c4 c5 d1 d3 d4
 have sp := samePo_p r.po Po0 hfit.2 (by simp [Po0, Po.fits, Qu.fits])
 have u0 : ((0 : Int) != 0) = false := rfl
 by_cases hd : r.po = Po0
 ·rw [decide_eq_true hd] at sp
  cases b4
  ·obtain rfl := es rfl
   by_cases hg : (eRe0 r).length ≤ 65536
   ·have c2 : (((eRe0 r).length : Int) > 65536) = False := by simp; omega
    rw [if_pos (by simp [hg, hd])]
    refine pureV Tryz.func8 low8 (by simp [c8]) ?_
    simp only [c8]
    simp only [Re.cells, Po.row] at sp ⊢
    simp only [hi] at sp ⊢
    repeat' ((first | apply Run_seq | apply Run_skip | apply Run_block | apply Run_blk | refine Run_exit rfl ?_ | apply Run_ret | apply Run_nil | apply Run_condK | apply Run_ops mixed | apply Run_opsX mixed | (with_reducible first | refine PostV_open ?_ | refine ro_callV ?_ | refine ro_callVX ?_) | refine CallV_pure (h1) ?_ ?_ | refine CallV_pure (h2) ?_ ?_ | refine CallV_pure (h3) ?_ ?_ | refine CallV_pure (h4) ?_ ?_ | refine CallV_pure (h5) ?_ ?_ | simp (disch := omega) only [w64, wu64, wu32, wu16, wu8, Int.tdiv_eq_ediv_of_nonneg, Int.tmod_eq_emod_of_nonneg] | ((first | refine GuardK_split ?_ ?_ | refine CondK_split ?_ ?_) <;> intro hc <;> (try simp only [hc]) <;> try simp at hc) | (with_reducible refine ⟨?_, ?_⟩; (focus ((repeat' with_reducible refine ⟨?_, ?_⟩) <;> first | exact trivial | assumption | (simp; done) | (simp only [List.length_map] at *; omega) | omega | (simp [fs]; done) | exact r8_sz))) | (with_reducible intro x hx) | omega) <;> (try simp only [bs_mk, row3_len, Nat.reduceBEq, reduceIte, Nat.reduceAdd, reduceCtorEq, ne_eq, fw, fd]))
    refine Run_loop (ι := {i : Nat // i ≤ r.slots.length}) (fun i => ([(1, .ptr 0 0 0 1), (2, .str (bs [])), (3, .bool false), (4, .ptr 1 0 0 1), (19, .int .i64 r.slots.length), (20, .int .i64 i.1)], [Va 20 [.int .i64 r.err, .int .u64 r.ver, L (row3 r.slots), .str r.cursor, .int .u32 0, .int .u32 r.po.owner, .int .i64 r.po.qu.a, .int .i64 r.po.qu.b, .int .i64 r.po.qu.long, .int .i64 r.po.qu.grid, L (row1 .u32 r.po.qu.must), L (row2 .u32 .i64 r.po.qu.may), .int .i64 r.po.qu.seats, L (row2 .u32 .u32 r.po.qu.apart), L (row3 r.po.qu.prefer), L (row1 .i64 r.po.slots), L (row2 .u32 .i64 r.po.votes), .int .i64 r.po.til, .int .i64 r.po.state, .int .i64 r.po.winner], Vb (s3 i.1) (bI b1 100 xSl r.slots i.1)])) (fun i => r.slots.length - i.1) ⟨0, by omega⟩ ?_ ?_
    ·refine Ent_gc [0, 1] (by rfl) (by simp) (by simp [fg]) (by simp [fg])
    rintro ⟨i, hii⟩ hk
    dsimp only at hk ⊢
    by_cases hlt : i < r.slots.length
    ·have c1 : ((i : Int) < (r.slots.length : Int)) = True := by simp; omega
     obtain ⟨y, hy⟩ : ∃ y, r.slots[i]? = some y := ⟨_, List.getElem?_eq_getElem hlt⟩
     have hr := row3_get hy
     have hb : bI b1 100 xSl r.slots (i + 1) = (bI b1 100 xSl r.slots i || xSl y) := bI_step hy
     obtain ⟨W1, W2, v0, v1, v2⟩ := (r3 i y hy).2
     repeat' ((first | apply Run_seq | apply Run_skip | apply Run_block | apply Run_blk | refine Run_exit rfl ?_ | apply Run_ret | apply Run_nil | apply Run_condK | apply Run_ops mixed | apply Run_opsX mixed | (with_reducible first | refine PostV_open ?_ | refine ro_callV ?_ | refine ro_callVX ?_) | refine CallV_pure (v0) ?_ ?_ | refine CallV_pure (v1) ?_ ?_ | refine CallV_pure (v2) ?_ ?_ | simp (disch := omega) only [w64] | ((first | refine GuardK_split ?_ ?_ | refine CondK_split ?_ ?_) <;> intro hc <;> (try simp only [hc]) <;> try simp at hc) | (with_reducible refine ⟨?_, ?_⟩; (focus ((repeat' with_reducible refine ⟨?_, ?_⟩) <;> first | exact trivial | assumption | (simp; done) | (simp only [List.length_map] at *; omega) | omega | (simp [fs]; done) | exact r8_sz))) | (with_reducible intro x hx) | omega) <;> (try simp only [row3_len, c1, hr, Nat.reduceBEq, reduceIte, Nat.reduceAdd, fw, fd]))
     refine hk ⟨i + 1, by omega⟩ _ _ (by dsimp only; omega) ?_
     dsimp only
     rw [hb]
     unfold xSl
     simp only [← Bool.or_assoc]
     refine Ent_gc [0, 1] (by rfl) (by simp) (by simp [fg]) (by simp [fg])
    have c1 : ((i : Int) < (r.slots.length : Int)) = False := by simp; omega
    obtain rfl : i = r.slots.length := by omega
    clear hk hlt hii
    rw [← t3, y3]
    repeat' ((first | apply Run_seq | apply Run_skip | apply Run_block | apply Run_blk | refine Run_exit rfl ?_ | apply Run_ret | apply Run_nil | apply Run_condK | apply Run_ops mixed | apply Run_opsX mixed | (with_reducible first | refine PostV_open ?_ | refine ro_callV ?_ | refine ro_callVX ?_) | refine CallV_pure (h4) ?_ ?_ | refine CallV_pure (h5) ?_ ?_ | refine CallV_pure (sp) ?_ ?_ | simp (disch := omega) only [w64, wu64, wu32, wu16, wu8, Int.tdiv_eq_ediv_of_nonneg, Int.tmod_eq_emod_of_nonneg] | ((first | refine GuardK_split ?_ ?_ | refine CondK_split ?_ ?_) <;> intro hc <;> (try simp only [hc]) <;> try simp at hc) | (with_reducible refine ⟨?_, ?_⟩; (focus ((repeat' with_reducible refine ⟨?_, ?_⟩) <;> first | exact trivial | assumption | (simp; done) | (simp only [List.length_map] at *; omega) | omega | (simp [fs]; done) | exact r8_sz))) | (with_reducible intro x hx) | omega) <;> (try simp only [bs_size, c1, u0, c2, Nat.reduceBEq, reduceIte, Nat.reduceAdd, cond_false, fw, fd]))
   ·have c2 : (((eRe0 r).length : Int) > 65536) = True := by simp; omega
    rw [if_neg (by simp [hg])]
    refine pureV Tryz.func8 low8 (by simp [c8]) ?_
    simp only [c8]
    simp only [Re.cells, Po.row] at sp ⊢
    simp only [hi] at sp ⊢
    repeat' ((first | apply Run_seq | apply Run_skip | apply Run_block | apply Run_blk | refine Run_exit rfl ?_ | apply Run_ret | apply Run_nil | apply Run_condK | apply Run_ops mixed | apply Run_opsX mixed | (with_reducible first | refine PostV_open ?_ | refine ro_callV ?_ | refine ro_callVX ?_) | refine CallV_pure (h1) ?_ ?_ | refine CallV_pure (h2) ?_ ?_ | refine CallV_pure (h3) ?_ ?_ | refine CallV_pure (h4) ?_ ?_ | refine CallV_pure (h5) ?_ ?_ | simp (disch := omega) only [w64, wu64, wu32, wu16, wu8, Int.tdiv_eq_ediv_of_nonneg, Int.tmod_eq_emod_of_nonneg] | ((first | refine GuardK_split ?_ ?_ | refine CondK_split ?_ ?_) <;> intro hc <;> (try simp only [hc]) <;> try simp at hc) | (with_reducible refine ⟨?_, ?_⟩; (focus ((repeat' with_reducible refine ⟨?_, ?_⟩) <;> first | exact trivial | assumption | (simp; done) | (simp only [List.length_map] at *; omega) | omega | (simp [fs]; done) | exact r8_sz))) | (with_reducible intro x hx) | omega) <;> (try simp only [bs_mk, row3_len, Nat.reduceBEq, reduceIte, Nat.reduceAdd, reduceCtorEq, ne_eq, fw, fd]))
    refine Run_loop (ι := {i : Nat // i ≤ r.slots.length}) (fun i => ([(1, .ptr 0 0 0 1), (2, .str (bs [])), (3, .bool false), (4, .ptr 1 0 0 1), (19, .int .i64 r.slots.length), (20, .int .i64 i.1)], [Va 20 [.int .i64 r.err, .int .u64 r.ver, L (row3 r.slots), .str r.cursor, .int .u32 0, .int .u32 r.po.owner, .int .i64 r.po.qu.a, .int .i64 r.po.qu.b, .int .i64 r.po.qu.long, .int .i64 r.po.qu.grid, L (row1 .u32 r.po.qu.must), L (row2 .u32 .i64 r.po.qu.may), .int .i64 r.po.qu.seats, L (row2 .u32 .u32 r.po.qu.apart), L (row3 r.po.qu.prefer), L (row1 .i64 r.po.slots), L (row2 .u32 .i64 r.po.votes), .int .i64 r.po.til, .int .i64 r.po.state, .int .i64 r.po.winner], Vb (s3 i.1) (bI b1 100 xSl r.slots i.1)])) (fun i => r.slots.length - i.1) ⟨0, by omega⟩ ?_ ?_
    ·refine Ent_gc [0, 1] (by rfl) (by simp) (by simp [fg]) (by simp [fg])
    rintro ⟨i, hii⟩ hk
    dsimp only at hk ⊢
    by_cases hlt : i < r.slots.length
    ·have c1 : ((i : Int) < (r.slots.length : Int)) = True := by simp; omega
     obtain ⟨y, hy⟩ : ∃ y, r.slots[i]? = some y := ⟨_, List.getElem?_eq_getElem hlt⟩
     have hr := row3_get hy
     have hb : bI b1 100 xSl r.slots (i + 1) = (bI b1 100 xSl r.slots i || xSl y) := bI_step hy
     obtain ⟨W1, W2, v0, v1, v2⟩ := (r3 i y hy).2
     repeat' ((first | apply Run_seq | apply Run_skip | apply Run_block | apply Run_blk | refine Run_exit rfl ?_ | apply Run_ret | apply Run_nil | apply Run_condK | apply Run_ops mixed | apply Run_opsX mixed | (with_reducible first | refine PostV_open ?_ | refine ro_callV ?_ | refine ro_callVX ?_) | refine CallV_pure (v0) ?_ ?_ | refine CallV_pure (v1) ?_ ?_ | refine CallV_pure (v2) ?_ ?_ | simp (disch := omega) only [w64] | ((first | refine GuardK_split ?_ ?_ | refine CondK_split ?_ ?_) <;> intro hc <;> (try simp only [hc]) <;> try simp at hc) | (with_reducible refine ⟨?_, ?_⟩; (focus ((repeat' with_reducible refine ⟨?_, ?_⟩) <;> first | exact trivial | assumption | (simp; done) | (simp only [List.length_map] at *; omega) | omega | (simp [fs]; done) | exact r8_sz))) | (with_reducible intro x hx) | omega) <;> (try simp only [row3_len, c1, hr, Nat.reduceBEq, reduceIte, Nat.reduceAdd, fw, fd]))
     refine hk ⟨i + 1, by omega⟩ _ _ (by dsimp only; omega) ?_
     dsimp only
     rw [hb]
     unfold xSl
     simp only [← Bool.or_assoc]
     refine Ent_gc [0, 1] (by rfl) (by simp) (by simp [fg]) (by simp [fg])
    have c1 : ((i : Int) < (r.slots.length : Int)) = False := by simp; omega
    obtain rfl : i = r.slots.length := by omega
    clear hk hlt hii
    rw [← t3, y3]
    repeat' ((first | apply Run_seq | apply Run_skip | apply Run_block | apply Run_blk | refine Run_exit rfl ?_ | apply Run_ret | apply Run_nil | apply Run_condK | apply Run_ops mixed | apply Run_opsX mixed | (with_reducible first | refine PostV_open ?_ | refine ro_callV ?_ | refine ro_callVX ?_) | refine CallV_pure (h4) ?_ ?_ | refine CallV_pure (h5) ?_ ?_ | refine CallV_pure (sp) ?_ ?_ | simp (disch := omega) only [w64, wu64, wu32, wu16, wu8, Int.tdiv_eq_ediv_of_nonneg, Int.tmod_eq_emod_of_nonneg] | ((first | refine GuardK_split ?_ ?_ | refine CondK_split ?_ ?_) <;> intro hc <;> (try simp only [hc]) <;> try simp at hc) | (with_reducible refine ⟨?_, ?_⟩; (focus ((repeat' with_reducible refine ⟨?_, ?_⟩) <;> first | exact trivial | assumption | (simp; done) | (simp only [List.length_map] at *; omega) | omega | (simp [fs]; done) | exact r8_sz))) | (with_reducible intro x hx) | omega) <;> (try simp only [bs_mk, bs_size, c1, u0, c2, Nat.reduceBEq, reduceIte, Nat.reduceAdd, cond_false, fw, fd]))
  ·rw [if_neg (by simp)]
   refine pureV Tryz.func8 low8 (by simp [c8]) ?_
   simp only [c8]
   simp only [Re.cells, Po.row] at sp ⊢
   simp only [hi] at sp ⊢
   repeat' ((first | apply Run_seq | apply Run_skip | apply Run_block | apply Run_blk | refine Run_exit rfl ?_ | apply Run_ret | apply Run_nil | apply Run_condK | apply Run_ops mixed | apply Run_opsX mixed | (with_reducible first | refine PostV_open ?_ | refine ro_callV ?_ | refine ro_callVX ?_) | refine CallV_pure (h1) ?_ ?_ | refine CallV_pure (h2) ?_ ?_ | refine CallV_pure (h3) ?_ ?_ | refine CallV_pure (h4) ?_ ?_ | refine CallV_pure (h5) ?_ ?_ | simp (disch := omega) only [w64, wu64, wu32, wu16, wu8, Int.tdiv_eq_ediv_of_nonneg, Int.tmod_eq_emod_of_nonneg] | ((first | refine GuardK_split ?_ ?_ | refine CondK_split ?_ ?_) <;> intro hc <;> (try simp only [hc]) <;> try simp at hc) | (with_reducible refine ⟨?_, ?_⟩; (focus ((repeat' with_reducible refine ⟨?_, ?_⟩) <;> first | exact trivial | assumption | (simp; done) | (simp only [List.length_map] at *; omega) | omega | (simp [fs]; done) | exact r8_sz))) | (with_reducible intro x hx) | omega) <;> (try simp only [bs_mk, row3_len, Nat.reduceBEq, reduceIte, Nat.reduceAdd, reduceCtorEq, ne_eq, fw, fd]))
   refine Run_loop (ι := {i : Nat // i ≤ r.slots.length}) (fun i => ([(1, .ptr 0 0 0 1), (2, .str (bs [])), (3, .bool false), (4, .ptr 1 0 0 1), (19, .int .i64 r.slots.length), (20, .int .i64 i.1)], [Va 20 [.int .i64 r.err, .int .u64 r.ver, L (row3 r.slots), .str r.cursor, .int .u32 0, .int .u32 r.po.owner, .int .i64 r.po.qu.a, .int .i64 r.po.qu.b, .int .i64 r.po.qu.long, .int .i64 r.po.qu.grid, L (row1 .u32 r.po.qu.must), L (row2 .u32 .i64 r.po.qu.may), .int .i64 r.po.qu.seats, L (row2 .u32 .u32 r.po.qu.apart), L (row3 r.po.qu.prefer), L (row1 .i64 r.po.slots), L (row2 .u32 .i64 r.po.votes), .int .i64 r.po.til, .int .i64 r.po.state, .int .i64 r.po.winner], Vb (s3 i.1) (bI b1 100 xSl r.slots i.1)])) (fun i => r.slots.length - i.1) ⟨0, by omega⟩ ?_ ?_
   ·refine Ent_gc [0, 1] (by rfl) (by simp) (by simp [fg]) (by simp [fg])
   rintro ⟨i, hii⟩ hk
   dsimp only at hk ⊢
   by_cases hlt : i < r.slots.length
   ·have c1 : ((i : Int) < (r.slots.length : Int)) = True := by simp; omega
    obtain ⟨y, hy⟩ : ∃ y, r.slots[i]? = some y := ⟨_, List.getElem?_eq_getElem hlt⟩
    have hr := row3_get hy
    have hb : bI b1 100 xSl r.slots (i + 1) = (bI b1 100 xSl r.slots i || xSl y) := bI_step hy
    obtain ⟨W1, W2, v0, v1, v2⟩ := (r3 i y hy).2
    repeat' ((first | apply Run_seq | apply Run_skip | apply Run_block | apply Run_blk | refine Run_exit rfl ?_ | apply Run_ret | apply Run_nil | apply Run_condK | apply Run_ops mixed | apply Run_opsX mixed | (with_reducible first | refine PostV_open ?_ | refine ro_callV ?_ | refine ro_callVX ?_) | refine CallV_pure (v0) ?_ ?_ | refine CallV_pure (v1) ?_ ?_ | refine CallV_pure (v2) ?_ ?_ | simp (disch := omega) only [w64] | ((first | refine GuardK_split ?_ ?_ | refine CondK_split ?_ ?_) <;> intro hc <;> (try simp only [hc]) <;> try simp at hc) | (with_reducible refine ⟨?_, ?_⟩; (focus ((repeat' with_reducible refine ⟨?_, ?_⟩) <;> first | exact trivial | assumption | (simp; done) | (simp only [List.length_map] at *; omega) | omega | (simp [fs]; done) | exact r8_sz))) | (with_reducible intro x hx) | omega) <;> (try simp only [row3_len, c1, hr, Nat.reduceBEq, reduceIte, Nat.reduceAdd, fw, fd]))
    refine hk ⟨i + 1, by omega⟩ _ _ (by dsimp only; omega) ?_
    dsimp only
    rw [hb]
    unfold xSl
    simp only [← Bool.or_assoc]
    refine Ent_gc [0, 1] (by rfl) (by simp) (by simp [fg]) (by simp [fg])
   have c1 : ((i : Int) < (r.slots.length : Int)) = False := by simp; omega
   obtain rfl : i = r.slots.length := by omega
   clear hk hlt hii
   rw [← t3, y3]
   repeat' ((first | apply Run_seq | apply Run_skip | apply Run_block | apply Run_blk | refine Run_exit rfl ?_ | apply Run_ret | apply Run_nil | apply Run_condK | apply Run_ops mixed | apply Run_opsX mixed | (with_reducible first | refine PostV_open ?_ | refine ro_callV ?_ | refine ro_callVX ?_) | refine CallV_pure (h4) ?_ ?_ | refine CallV_pure (h5) ?_ ?_ | refine CallV_pure (sp) ?_ ?_ | simp (disch := omega) only [w64, wu64, wu32, wu16, wu8, Int.tdiv_eq_ediv_of_nonneg, Int.tmod_eq_emod_of_nonneg] | ((first | refine GuardK_split ?_ ?_ | refine CondK_split ?_ ?_) <;> intro hc <;> (try simp only [hc]) <;> try simp at hc) | (with_reducible refine ⟨?_, ?_⟩; (focus ((repeat' with_reducible refine ⟨?_, ?_⟩) <;> first | exact trivial | assumption | (simp; done) | (simp only [List.length_map] at *; omega) | omega | (simp [fs]; done) | exact r8_sz))) | (with_reducible intro x hx) | omega) <;> (try simp only [bs_mk, c1, u0, Nat.reduceBEq, reduceIte, Nat.reduceAdd, cond_true, fw, fd]))
 ·rw [decide_eq_false hd] at sp
  rw [if_neg (by simp [hd])]
  refine pureV Tryz.func8 low8 (by simp [c8]) ?_
  simp only [c8]
  simp only [Re.cells, Po.row] at sp ⊢
  simp only [hi] at sp ⊢
  repeat' ((first | apply Run_seq | apply Run_skip | apply Run_block | apply Run_blk | refine Run_exit rfl ?_ | apply Run_ret | apply Run_nil | apply Run_condK | apply Run_ops mixed | apply Run_opsX mixed | (with_reducible first | refine PostV_open ?_ | refine ro_callV ?_ | refine ro_callVX ?_) | refine CallV_pure (h1) ?_ ?_ | refine CallV_pure (h2) ?_ ?_ | refine CallV_pure (h3) ?_ ?_ | refine CallV_pure (h4) ?_ ?_ | refine CallV_pure (h5) ?_ ?_ | simp (disch := omega) only [w64, wu64, wu32, wu16, wu8, Int.tdiv_eq_ediv_of_nonneg, Int.tmod_eq_emod_of_nonneg] | ((first | refine GuardK_split ?_ ?_ | refine CondK_split ?_ ?_) <;> intro hc <;> (try simp only [hc]) <;> try simp at hc) | (with_reducible refine ⟨?_, ?_⟩; (focus ((repeat' with_reducible refine ⟨?_, ?_⟩) <;> first | exact trivial | assumption | (simp; done) | (simp only [List.length_map] at *; omega) | omega | (simp [fs]; done) | exact r8_sz))) | (with_reducible intro x hx) | omega) <;> (try simp only [bs_mk, row3_len, Nat.reduceBEq, reduceIte, Nat.reduceAdd, reduceCtorEq, ne_eq, fw, fd]))
  refine Run_loop (ι := {i : Nat // i ≤ r.slots.length}) (fun i => ([(1, .ptr 0 0 0 1), (2, .str (bs [])), (3, .bool false), (4, .ptr 1 0 0 1), (19, .int .i64 r.slots.length), (20, .int .i64 i.1)], [Va 20 [.int .i64 r.err, .int .u64 r.ver, L (row3 r.slots), .str r.cursor, .int .u32 0, .int .u32 r.po.owner, .int .i64 r.po.qu.a, .int .i64 r.po.qu.b, .int .i64 r.po.qu.long, .int .i64 r.po.qu.grid, L (row1 .u32 r.po.qu.must), L (row2 .u32 .i64 r.po.qu.may), .int .i64 r.po.qu.seats, L (row2 .u32 .u32 r.po.qu.apart), L (row3 r.po.qu.prefer), L (row1 .i64 r.po.slots), L (row2 .u32 .i64 r.po.votes), .int .i64 r.po.til, .int .i64 r.po.state, .int .i64 r.po.winner], Vb (s3 i.1) (bI b1 100 xSl r.slots i.1)])) (fun i => r.slots.length - i.1) ⟨0, by omega⟩ ?_ ?_
  ·refine Ent_gc [0, 1] (by rfl) (by simp) (by simp [fg]) (by simp [fg])
  rintro ⟨i, hii⟩ hk
  dsimp only at hk ⊢
  by_cases hlt : i < r.slots.length
  ·have c1 : ((i : Int) < (r.slots.length : Int)) = True := by simp; omega
   obtain ⟨y, hy⟩ : ∃ y, r.slots[i]? = some y := ⟨_, List.getElem?_eq_getElem hlt⟩
   have hr := row3_get hy
   have hb : bI b1 100 xSl r.slots (i + 1) = (bI b1 100 xSl r.slots i || xSl y) := bI_step hy
   obtain ⟨W1, W2, v0, v1, v2⟩ := (r3 i y hy).2
   repeat' ((first | apply Run_seq | apply Run_skip | apply Run_block | apply Run_blk | refine Run_exit rfl ?_ | apply Run_ret | apply Run_nil | apply Run_condK | apply Run_ops mixed | apply Run_opsX mixed | (with_reducible first | refine PostV_open ?_ | refine ro_callV ?_ | refine ro_callVX ?_) | refine CallV_pure (v0) ?_ ?_ | refine CallV_pure (v1) ?_ ?_ | refine CallV_pure (v2) ?_ ?_ | simp (disch := omega) only [w64] | ((first | refine GuardK_split ?_ ?_ | refine CondK_split ?_ ?_) <;> intro hc <;> (try simp only [hc]) <;> try simp at hc) | (with_reducible refine ⟨?_, ?_⟩; (focus ((repeat' with_reducible refine ⟨?_, ?_⟩) <;> first | exact trivial | assumption | (simp; done) | (simp only [List.length_map] at *; omega) | omega | (simp [fs]; done) | exact r8_sz))) | (with_reducible intro x hx) | omega) <;> (try simp only [row3_len, c1, hr, Nat.reduceBEq, reduceIte, Nat.reduceAdd, fw, fd]))
   refine hk ⟨i + 1, by omega⟩ _ _ (by dsimp only; omega) ?_
   dsimp only
   rw [hb]
   unfold xSl
   simp only [← Bool.or_assoc]
   refine Ent_gc [0, 1] (by rfl) (by simp) (by simp [fg]) (by simp [fg])
  have c1 : ((i : Int) < (r.slots.length : Int)) = False := by simp; omega
  obtain rfl : i = r.slots.length := by omega
  clear hk hlt hii
  rw [← t3, y3]
  repeat' ((first | apply Run_seq | apply Run_skip | apply Run_block | apply Run_blk | refine Run_exit rfl ?_ | apply Run_ret | apply Run_nil | apply Run_condK | apply Run_ops mixed | apply Run_opsX mixed | (with_reducible first | refine PostV_open ?_ | refine ro_callV ?_ | refine ro_callVX ?_) | refine CallV_pure (h4) ?_ ?_ | refine CallV_pure (h5) ?_ ?_ | refine CallV_pure (sp) ?_ ?_ | simp (disch := omega) only [w64, wu64, wu32, wu16, wu8, Int.tdiv_eq_ediv_of_nonneg, Int.tmod_eq_emod_of_nonneg] | ((first | refine GuardK_split ?_ ?_ | refine CondK_split ?_ ?_) <;> intro hc <;> (try simp only [hc]) <;> try simp at hc) | (with_reducible refine ⟨?_, ?_⟩; (focus ((repeat' with_reducible refine ⟨?_, ?_⟩) <;> first | exact trivial | assumption | (simp; done) | (simp only [List.length_map] at *; omega) | omega | (simp [fs]; done) | exact r8_sz))) | (with_reducible intro x hx) | omega) <;> (try simp only [bs_mk, c1, u0, Nat.reduceBEq, reduceIte, Nat.reduceAdd, fw, fd]))
set_option maxHeartbeats 8000000 in
set_option maxRecDepth 8000 in
theorem refRe1_p (r : Re) (hi : (r.po.id == 0) = false) (hfit : r.fits) (hf : fRe1 r) (hl : ([] ++ eRe1 r : List UInt8).length ≤ 1099511627776) : PureD Tryz.prog 8 [.agg r.cells] (if (!xRe1 r && decide ((eRe1 r).length ≤ 65536)) = true then .tup [.str (bs (eRe1 r)), .bool true] else .tup [.str (bs []), .bool false]) := by
 unfold fRe1 at hf
 unfold eRe1 at hl
 simp only [List.length_append] at hl
 obtain ⟨S1, h1, c1, g1⟩ := bN [] false r.err 13 hf.1 (by omega) (by omega)
 obtain ⟨b1, d1⟩ : ∃ b1, b1 = (false || decide (13 < uI r.err)) := ⟨_, rfl⟩
 rw [← d1] at h1 c1
 obtain ⟨S2, h2, c2, g2⟩ := bU S1 b1 r.ver ⟨hf.2.1.1, by have := hf.2.1.2; omega⟩ (by omega)
 rw [Bool.or_false] at h2 c2
 have u3 := uI_nat (k := r.slots.length) (by have := hf.2.2.1.1; omega)
 obtain ⟨Q3, h3, p3, q3⟩ := bN S2 b1 r.slots.length 100 (by have := hf.2.2.1.1; constructor <;> omega) (by omega) (by omega)
 rw [u3] at h3 p3 q3
 obtain ⟨s3, z3, ⟨c3, g3⟩, r3⟩ := row_ex (x := xSl) (e := eSl) (Rel := relSl) hf.2.2.1.2 (by rw [List.length_append]; omega) p3 q3 exSl
 rw [← z3, ← bI_zero (x := xSl)] at h3
 obtain ⟨b3, d3⟩ : ∃ b3, b3 = (b1 || xRow xSl 100 r.slots) := ⟨_, rfl⟩
 have y3 : bI b1 100 xSl r.slots r.slots.length = b3 := by rw [bI_end, d3]
 rw [← d3] at c3
 obtain ⟨S3, t3⟩ : ∃ S3, S3 = s3 r.slots.length := ⟨_, rfl⟩
 rw [← t3] at c3 g3
 obtain ⟨S4, h4, c4, g4⟩ := bT S3 b3 r.cursor 64 hf.2.2.2.1 (by omega)
 obtain ⟨b4, d4⟩ : ∃ b4, b4 = (b3 || decide (((64 : Nat) : Int) < (r.cursor.size : Int))) := ⟨_, rfl⟩
 rw [← d4] at h4 c4
 obtain ⟨S5, h5, c5, g5⟩ := bF S4 b4 true (by omega)
 rw [Bool.or_false] at h5 c5
 obtain ⟨S6, h6, c6, g6⟩ := bPoll S5 b4 r.po hf.2.2.2.2.2 (by rw [List.length_append]; omega)
 obtain ⟨b6, d6⟩ : ∃ b6, b6 = (b4 || xPo r.po) := ⟨_, rfl⟩
 rw [← d6] at h6 c6
 have eb : xRe1 r = b6 := by rw [d6, d4, d3, d1]; simp only [xRe1, Bool.or_assoc, Bool.false_or]; try rfl
 have es : b6 = false → S6 = eRe1 r := fun h => by
  have k6 := h
  have k5 := k6
  rw [d6, Bool.or_eq_false_iff] at k5
  replace k5 := k5.1
  have k4 := k5
  have k3 := k4
  rw [d4, Bool.or_eq_false_iff] at k3
  replace k3 := k3.1
  have k2 := k3
  rw [d3, Bool.or_eq_false_iff] at k2
  replace k2 := k2.1
  have k1 := k2
  rw [c6 k6, c5 k5, c4 k4, c3 k3, c2 k2, c1 k1]
  simp only [eRe1, List.append_assoc, List.nil_append]
 rw [eb]
 have gl : S6.length ≤ 1099511627776 := by simp only [List.length_nil] at *; omega
 clear eb c1 c2 c3 c4 c5 c6 d1 d3 d4 d6
 have u0 : (r.po.id != 0) = true := by rw [bne, hi]; rfl
 cases b6
 ·obtain rfl := es rfl
  by_cases hg : (eRe1 r).length ≤ 65536
  ·have c2 : (((eRe1 r).length : Int) > 65536) = False := by simp; omega
   rw [if_pos (by simp [hg])]
   refine pureV Tryz.func8 low8 (by simp [c8]) ?_
   simp only [c8]
   simp only [Re.cells, Po.row] at h6 ⊢
   repeat' ((first | apply Run_seq | apply Run_skip | apply Run_block | apply Run_blk | refine Run_exit rfl ?_ | apply Run_ret | apply Run_nil | apply Run_condK | apply Run_ops mixed | apply Run_opsX mixed | (with_reducible first | refine PostV_open ?_ | refine ro_callV ?_ | refine ro_callVX ?_) | refine CallV_pure (h1) ?_ ?_ | refine CallV_pure (h2) ?_ ?_ | refine CallV_pure (h3) ?_ ?_ | refine CallV_pure (h4) ?_ ?_ | refine CallV_pure (h5) ?_ ?_ | refine CallV_pure (h6) ?_ ?_ | simp (disch := omega) only [w64, wu64, wu32, wu16, wu8, Int.tdiv_eq_ediv_of_nonneg, Int.tmod_eq_emod_of_nonneg] | ((first | refine GuardK_split ?_ ?_ | refine CondK_split ?_ ?_) <;> intro hc <;> (try simp only [hc]) <;> try simp at hc) | (with_reducible refine ⟨?_, ?_⟩; (focus ((repeat' with_reducible refine ⟨?_, ?_⟩) <;> first | exact trivial | assumption | (simp; done) | (simp only [List.length_map] at *; omega) | omega | (simp [fs]; done) | exact r8_sz))) | (with_reducible intro x hx) | omega) <;> (try simp only [bs_mk, row3_len, Nat.reduceBEq, reduceIte, Nat.reduceAdd, reduceCtorEq, ne_eq, fw, fd]))
   refine Run_loop (ι := {i : Nat // i ≤ r.slots.length}) (fun i => ([(1, .ptr 0 0 0 1), (2, .str (bs [])), (3, .bool false), (4, .ptr 1 0 0 1), (19, .int .i64 r.slots.length), (20, .int .i64 i.1)], [Va 20 [.int .i64 r.err, .int .u64 r.ver, L (row3 r.slots), .str r.cursor, .int .u32 r.po.id, .int .u32 r.po.owner, .int .i64 r.po.qu.a, .int .i64 r.po.qu.b, .int .i64 r.po.qu.long, .int .i64 r.po.qu.grid, L (row1 .u32 r.po.qu.must), L (row2 .u32 .i64 r.po.qu.may), .int .i64 r.po.qu.seats, L (row2 .u32 .u32 r.po.qu.apart), L (row3 r.po.qu.prefer), L (row1 .i64 r.po.slots), L (row2 .u32 .i64 r.po.votes), .int .i64 r.po.til, .int .i64 r.po.state, .int .i64 r.po.winner], Vb (s3 i.1) (bI b1 100 xSl r.slots i.1)])) (fun i => r.slots.length - i.1) ⟨0, by omega⟩ ?_ ?_
   ·refine Ent_gc [0, 1] (by rfl) (by simp) (by simp [fg]) (by simp [fg])
   rintro ⟨i, hii⟩ hk
   dsimp only at hk ⊢
   by_cases hlt : i < r.slots.length
   ·have c1 : ((i : Int) < (r.slots.length : Int)) = True := by simp; omega
    obtain ⟨y, hy⟩ : ∃ y, r.slots[i]? = some y := ⟨_, List.getElem?_eq_getElem hlt⟩
    have hr := row3_get hy
    have hb : bI b1 100 xSl r.slots (i + 1) = (bI b1 100 xSl r.slots i || xSl y) := bI_step hy
    obtain ⟨W1, W2, v0, v1, v2⟩ := (r3 i y hy).2
    repeat' ((first | apply Run_seq | apply Run_skip | apply Run_block | apply Run_blk | refine Run_exit rfl ?_ | apply Run_ret | apply Run_nil | apply Run_condK | apply Run_ops mixed | apply Run_opsX mixed | (with_reducible first | refine PostV_open ?_ | refine ro_callV ?_ | refine ro_callVX ?_) | refine CallV_pure (v0) ?_ ?_ | refine CallV_pure (v1) ?_ ?_ | refine CallV_pure (v2) ?_ ?_ | simp (disch := omega) only [w64] | ((first | refine GuardK_split ?_ ?_ | refine CondK_split ?_ ?_) <;> intro hc <;> (try simp only [hc]) <;> try simp at hc) | (with_reducible refine ⟨?_, ?_⟩; (focus ((repeat' with_reducible refine ⟨?_, ?_⟩) <;> first | exact trivial | assumption | (simp; done) | (simp only [List.length_map] at *; omega) | omega | (simp [fs]; done) | exact r8_sz))) | (with_reducible intro x hx) | omega) <;> (try simp only [row3_len, c1, hr, Nat.reduceBEq, reduceIte, Nat.reduceAdd, fw, fd]))
    refine hk ⟨i + 1, by omega⟩ _ _ (by dsimp only; omega) ?_
    dsimp only
    rw [hb]
    unfold xSl
    simp only [← Bool.or_assoc]
    refine Ent_gc [0, 1] (by rfl) (by simp) (by simp [fg]) (by simp [fg])
   have c1 : ((i : Int) < (r.slots.length : Int)) = False := by simp; omega
   obtain rfl : i = r.slots.length := by omega
   clear hk hlt hii
   rw [← t3, y3]
   repeat' ((first | apply Run_seq | apply Run_skip | apply Run_block | apply Run_blk | refine Run_exit rfl ?_ | apply Run_ret | apply Run_nil | apply Run_condK | apply Run_ops mixed | apply Run_opsX mixed | (with_reducible first | refine PostV_open ?_ | refine ro_callV ?_ | refine ro_callVX ?_) | refine CallV_pure (h4) ?_ ?_ | refine CallV_pure (h5) ?_ ?_ | refine CallV_pure (h6) ?_ ?_ | simp (disch := omega) only [w64, wu64, wu32, wu16, wu8, Int.tdiv_eq_ediv_of_nonneg, Int.tmod_eq_emod_of_nonneg] | ((first | refine GuardK_split ?_ ?_ | refine CondK_split ?_ ?_) <;> intro hc <;> (try simp only [hc]) <;> try simp at hc) | (with_reducible refine ⟨?_, ?_⟩; (focus ((repeat' with_reducible refine ⟨?_, ?_⟩) <;> first | exact trivial | assumption | (simp; done) | (simp only [List.length_map] at *; omega) | omega | (simp [fs]; done) | exact r8_sz))) | (with_reducible intro x hx) | omega) <;> (try simp only [bs_size, c1, u0, c2, Nat.reduceBEq, reduceIte, Nat.reduceAdd, cond_false, fw, fd]))
  ·have c2 : (((eRe1 r).length : Int) > 65536) = True := by simp; omega
   rw [if_neg (by simp [hg])]
   refine pureV Tryz.func8 low8 (by simp [c8]) ?_
   simp only [c8]
   simp only [Re.cells, Po.row] at h6 ⊢
   repeat' ((first | apply Run_seq | apply Run_skip | apply Run_block | apply Run_blk | refine Run_exit rfl ?_ | apply Run_ret | apply Run_nil | apply Run_condK | apply Run_ops mixed | apply Run_opsX mixed | (with_reducible first | refine PostV_open ?_ | refine ro_callV ?_ | refine ro_callVX ?_) | refine CallV_pure (h1) ?_ ?_ | refine CallV_pure (h2) ?_ ?_ | refine CallV_pure (h3) ?_ ?_ | refine CallV_pure (h4) ?_ ?_ | refine CallV_pure (h5) ?_ ?_ | refine CallV_pure (h6) ?_ ?_ | simp (disch := omega) only [w64, wu64, wu32, wu16, wu8, Int.tdiv_eq_ediv_of_nonneg, Int.tmod_eq_emod_of_nonneg] | ((first | refine GuardK_split ?_ ?_ | refine CondK_split ?_ ?_) <;> intro hc <;> (try simp only [hc]) <;> try simp at hc) | (with_reducible refine ⟨?_, ?_⟩; (focus ((repeat' with_reducible refine ⟨?_, ?_⟩) <;> first | exact trivial | assumption | (simp; done) | (simp only [List.length_map] at *; omega) | omega | (simp [fs]; done) | exact r8_sz))) | (with_reducible intro x hx) | omega) <;> (try simp only [bs_mk, row3_len, Nat.reduceBEq, reduceIte, Nat.reduceAdd, reduceCtorEq, ne_eq, fw, fd]))
   refine Run_loop (ι := {i : Nat // i ≤ r.slots.length}) (fun i => ([(1, .ptr 0 0 0 1), (2, .str (bs [])), (3, .bool false), (4, .ptr 1 0 0 1), (19, .int .i64 r.slots.length), (20, .int .i64 i.1)], [Va 20 [.int .i64 r.err, .int .u64 r.ver, L (row3 r.slots), .str r.cursor, .int .u32 r.po.id, .int .u32 r.po.owner, .int .i64 r.po.qu.a, .int .i64 r.po.qu.b, .int .i64 r.po.qu.long, .int .i64 r.po.qu.grid, L (row1 .u32 r.po.qu.must), L (row2 .u32 .i64 r.po.qu.may), .int .i64 r.po.qu.seats, L (row2 .u32 .u32 r.po.qu.apart), L (row3 r.po.qu.prefer), L (row1 .i64 r.po.slots), L (row2 .u32 .i64 r.po.votes), .int .i64 r.po.til, .int .i64 r.po.state, .int .i64 r.po.winner], Vb (s3 i.1) (bI b1 100 xSl r.slots i.1)])) (fun i => r.slots.length - i.1) ⟨0, by omega⟩ ?_ ?_
   ·refine Ent_gc [0, 1] (by rfl) (by simp) (by simp [fg]) (by simp [fg])
   rintro ⟨i, hii⟩ hk
   dsimp only at hk ⊢
   by_cases hlt : i < r.slots.length
   ·have c1 : ((i : Int) < (r.slots.length : Int)) = True := by simp; omega
    obtain ⟨y, hy⟩ : ∃ y, r.slots[i]? = some y := ⟨_, List.getElem?_eq_getElem hlt⟩
    have hr := row3_get hy
    have hb : bI b1 100 xSl r.slots (i + 1) = (bI b1 100 xSl r.slots i || xSl y) := bI_step hy
    obtain ⟨W1, W2, v0, v1, v2⟩ := (r3 i y hy).2
    repeat' ((first | apply Run_seq | apply Run_skip | apply Run_block | apply Run_blk | refine Run_exit rfl ?_ | apply Run_ret | apply Run_nil | apply Run_condK | apply Run_ops mixed | apply Run_opsX mixed | (with_reducible first | refine PostV_open ?_ | refine ro_callV ?_ | refine ro_callVX ?_) | refine CallV_pure (v0) ?_ ?_ | refine CallV_pure (v1) ?_ ?_ | refine CallV_pure (v2) ?_ ?_ | simp (disch := omega) only [w64] | ((first | refine GuardK_split ?_ ?_ | refine CondK_split ?_ ?_) <;> intro hc <;> (try simp only [hc]) <;> try simp at hc) | (with_reducible refine ⟨?_, ?_⟩; (focus ((repeat' with_reducible refine ⟨?_, ?_⟩) <;> first | exact trivial | assumption | (simp; done) | (simp only [List.length_map] at *; omega) | omega | (simp [fs]; done) | exact r8_sz))) | (with_reducible intro x hx) | omega) <;> (try simp only [row3_len, c1, hr, Nat.reduceBEq, reduceIte, Nat.reduceAdd, fw, fd]))
    refine hk ⟨i + 1, by omega⟩ _ _ (by dsimp only; omega) ?_
    dsimp only
    rw [hb]
    unfold xSl
    simp only [← Bool.or_assoc]
    refine Ent_gc [0, 1] (by rfl) (by simp) (by simp [fg]) (by simp [fg])
   have c1 : ((i : Int) < (r.slots.length : Int)) = False := by simp; omega
   obtain rfl : i = r.slots.length := by omega
   clear hk hlt hii
   rw [← t3, y3]
   repeat' ((first | apply Run_seq | apply Run_skip | apply Run_block | apply Run_blk | refine Run_exit rfl ?_ | apply Run_ret | apply Run_nil | apply Run_condK | apply Run_ops mixed | apply Run_opsX mixed | (with_reducible first | refine PostV_open ?_ | refine ro_callV ?_ | refine ro_callVX ?_) | refine CallV_pure (h4) ?_ ?_ | refine CallV_pure (h5) ?_ ?_ | refine CallV_pure (h6) ?_ ?_ | simp (disch := omega) only [w64, wu64, wu32, wu16, wu8, Int.tdiv_eq_ediv_of_nonneg, Int.tmod_eq_emod_of_nonneg] | ((first | refine GuardK_split ?_ ?_ | refine CondK_split ?_ ?_) <;> intro hc <;> (try simp only [hc]) <;> try simp at hc) | (with_reducible refine ⟨?_, ?_⟩; (focus ((repeat' with_reducible refine ⟨?_, ?_⟩) <;> first | exact trivial | assumption | (simp; done) | (simp only [List.length_map] at *; omega) | omega | (simp [fs]; done) | exact r8_sz))) | (with_reducible intro x hx) | omega) <;> (try simp only [bs_mk, bs_size, c1, u0, c2, Nat.reduceBEq, reduceIte, Nat.reduceAdd, cond_false, fw, fd]))
 ·rw [if_neg (by simp)]
  refine pureV Tryz.func8 low8 (by simp [c8]) ?_
  simp only [c8]
  simp only [Re.cells, Po.row] at h6 ⊢
  repeat' ((first | apply Run_seq | apply Run_skip | apply Run_block | apply Run_blk | refine Run_exit rfl ?_ | apply Run_ret | apply Run_nil | apply Run_condK | apply Run_ops mixed | apply Run_opsX mixed | (with_reducible first | refine PostV_open ?_ | refine ro_callV ?_ | refine ro_callVX ?_) | refine CallV_pure (h1) ?_ ?_ | refine CallV_pure (h2) ?_ ?_ | refine CallV_pure (h3) ?_ ?_ | refine CallV_pure (h4) ?_ ?_ | refine CallV_pure (h5) ?_ ?_ | refine CallV_pure (h6) ?_ ?_ | simp (disch := omega) only [w64, wu64, wu32, wu16, wu8, Int.tdiv_eq_ediv_of_nonneg, Int.tmod_eq_emod_of_nonneg] | ((first | refine GuardK_split ?_ ?_ | refine CondK_split ?_ ?_) <;> intro hc <;> (try simp only [hc]) <;> try simp at hc) | (with_reducible refine ⟨?_, ?_⟩; (focus ((repeat' with_reducible refine ⟨?_, ?_⟩) <;> first | exact trivial | assumption | (simp; done) | (simp only [List.length_map] at *; omega) | omega | (simp [fs]; done) | exact r8_sz))) | (with_reducible intro x hx) | omega) <;> (try simp only [bs_mk, row3_len, Nat.reduceBEq, reduceIte, Nat.reduceAdd, reduceCtorEq, ne_eq, fw, fd]))
  refine Run_loop (ι := {i : Nat // i ≤ r.slots.length}) (fun i => ([(1, .ptr 0 0 0 1), (2, .str (bs [])), (3, .bool false), (4, .ptr 1 0 0 1), (19, .int .i64 r.slots.length), (20, .int .i64 i.1)], [Va 20 [.int .i64 r.err, .int .u64 r.ver, L (row3 r.slots), .str r.cursor, .int .u32 r.po.id, .int .u32 r.po.owner, .int .i64 r.po.qu.a, .int .i64 r.po.qu.b, .int .i64 r.po.qu.long, .int .i64 r.po.qu.grid, L (row1 .u32 r.po.qu.must), L (row2 .u32 .i64 r.po.qu.may), .int .i64 r.po.qu.seats, L (row2 .u32 .u32 r.po.qu.apart), L (row3 r.po.qu.prefer), L (row1 .i64 r.po.slots), L (row2 .u32 .i64 r.po.votes), .int .i64 r.po.til, .int .i64 r.po.state, .int .i64 r.po.winner], Vb (s3 i.1) (bI b1 100 xSl r.slots i.1)])) (fun i => r.slots.length - i.1) ⟨0, by omega⟩ ?_ ?_
  ·refine Ent_gc [0, 1] (by rfl) (by simp) (by simp [fg]) (by simp [fg])
  rintro ⟨i, hii⟩ hk
  dsimp only at hk ⊢
  by_cases hlt : i < r.slots.length
  ·have c1 : ((i : Int) < (r.slots.length : Int)) = True := by simp; omega
   obtain ⟨y, hy⟩ : ∃ y, r.slots[i]? = some y := ⟨_, List.getElem?_eq_getElem hlt⟩
   have hr := row3_get hy
   have hb : bI b1 100 xSl r.slots (i + 1) = (bI b1 100 xSl r.slots i || xSl y) := bI_step hy
   obtain ⟨W1, W2, v0, v1, v2⟩ := (r3 i y hy).2
   repeat' ((first | apply Run_seq | apply Run_skip | apply Run_block | apply Run_blk | refine Run_exit rfl ?_ | apply Run_ret | apply Run_nil | apply Run_condK | apply Run_ops mixed | apply Run_opsX mixed | (with_reducible first | refine PostV_open ?_ | refine ro_callV ?_ | refine ro_callVX ?_) | refine CallV_pure (v0) ?_ ?_ | refine CallV_pure (v1) ?_ ?_ | refine CallV_pure (v2) ?_ ?_ | simp (disch := omega) only [w64] | ((first | refine GuardK_split ?_ ?_ | refine CondK_split ?_ ?_) <;> intro hc <;> (try simp only [hc]) <;> try simp at hc) | (with_reducible refine ⟨?_, ?_⟩; (focus ((repeat' with_reducible refine ⟨?_, ?_⟩) <;> first | exact trivial | assumption | (simp; done) | (simp only [List.length_map] at *; omega) | omega | (simp [fs]; done) | exact r8_sz))) | (with_reducible intro x hx) | omega) <;> (try simp only [row3_len, c1, hr, Nat.reduceBEq, reduceIte, Nat.reduceAdd, fw, fd]))
   refine hk ⟨i + 1, by omega⟩ _ _ (by dsimp only; omega) ?_
   dsimp only
   rw [hb]
   unfold xSl
   simp only [← Bool.or_assoc]
   refine Ent_gc [0, 1] (by rfl) (by simp) (by simp [fg]) (by simp [fg])
  have c1 : ((i : Int) < (r.slots.length : Int)) = False := by simp; omega
  obtain rfl : i = r.slots.length := by omega
  clear hk hlt hii
  rw [← t3, y3]
  repeat' ((first | apply Run_seq | apply Run_skip | apply Run_block | apply Run_blk | refine Run_exit rfl ?_ | apply Run_ret | apply Run_nil | apply Run_condK | apply Run_ops mixed | apply Run_opsX mixed | (with_reducible first | refine PostV_open ?_ | refine ro_callV ?_ | refine ro_callVX ?_) | refine CallV_pure (h4) ?_ ?_ | refine CallV_pure (h5) ?_ ?_ | refine CallV_pure (h6) ?_ ?_ | simp (disch := omega) only [w64, wu64, wu32, wu16, wu8, Int.tdiv_eq_ediv_of_nonneg, Int.tmod_eq_emod_of_nonneg] | ((first | refine GuardK_split ?_ ?_ | refine CondK_split ?_ ?_) <;> intro hc <;> (try simp only [hc]) <;> try simp at hc) | (with_reducible refine ⟨?_, ?_⟩; (focus ((repeat' with_reducible refine ⟨?_, ?_⟩) <;> first | exact trivial | assumption | (simp; done) | (simp only [List.length_map] at *; omega) | omega | (simp [fs]; done) | exact r8_sz))) | (with_reducible intro x hx) | omega) <;> (try simp only [bs_mk, c1, u0, Nat.reduceBEq, reduceIte, Nat.reduceAdd, cond_true, fw, fd]))
end Go.Proofs.YtgefljdclekadaaGreat
