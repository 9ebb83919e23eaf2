import Derived.Test.YtgefljdclekadaaGreatWMA
import Derived.Test.YtgefljdclekadaaGreatVi25
set_option linter.unusedVariables false
set_option linter.unusedSimpArgs false
set_option linter.unnecessarySimpa false
namespace Go.Proofs.YtgefljdclekadaaGreat
open Go Go.Vi


/-- A state. -/
structure Sta where
 t : Int
 us : List Us
 ps : List Po
 ds : List Dn
 deriving DecidableEq
def Sta.cells (s : Sta) : List D := [.int .i64 s.t, L (rowsU s.us), L (rowsP s.ps), L (rowsD s.ds)]
def Se.fits (s : Se) : Prop := s.turns.length ≤ 140737488351232 ∧ s.shifts.length ≤ 140737488351232 ∧ s.off.length ≤ 140737488351232
def Ev.fits (s : Ev) : Prop := s.rule.fits ∧ s.ex.length ≤ 140737488351232 ∧ s.plus.length ≤ 140737488351232 ∧ s.ch.length ≤ 140737488351232
def Qu.fits (s : Qu) : Prop := s.must.length ≤ 140737488351232 ∧ s.may.length ≤ 140737488351232 ∧ s.apart.length ≤ 140737488351232 ∧ s.prefer.length ≤ 140737488351232
def Po.fits (s : Po) : Prop := s.qu.fits ∧ s.slots.length ≤ 140737488351232 ∧ s.votes.length ≤ 140737488351232
def Us.fit (s : Us) : Prop := s.se.fits ∧ s.evs.length ≤ 140737488351232 ∧ ∀ e ∈ s.evs, e.ev.fits
def Sta.fits (s : Sta) : Prop := s.us.length ≤ 1407374883512 ∧ s.ps.length ≤ 1407374883512 ∧ s.ds.length ≤ 5864062014677 ∧ (∀ u ∈ s.us, u.fit) ∧ ∀ p ∈ s.ps, p.fits
theorem Se.eq_iff {a b : Se} : a = b ↔ (a.base = b.base ∧ a.turns = b.turns ∧ a.shifts = b.shifts ∧ a.off = b.off ∧ a.before = b.before ∧ a.after = b.after) := by
 cases a; cases b; simp only [Se.mk.injEq]
theorem Ev.eq_iff {a b : Ev} : a = b ↔ (a.start = b.start ∧ a.long = b.long ∧ a.world = b.world ∧ a.again = b.again ∧ a.rule = b.rule ∧ a.ex = b.ex ∧ a.plus = b.plus ∧ a.ch = b.ch) := by
 cases a; cases b; simp only [Ev.mk.injEq]
theorem Qu.eq_iff {a b : Qu} : a = b ↔ (a.a = b.a ∧ a.b = b.b ∧ a.long = b.long ∧ a.grid = b.grid ∧ a.must = b.must ∧ a.may = b.may ∧ a.seats = b.seats ∧ a.apart = b.apart ∧ a.prefer = b.prefer) := by
 cases a; cases b; simp only [Qu.mk.injEq]
set_option maxHeartbeats 4000000 in
theorem sameQu_p (a b : Qu) (fa : a.fits) (fb : b.fits) : PureD Tryz.prog 69 [.agg a.cells, .agg b.cells] (.bool (decide (a = b))) := by
 refine pureV Tryz.func69 low69 (by simp [c69]) ?_
 simp only [c69, Qu.cells]
 obtain ⟨a1, a2, a3, a4⟩ := fa
 obtain ⟨b1, b2', b3', b4⟩ := fb
 by_cases h : ¬ (b.a = a.a ∧ b.b = a.b ∧ b.long = a.long ∧ b.grid = a.grid ∧ b.seats = a.seats ∧ a.must.length = b.must.length ∧ a.may.length = b.may.length ∧ a.apart.length = b.apart.length)
 ·have e : decide (a = b) = false := by
   simp only [decide_eq_false_iff_not]
   rintro rfl
   exact h ⟨rfl, rfl, rfl, rfl, rfl, rfl, rfl, rfl⟩
  rw [e]
  repeat' ((first | apply Run_seq | apply Run_skip | apply Run_block | apply Run_blk | refine Run_exit rfl ?_ | apply Run_ret | apply Run_nil | apply Run_condK | apply Run_ops mixed | apply Run_opsX mixed | (with_reducible first | refine PostV_open ?_ | refine ro_callV ?_) | simp (disch := omega) only [w64, wu64, wu32, wu16, wu8, Int.tdiv_eq_ediv_of_nonneg, Int.tmod_eq_emod_of_nonneg] | ((first | refine GuardK_split ?_ ?_ | refine CondK_split ?_ ?_) <;> intro hc <;> (try simp only [hc]) <;> try simp at hc) | (with_reducible refine ⟨?_, ?_⟩; (focus ((repeat' with_reducible refine ⟨?_, ?_⟩) <;> first | exact trivial | assumption | (simp; done) | (simp only [List.length_map] at *; omega) | omega | (simp [fs]; done)))) | (with_reducible intro x hx) | omega) <;> (try simp only [row1_len, row2_len, Nat.reduceBEq, reduceIte, Nat.reduceAdd, Nat.reduceLeDiff, reduceCtorEq, cond_true, cond_false, ne_eq, fw, fd]))
  all_goals (first | (exfalso; simp_all; done) | (exfalso; apply h; simp_all; done) | (exfalso; apply h; simp_all; omega))
 obtain ⟨e0, e1, e2, e3, e4, hl0, hl1, hl2⟩ : (b.a = a.a ∧ b.b = a.b ∧ b.long = a.long ∧ b.grid = a.grid ∧ b.seats = a.seats ∧ a.must.length = b.must.length ∧ a.may.length = b.may.length ∧ a.apart.length = b.apart.length) := by simpa using h
 have cl0 : ((a.must.length : Int) == (b.must.length : Int)) = true := by simp [hl0]
 have cl1 : ((a.may.length : Int) == (b.may.length : Int)) = true := by simp [hl1]
 have cl2 : ((a.apart.length : Int) == (b.apart.length : Int)) = true := by simp [hl2]
 repeat' ((first | apply Run_seq | apply Run_skip | apply Run_block | apply Run_blk | refine Run_exit rfl ?_ | apply Run_ret | apply Run_nil | apply Run_condK | apply Run_ops mixed | apply Run_opsX mixed | (with_reducible first | refine PostV_open ?_ | refine ro_callV ?_) | simp (disch := omega) only [w64, wu64, wu32, wu16, wu8, Int.tdiv_eq_ediv_of_nonneg, Int.tmod_eq_emod_of_nonneg] | ((first | refine GuardK_split ?_ ?_ | refine CondK_split ?_ ?_) <;> intro hc <;> (try simp only [hc]) <;> try simp at hc) | (with_reducible refine ⟨?_, ?_⟩; (focus ((repeat' with_reducible refine ⟨?_, ?_⟩) <;> first | exact trivial | assumption | (simp; done) | (simp only [List.length_map] at *; omega) | omega | (simp [fs]; done)))) | (with_reducible intro x hx) | omega) <;> (try simp only [row1_len, row2_len, e0, e1, e2, e3, e4, beq_self_eq_true, Nat.reduceBEq, reduceIte, Nat.reduceAdd, Nat.reduceLeDiff, reduceCtorEq, cond_true, cond_false, ne_eq, beq_self_eq_true, fw, fd]))
 refine Run_loop (ι := {i : Nat // i ≤ a.must.length ∧ a.must.take i = b.must.take i}) (fun i => ([(2, .ptr 0 0 0 1), (3, .ptr 1 0 0 1), (63, .int .i64 a.must.length), (64, .int .i64 i.1)], [⟨true, false, true, false, 9, [a.cells], some 0⟩, ⟨true, false, true, false, 9, [b.cells], some 0⟩])) (fun i => a.must.length - i.1) ⟨0, by simp⟩ ?_ ?_
 ·simp only [Qu.cells, e0, e1, e2, e3, e4]
  refine Ent_gc [0, 1] (by rfl) (by simp) (by simp [fg]) (by simp [fg])
 rintro ⟨i, hi, ht⟩ hk
 dsimp only at hk ⊢
 by_cases hlt : i < a.must.length
 ·have c2 : ((i : Int) < (a.must.length : Int)) = True := by simp; omega
  obtain ⟨x, hx⟩ : ∃ x, a.must[i]? = some x := ⟨_, List.getElem?_eq_getElem hlt⟩
  obtain ⟨y, hy⟩ : ∃ y, b.must[i]? = some y := ⟨_, List.getElem?_eq_getElem (by omega)⟩
  have rx := row1_get (k := .u32) hx
  have ry := row1_get (k := .u32) hy
  by_cases hxy : x = y
  ·have c3 : (x == y) = true := by simpa using hxy
   repeat' ((first | apply Run_seq | apply Run_skip | apply Run_block | apply Run_blk | refine Run_exit rfl ?_ | apply Run_ret | apply Run_nil | apply Run_condK | apply Run_ops mixed | apply Run_opsX mixed | (with_reducible first | refine PostV_open ?_ | refine ro_callV ?_) | simp (disch := omega) only [w64] | ((first | refine GuardK_split ?_ ?_ | refine CondK_split ?_ ?_) <;> intro hc <;> (try simp only [hc]) <;> try simp at hc) | (with_reducible refine ⟨?_, ?_⟩; (focus ((repeat' with_reducible refine ⟨?_, ?_⟩) <;> first | exact trivial | assumption | (simp; done) | (simp only [List.length_map] at *; omega) | omega | (simp [fs]; done)))) | (with_reducible intro x hx) | omega) <;> (try simp only [row1_len, c2, rx, ry, Qu.cells, Nat.reduceBEq, reduceIte, fw, fd]))
   refine hk ⟨i + 1, by omega, eq_step ht hx hy hxy⟩ _ _ (by dsimp only; omega) ?_
   dsimp only [Qu.cells]
   refine Ent_gc [0, 1] (by rfl) (by simp) (by simp [fg]) (by simp [fg])
  ·have c3 : (x == y) = false := by simpa using hxy
   have e : decide (a = b) = false := by
    have := eq_no hx hy hxy
    simp only [decide_eq_false_iff_not] at this ⊢
    exact fun h => this (by rw [h])
   rw [e]
   repeat' ((first | apply Run_seq | apply Run_skip | apply Run_block | apply Run_blk | refine Run_exit rfl ?_ | apply Run_ret | apply Run_nil | apply Run_condK | apply Run_ops mixed | apply Run_opsX mixed | (with_reducible first | refine PostV_open ?_ | refine ro_callV ?_) | simp (disch := omega) only [w64] | ((first | refine GuardK_split ?_ ?_ | refine CondK_split ?_ ?_) <;> intro hc <;> (try simp only [hc]) <;> try simp at hc) | (with_reducible refine ⟨?_, ?_⟩; (focus ((repeat' with_reducible refine ⟨?_, ?_⟩) <;> first | exact trivial | assumption | (simp; done) | (simp only [List.length_map] at *; omega) | omega | (simp [fs]; done)))) | (with_reducible intro x hx) | omega) <;> (try simp only [row1_len, c2, rx, ry, Qu.cells, Nat.reduceBEq, reduceIte, fw, fd]))
 ·have c2 : ((i : Int) < (a.must.length : Int)) = False := by simp; omega
  have q_must : a.must = b.must := by simpa using eq_end ht hlt hl0
  clear hk ht hlt hi
  repeat' ((first | apply Run_seq | apply Run_skip | apply Run_block | apply Run_blk | refine Run_exit rfl ?_ | apply Run_ret | apply Run_nil | apply Run_condK | apply Run_ops mixed | apply Run_opsX mixed | (with_reducible first | refine PostV_open ?_ | refine ro_callV ?_) | simp (disch := omega) only [w64, wu64, wu32, wu16, wu8, Int.tdiv_eq_ediv_of_nonneg, Int.tmod_eq_emod_of_nonneg] | ((first | refine GuardK_split ?_ ?_ | refine CondK_split ?_ ?_) <;> intro hc <;> (try simp only [hc]) <;> try simp at hc) | (with_reducible refine ⟨?_, ?_⟩; (focus ((repeat' with_reducible refine ⟨?_, ?_⟩) <;> first | exact trivial | assumption | (simp; done) | (simp only [List.length_map] at *; omega) | omega | (simp [fs]; done)))) | (with_reducible intro x hx) | omega) <;> (try simp only [row2_len, c2, Qu.cells, Nat.reduceBEq, reduceIte, fw, fd]))
  clear c2
  refine Run_loop (ι := {i : Nat // i ≤ a.may.length ∧ a.may.take i = b.may.take i}) (fun i => ([(2, .ptr 0 0 0 1), (3, .ptr 1 0 0 1), (81, .int .i64 a.may.length), (82, .int .i64 i.1)], [⟨true, false, true, false, 9, [a.cells], some 0⟩, ⟨true, false, true, false, 9, [b.cells], some 0⟩])) (fun i => a.may.length - i.1) ⟨0, by simp⟩ ?_ ?_
  ·dsimp only [Qu.cells]
   refine Ent_gc [0, 1] (by rfl) (by simp) (by simp [fg]) (by simp [fg])
  rintro ⟨i, hi, ht⟩ hk
  dsimp only at hk ⊢
  by_cases hlt : i < a.may.length
  ·have c2 : ((i : Int) < (a.may.length : Int)) = True := by simp; omega
   obtain ⟨x, hx⟩ : ∃ x, a.may[i]? = some x := ⟨_, List.getElem?_eq_getElem hlt⟩
   obtain ⟨y, hy⟩ : ∃ y, b.may[i]? = some y := ⟨_, List.getElem?_eq_getElem (by omega)⟩
   have rx := row2_get (k := .u32) (m := .i64) hx
   have ry := row2_get (k := .u32) (m := .i64) hy
   have q2 := b2 (x := x) (y := y)
   by_cases hxy : x = y
   ·have c3 : decide (x = y) = true := by simpa using hxy
    repeat' ((first | apply Run_seq | apply Run_skip | apply Run_block | apply Run_blk | refine Run_exit rfl ?_ | apply Run_ret | apply Run_nil | apply Run_condK | apply Run_ops mixed | apply Run_opsX mixed | (with_reducible first | refine PostV_open ?_ | refine ro_callV ?_) | simp (disch := omega) only [w64] | ((first | refine GuardK_split ?_ ?_ | refine CondK_split ?_ ?_) <;> intro hc <;> (try simp only [hc]) <;> try simp at hc) | (with_reducible refine ⟨?_, ?_⟩; (focus ((repeat' with_reducible refine ⟨?_, ?_⟩) <;> first | exact trivial | assumption | (simp; done) | (simp only [List.length_map] at *; omega) | omega | (simp [fs]; done)))) | (with_reducible intro x hx) | omega) <;> (try simp only [row2_len, c2, q2, c3, rx, ry, Qu.cells, Nat.reduceBEq, reduceIte, Nat.reduceAdd, cond_true, fw, fd]))
    refine hk ⟨i + 1, by omega, eq_step ht hx hy hxy⟩ _ _ (by dsimp only; omega) ?_
    dsimp only [Qu.cells]
    refine Ent_gc [0, 1] (by rfl) (by simp) (by simp [fg]) (by simp [fg])
   ·have c3 : decide (x = y) = false := by simpa using hxy
    have e : decide (a = b) = false := by
     have := eq_no hx hy hxy
     simp only [decide_eq_false_iff_not] at this ⊢
     exact fun h => this (by rw [h])
    rw [e]
    repeat' ((first | apply Run_seq | apply Run_skip | apply Run_block | apply Run_blk | refine Run_exit rfl ?_ | apply Run_ret | apply Run_nil | apply Run_condK | apply Run_ops mixed | apply Run_opsX mixed | (with_reducible first | refine PostV_open ?_ | refine ro_callV ?_) | simp (disch := omega) only [w64, wu64, wu32, wu16, wu8, Int.tdiv_eq_ediv_of_nonneg, Int.tmod_eq_emod_of_nonneg] | ((first | refine GuardK_split ?_ ?_ | refine CondK_split ?_ ?_) <;> intro hc <;> (try simp only [hc]) <;> try simp at hc) | (with_reducible refine ⟨?_, ?_⟩; (focus ((repeat' with_reducible refine ⟨?_, ?_⟩) <;> first | exact trivial | assumption | (simp; done) | (simp only [List.length_map] at *; omega) | omega | (simp [fs]; done)))) | (with_reducible intro x hx) | omega) <;> (try simp only [row2_len, c2, q2, c3, rx, ry, Qu.cells, Nat.reduceBEq, reduceIte, Nat.reduceAdd, cond_true, fw, fd]))
  ·have c2 : ((i : Int) < (a.may.length : Int)) = False := by simp; omega
   have q_may : a.may = b.may := by simpa using eq_end ht hlt hl1
   clear hk ht hlt hi
   repeat' ((first | apply Run_seq | apply Run_skip | apply Run_block | apply Run_blk | refine Run_exit rfl ?_ | apply Run_ret | apply Run_nil | apply Run_condK | apply Run_ops mixed | apply Run_opsX mixed | (with_reducible first | refine PostV_open ?_ | refine ro_callV ?_) | simp (disch := omega) only [w64, wu64, wu32, wu16, wu8, Int.tdiv_eq_ediv_of_nonneg, Int.tmod_eq_emod_of_nonneg] | ((first | refine GuardK_split ?_ ?_ | refine CondK_split ?_ ?_) <;> intro hc <;> (try simp only [hc]) <;> try simp at hc) | (with_reducible refine ⟨?_, ?_⟩; (focus ((repeat' with_reducible refine ⟨?_, ?_⟩) <;> first | exact trivial | assumption | (simp; done) | (simp only [List.length_map] at *; omega) | omega | (simp [fs]; done)))) | (with_reducible intro x hx) | omega) <;> (try simp only [row2_len, c2, Qu.cells, Nat.reduceBEq, reduceIte, fw, fd]))
   clear c2
   refine Run_loop (ι := {i : Nat // i ≤ a.apart.length ∧ a.apart.take i = b.apart.take i}) (fun i => ([(2, .ptr 0 0 0 1), (3, .ptr 1 0 0 1), (99, .int .i64 a.apart.length), (100, .int .i64 i.1)], [⟨true, false, true, false, 9, [a.cells], some 0⟩, ⟨true, false, true, false, 9, [b.cells], some 0⟩])) (fun i => a.apart.length - i.1) ⟨0, by simp⟩ ?_ ?_
   ·dsimp only [Qu.cells]
    refine Ent_gc [0, 1] (by rfl) (by simp) (by simp [fg]) (by simp [fg])
   rintro ⟨i, hi, ht⟩ hk
   dsimp only at hk ⊢
   by_cases hlt : i < a.apart.length
   ·have c2 : ((i : Int) < (a.apart.length : Int)) = True := by simp; omega
    obtain ⟨x, hx⟩ : ∃ x, a.apart[i]? = some x := ⟨_, List.getElem?_eq_getElem hlt⟩
    obtain ⟨y, hy⟩ : ∃ y, b.apart[i]? = some y := ⟨_, List.getElem?_eq_getElem (by omega)⟩
    have rx := row2_get (k := .u32) (m := .u32) hx
    have ry := row2_get (k := .u32) (m := .u32) hy
    have q2 := b2 (x := x) (y := y)
    by_cases hxy : x = y
    ·have c3 : decide (x = y) = true := by simpa using hxy
     repeat' ((first | apply Run_seq | apply Run_skip | apply Run_block | apply Run_blk | refine Run_exit rfl ?_ | apply Run_ret | apply Run_nil | apply Run_condK | apply Run_ops mixed | apply Run_opsX mixed | (with_reducible first | refine PostV_open ?_ | refine ro_callV ?_) | simp (disch := omega) only [w64] | ((first | refine GuardK_split ?_ ?_ | refine CondK_split ?_ ?_) <;> intro hc <;> (try simp only [hc]) <;> try simp at hc) | (with_reducible refine ⟨?_, ?_⟩; (focus ((repeat' with_reducible refine ⟨?_, ?_⟩) <;> first | exact trivial | assumption | (simp; done) | (simp only [List.length_map] at *; omega) | omega | (simp [fs]; done)))) | (with_reducible intro x hx) | omega) <;> (try simp only [row2_len, c2, q2, c3, rx, ry, Qu.cells, Nat.reduceBEq, reduceIte, Nat.reduceAdd, cond_true, fw, fd]))
     refine hk ⟨i + 1, by omega, eq_step ht hx hy hxy⟩ _ _ (by dsimp only; omega) ?_
     dsimp only [Qu.cells]
     refine Ent_gc [0, 1] (by rfl) (by simp) (by simp [fg]) (by simp [fg])
    ·have c3 : decide (x = y) = false := by simpa using hxy
     have e : decide (a = b) = false := by
      have := eq_no hx hy hxy
      simp only [decide_eq_false_iff_not] at this ⊢
      exact fun h => this (by rw [h])
     rw [e]
     repeat' ((first | apply Run_seq | apply Run_skip | apply Run_block | apply Run_blk | refine Run_exit rfl ?_ | apply Run_ret | apply Run_nil | apply Run_condK | apply Run_ops mixed | apply Run_opsX mixed | (with_reducible first | refine PostV_open ?_ | refine ro_callV ?_) | simp (disch := omega) only [w64, wu64, wu32, wu16, wu8, Int.tdiv_eq_ediv_of_nonneg, Int.tmod_eq_emod_of_nonneg] | ((first | refine GuardK_split ?_ ?_ | refine CondK_split ?_ ?_) <;> intro hc <;> (try simp only [hc]) <;> try simp at hc) | (with_reducible refine ⟨?_, ?_⟩; (focus ((repeat' with_reducible refine ⟨?_, ?_⟩) <;> first | exact trivial | assumption | (simp; done) | (simp only [List.length_map] at *; omega) | omega | (simp [fs]; done)))) | (with_reducible intro x hx) | omega) <;> (try simp only [row2_len, c2, q2, c3, rx, ry, Qu.cells, Nat.reduceBEq, reduceIte, Nat.reduceAdd, cond_true, fw, fd]))
   ·have c2 : ((i : Int) < (a.apart.length : Int)) = False := by simp; omega
    have q_apart : a.apart = b.apart := by simpa using eq_end ht hlt hl2
    clear hk ht hlt hi
    have e6 : decide (a = b) = decide (a.prefer = b.prefer) := by
     rw [Bool.eq_iff_iff]; simp [Qu.eq_iff, e0, e1, e2, e3, e4, q_must, q_may, q_apart]
    rw [e6]
    have w_prefer := shifts_p a.prefer b.prefer (by omega) (by omega)
    repeat' ((first | apply Run_seq | apply Run_skip | apply Run_block | apply Run_blk | refine Run_exit rfl ?_ | apply Run_ret | apply Run_nil | apply Run_condK | apply Run_ops mixed | apply Run_opsX mixed | (with_reducible first | refine PostV_open ?_ | refine ro_callV ?_) | refine CallV_pure (w_prefer) ?_ ?_ | simp (disch := omega) only [w64, wu64, wu32, wu16, wu8, Int.tdiv_eq_ediv_of_nonneg, Int.tmod_eq_emod_of_nonneg] | ((first | refine GuardK_split ?_ ?_ | refine CondK_split ?_ ?_) <;> intro hc <;> (try simp only [hc]) <;> try simp at hc) | (with_reducible refine ⟨?_, ?_⟩; (focus ((repeat' with_reducible refine ⟨?_, ?_⟩) <;> first | exact trivial | assumption | (simp; done) | (simp only [List.length_map] at *; omega) | omega | (simp [fs]; done)))) | (with_reducible intro x hx) | omega) <;> (try simp only [c2, Qu.cells, Nat.reduceBEq, reduceIte, fw, fd]))
end Go.Proofs.YtgefljdclekadaaGreat

namespace Go.Proofs.YtgefljdclekadaaGreat
open Go Go.Vi


theorem Po.eq_iff {a b : Po} : a = b ↔ (a.id = b.id ∧ a.owner = b.owner ∧ a.qu = b.qu ∧ a.slots = b.slots ∧ a.votes = b.votes ∧ a.til = b.til ∧ a.state = b.state ∧ a.winner = b.winner) := by
 cases a; cases b; simp only [Po.mk.injEq]
set_option maxHeartbeats 4000000 in
theorem samePo_p (a b : Po) (fa : a.fits) (fb : b.fits) : PureD Tryz.prog 29 [.agg a.row, .agg b.row] (.bool (decide (a = b))) := by
 refine pureV Tryz.func29 low29 (by simp [c29]) ?_
 simp only [c29, Po.row]
 obtain ⟨a1, a2, a3⟩ := fa
 obtain ⟨b1, b2', b3'⟩ := fb
 have g_qu := sameQu_p a.qu b.qu a1 b1
 simp only [Qu.cells] at g_qu
 have g_slots := longs_p a.slots b.slots (by omega) (by omega)
 by_cases h : ¬ (b.id = a.id ∧ b.owner = a.owner ∧ b.til = a.til ∧ b.state = a.state ∧ b.winner = a.winner ∧ a.qu = b.qu ∧ a.slots = b.slots ∧ a.votes.length = b.votes.length)
 ·have e : decide (a = b) = false := by
   simp only [decide_eq_false_iff_not]
   rintro rfl
   exact h ⟨rfl, rfl, rfl, rfl, rfl, rfl, rfl, rfl⟩
  rw [e]
  repeat' ((first | apply Run_seq | apply Run_skip | apply Run_block | apply Run_blk | refine Run_exit rfl ?_ | apply Run_ret | apply Run_nil | apply Run_condK | apply Run_ops mixed | apply Run_opsX mixed | (with_reducible first | refine PostV_open ?_ | refine ro_callV ?_) | refine CallV_pure (g_qu) ?_ ?_ | refine CallV_pure (g_slots) ?_ ?_ | simp (disch := omega) only [w64, wu64, wu32, wu16, wu8, Int.tdiv_eq_ediv_of_nonneg, Int.tmod_eq_emod_of_nonneg] | ((first | refine GuardK_split ?_ ?_ | refine CondK_split ?_ ?_) <;> intro hc <;> (try simp only [hc]) <;> try simp at hc) | (with_reducible refine ⟨?_, ?_⟩; (focus ((repeat' with_reducible refine ⟨?_, ?_⟩) <;> first | exact trivial | assumption | (simp; done) | (simp only [List.length_map] at *; omega) | omega | (simp [fs]; done)))) | (with_reducible intro x hx) | omega) <;> (try simp only [row2_len, Nat.reduceBEq, reduceIte, Nat.reduceAdd, Nat.reduceLeDiff, reduceCtorEq, cond_true, cond_false, ne_eq, fw, fd]))
  all_goals (first | (exfalso; simp_all; done) | (exfalso; apply h; simp_all; done) | (exfalso; apply h; simp_all; omega))
 obtain ⟨e0, e1, e2, e3, e4, d0, d1, hl0⟩ : (b.id = a.id ∧ b.owner = a.owner ∧ b.til = a.til ∧ b.state = a.state ∧ b.winner = a.winner ∧ a.qu = b.qu ∧ a.slots = b.slots ∧ a.votes.length = b.votes.length) := by simpa using h
 have k0 : decide (a.qu = b.qu) = true := by simpa using d0
 have k1 : decide (a.slots = b.slots) = true := by simpa using d1
 have cl0 : ((a.votes.length : Int) == (b.votes.length : Int)) = true := by simp [hl0]
 repeat' ((first | apply Run_seq | apply Run_skip | apply Run_block | apply Run_blk | refine Run_exit rfl ?_ | apply Run_ret | apply Run_nil | apply Run_condK | apply Run_ops mixed | apply Run_opsX mixed | (with_reducible first | refine PostV_open ?_ | refine ro_callV ?_) | refine CallV_pure (g_qu) ?_ ?_ | refine CallV_pure (g_slots) ?_ ?_ | simp (disch := omega) only [w64, wu64, wu32, wu16, wu8, Int.tdiv_eq_ediv_of_nonneg, Int.tmod_eq_emod_of_nonneg] | ((first | refine GuardK_split ?_ ?_ | refine CondK_split ?_ ?_) <;> intro hc <;> (try simp only [hc]) <;> try simp at hc) | (with_reducible refine ⟨?_, ?_⟩; (focus ((repeat' with_reducible refine ⟨?_, ?_⟩) <;> first | exact trivial | assumption | (simp; done) | (simp only [List.length_map] at *; omega) | omega | (simp [fs]; done)))) | (with_reducible intro x hx) | omega) <;> (try simp only [row2_len, e0, e1, e2, e3, e4, k0, k1, Nat.reduceBEq, reduceIte, Nat.reduceAdd, Nat.reduceLeDiff, reduceCtorEq, cond_true, cond_false, ne_eq, fw, fd]))
 refine Run_loop (ι := {i : Nat // i ≤ a.votes.length ∧ a.votes.take i = b.votes.take i}) (fun i => ([(2, .ptr 0 0 0 1), (3, .ptr 1 0 0 1), (66, .int .i64 a.votes.length), (67, .int .i64 i.1)], [⟨true, false, true, false, 16, [a.row], some 0⟩, ⟨true, false, true, false, 16, [b.row], some 0⟩])) (fun i => a.votes.length - i.1) ⟨0, by simp⟩ ?_ ?_
 ·simp only [Po.row, e0, e1, e2, e3, e4]
  refine Ent_gc [0, 1] (by rfl) (by simp) (by simp [fg]) (by simp [fg])
 rintro ⟨i, hi, ht⟩ hk
 dsimp only at hk ⊢
 by_cases hlt : i < a.votes.length
 ·have c2 : ((i : Int) < (a.votes.length : Int)) = True := by simp; omega
  obtain ⟨x, hx⟩ : ∃ x, a.votes[i]? = some x := ⟨_, List.getElem?_eq_getElem hlt⟩
  obtain ⟨y, hy⟩ : ∃ y, b.votes[i]? = some y := ⟨_, List.getElem?_eq_getElem (by omega)⟩
  have rx := row2_get (k := .u32) (m := .i64) hx
  have ry := row2_get (k := .u32) (m := .i64) hy
  have q2 := b2 (x := x) (y := y)
  by_cases hxy : x = y
  ·have c3 : decide (x = y) = true := by simpa using hxy
   repeat' ((first | apply Run_seq | apply Run_skip | apply Run_block | apply Run_blk | refine Run_exit rfl ?_ | apply Run_ret | apply Run_nil | apply Run_condK | apply Run_ops mixed | apply Run_opsX mixed | (with_reducible first | refine PostV_open ?_ | refine ro_callV ?_) | simp (disch := omega) only [w64] | ((first | refine GuardK_split ?_ ?_ | refine CondK_split ?_ ?_) <;> intro hc <;> (try simp only [hc]) <;> try simp at hc) | (with_reducible refine ⟨?_, ?_⟩; (focus ((repeat' with_reducible refine ⟨?_, ?_⟩) <;> first | exact trivial | assumption | (simp; done) | (simp only [List.length_map] at *; omega) | omega | (simp [fs]; done)))) | (with_reducible intro x hx) | omega) <;> (try simp only [row2_len, c2, q2, c3, rx, ry, Po.row, Nat.reduceBEq, reduceIte, Nat.reduceAdd, cond_true, fw, fd]))
   refine hk ⟨i + 1, by omega, eq_step ht hx hy hxy⟩ _ _ (by dsimp only; omega) ?_
   dsimp only [Po.row]
   refine Ent_gc [0, 1] (by rfl) (by simp) (by simp [fg]) (by simp [fg])
  ·have c3 : decide (x = y) = false := by simpa using hxy
   have e : decide (a = b) = false := by
    have := eq_no hx hy hxy
    simp only [decide_eq_false_iff_not] at this ⊢
    exact fun h => this (by rw [h])
   rw [e]
   repeat' ((first | apply Run_seq | apply Run_skip | apply Run_block | apply Run_blk | refine Run_exit rfl ?_ | apply Run_ret | apply Run_nil | apply Run_condK | apply Run_ops mixed | apply Run_opsX mixed | (with_reducible first | refine PostV_open ?_ | refine ro_callV ?_) | simp (disch := omega) only [w64, wu64, wu32, wu16, wu8, Int.tdiv_eq_ediv_of_nonneg, Int.tmod_eq_emod_of_nonneg] | ((first | refine GuardK_split ?_ ?_ | refine CondK_split ?_ ?_) <;> intro hc <;> (try simp only [hc]) <;> try simp at hc) | (with_reducible refine ⟨?_, ?_⟩; (focus ((repeat' with_reducible refine ⟨?_, ?_⟩) <;> first | exact trivial | assumption | (simp; done) | (simp only [List.length_map] at *; omega) | omega | (simp [fs]; done)))) | (with_reducible intro x hx) | omega) <;> (try simp only [row2_len, c2, q2, c3, rx, ry, Po.row, Nat.reduceBEq, reduceIte, Nat.reduceAdd, cond_true, fw, fd]))
 ·have c2 : ((i : Int) < (a.votes.length : Int)) = False := by simp; omega
  have q_votes : a.votes = b.votes := by simpa using eq_end ht hlt hl0
  clear hk ht hlt hi
  have e6 : decide (a = b) = true := by
   rw [Bool.eq_iff_iff]; simp [Po.eq_iff, e0, e1, e2, e3, e4, d0, d1, q_votes]
  rw [e6]
  repeat' ((first | apply Run_seq | apply Run_skip | apply Run_block | apply Run_blk | refine Run_exit rfl ?_ | apply Run_ret | apply Run_nil | apply Run_condK | apply Run_ops mixed | apply Run_opsX mixed | (with_reducible first | refine PostV_open ?_ | refine ro_callV ?_) | simp (disch := omega) only [w64, wu64, wu32, wu16, wu8, Int.tdiv_eq_ediv_of_nonneg, Int.tmod_eq_emod_of_nonneg] | ((first | refine GuardK_split ?_ ?_ | refine CondK_split ?_ ?_) <;> intro hc <;> (try simp only [hc]) <;> try simp at hc) | (with_reducible refine ⟨?_, ?_⟩; (focus ((repeat' with_reducible refine ⟨?_, ?_⟩) <;> first | exact trivial | assumption | (simp; done) | (simp only [List.length_map] at *; omega) | omega | (simp [fs]; done)))) | (with_reducible intro x hx) | omega) <;> (try simp only [c2, Po.row, Nat.reduceBEq, reduceIte, fw, fd]))
theorem En.eq_iff {a b : En} : a = b ↔ (a.id = b.id ∧ a.ev = b.ev) := by
 cases a; cases b; simp only [En.mk.injEq]
theorem Us.eq_iff {a b : Us} : a = b ↔ (a.id = b.id ∧ a.se = b.se ∧ a.ver = b.ver ∧ a.evs = b.evs) := by
 cases a; cases b; simp only [Us.mk.injEq]
theorem Sta.eq_iff {a b : Sta} : a = b ↔ (a.t = b.t ∧ a.us = b.us ∧ a.ps = b.ps ∧ a.ds = b.ds) := by
 cases a; cases b; simp only [Sta.mk.injEq]
end Go.Proofs.YtgefljdclekadaaGreat
