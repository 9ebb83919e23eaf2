import Derived.Test.YtgefljdclekadaaRMA
import Derived.Test.YtgefljdclekadaaVi25
set_option linter.unusedVariables false
set_option linter.unusedSimpArgs false
namespace Go.Proofs.Ytgefljdclekadaa
open Go Go.Vi
structure wx where
 t : Int
 us : List Us
 ps : List Po
 ds : List Dn
 deriving DecidableEq
def wx.cells (s : wx) : List D := [.int .i64 s.t, L (tO s.us), L (sa s.ps), L (sy s.ds)]
def Se.fits (s : Se) : Prop := s.turns.length ≤ 140737488351232 ∧ s.shifts.length ≤ 140737488351232 ∧ s.off.length ≤ 140737488351232
def Ev.fits (s : Ev) : Prop := s.rule.fits ∧ s.ex.length ≤ 140737488351232 ∧ s.plus.length ≤ 140737488351232 ∧ s.ch.length ≤ 140737488351232
def Qu.fits (s : Qu) : Prop := s.must.length ≤ 140737488351232 ∧ s.may.length ≤ 140737488351232 ∧ s.apart.length ≤ 140737488351232 ∧ s.prefer.length ≤ 140737488351232
def Po.fits (s : Po) : Prop := s.qu.fits ∧ s.slots.length ≤ 140737488351232 ∧ s.votes.length ≤ 140737488351232
def Us.fit (s : Us) : Prop := s.se.fits ∧ s.evs.length ≤ 140737488351232 ∧ ∀ e ∈ s.evs, e.ev.fits
def wx.fits (s : wx) : Prop := s.us.length ≤ 1407374883512 ∧ s.ps.length ≤ 1407374883512 ∧ s.ds.length ≤ 5864062014677 ∧ (∀ u ∈ s.us, u.fit) ∧ ∀ p ∈ s.ps, p.fits
theorem Se.eq_iff {a b : Se} : a = b ↔ (a.base = b.base ∧ a.turns = b.turns ∧ a.shifts = b.shifts ∧ a.off = b.off ∧ a.before = b.before ∧ a.after = b.after) := by
 cases a; cases b; simp only [Se.mk.injEq]
set_option maxHeartbeats 4000000 in
theorem rZ (a b : Se) (fa : a.fits) (fb : b.fits) : br Try.prog 20 [.agg a.cells, .agg b.cells] (.bool (decide (a = b))) := by
 refine bX Try.func20 low20 (by simp [c20]) ?_
 simp only [c20, Se.cells]
 obtain ⟨a1, a2, a3⟩ := fa
 obtain ⟨b1, b2', b3'⟩ := fb
 by_cases h : ¬ (b.base = a.base ∧ b.before = a.before ∧ b.after = a.after ∧ a.turns.length = b.turns.length)
 ·have e : decide (a = b) = false := by
   simp only [decide_eq_false_iff_not]
   rintro rfl
   exact h ⟨rfl, rfl, rfl, rfl⟩
  rw [e]
  repeat' ((first | apply ai | apply ah | apply am | apply au | refine aq rfl ?_ | apply al | apply aj | apply ae | apply ak mixed | apply ap mixed | (with_reducible first | refine ax ?_ | refine ao ?_) | simp (disch := omega) only [bf, aG, aN, aO, bp, Int.tdiv_eq_ediv_of_nonneg, Int.tmod_eq_emod_of_nonneg] | ((first | refine ac ?_ ?_ | refine aa ?_ ?_) <;> intro hc <;> (try simp only [hc]) <;> try simp at hc) | (with_reducible refine ⟨?_, ?_⟩; (focus ((repeat' with_reducible refine ⟨?_, ?_⟩) <;> first | exact trivial | assumption | (simp; done) | (simp only [List.length_map] at *; omega) | omega | (simp [fs]; done)))) | (with_reducible intro x hx) | omega) <;> (try simp only [aF, Nat.reduceBEq, reduceIte, Nat.reduceAdd, reduceCtorEq, cond_true, cond_false, ne_eq, fw, fd]))
  all_goals (first | (exfalso; simp_all; done) | (exfalso; apply h; simp_all; done) | (exfalso; apply h; simp_all; omega))
 obtain ⟨e0, e1, e2, hl0⟩ : (b.base = a.base ∧ b.before = a.before ∧ b.after = a.after ∧ a.turns.length = b.turns.length) := by simpa using h
 have cl0 : ((a.turns.length : Int) == (b.turns.length : Int)) = true := by simp [hl0]
 repeat' ((first | apply ai | apply ah | apply am | apply au | refine aq rfl ?_ | apply al | apply aj | apply ae | apply ak mixed | apply ap mixed | (with_reducible first | refine ax ?_ | refine ao ?_) | simp (disch := omega) only [bf, aG, aN, aO, bp, Int.tdiv_eq_ediv_of_nonneg, Int.tmod_eq_emod_of_nonneg] | ((first | refine ac ?_ ?_ | refine aa ?_ ?_) <;> intro hc <;> (try simp only [hc]) <;> try simp at hc) | (with_reducible refine ⟨?_, ?_⟩; (focus ((repeat' with_reducible refine ⟨?_, ?_⟩) <;> first | exact trivial | assumption | (simp; done) | (simp only [List.length_map] at *; omega) | omega | (simp [fs]; done)))) | (with_reducible intro x hx) | omega) <;> (try simp only [aF, e0, e1, e2, Nat.reduceBEq, reduceIte, Nat.reduceAdd, reduceCtorEq, cond_true, cond_false, ne_eq, fw, fd]))
 refine aT (ι := {i : Nat // i ≤ a.turns.length ∧ a.turns.take i = b.turns.take i}) (fun i => ([(2, .ptr 0 0 0 1), (3, .ptr 1 0 0 1), (41, .int .i64 a.turns.length), (42, .int .i64 i.1)], [⟨true, false, true, false, 6, [a.cells], some 0⟩, ⟨true, false, true, false, 6, [b.cells], some 0⟩])) (fun i => a.turns.length - i.1) ⟨0, by simp⟩ ?_ ?_
 ·simp only [Se.cells, e0, e1, e2]
  refine aJ [0, 1] (by rfl) (by simp) (by simp [fg]) (by simp [fg])
 rintro ⟨i, hi, ht⟩ hk
 dsimp only at hk ⊢
 by_cases hlt : i < a.turns.length
 ·have c2 : ((i : Int) < (a.turns.length : Int)) = True := by simp; omega
  obtain ⟨x, hx⟩ : ∃ x, a.turns[i]? = some x := ⟨_, List.getElem?_eq_getElem hlt⟩
  obtain ⟨y, hy⟩ : ∃ y, b.turns[i]? = some y := ⟨_, List.getElem?_eq_getElem (by omega)⟩
  have rx := bO (k := .i64) (m := .i64) hx
  have ry := bO (k := .i64) (m := .i64) hy
  have q2 := b2 (x := x) (y := y)
  by_cases hxy : x = y
  ·have c3 : decide (x = y) = true := by simpa using hxy
   repeat' ((first | apply ai | apply ah | apply am | apply au | refine aq rfl ?_ | apply al | apply aj | apply ae | apply ak mixed | apply ap mixed | (with_reducible first | refine ax ?_ | refine ao ?_) | simp (disch := omega) only [bf] | ((first | refine ac ?_ ?_ | refine aa ?_ ?_) <;> intro hc <;> (try simp only [hc]) <;> try simp at hc) | (with_reducible refine ⟨?_, ?_⟩; (focus ((repeat' with_reducible refine ⟨?_, ?_⟩) <;> first | exact trivial | assumption | (simp; done) | (simp only [List.length_map] at *; omega) | omega | (simp [fs]; done)))) | (with_reducible intro x hx) | omega) <;> (try simp only [aF, c2, q2, c3, rx, ry, Se.cells, Nat.reduceBEq, reduceIte, Nat.reduceAdd, cond_true, fw, fd]))
   refine hk ⟨i + 1, by omega, bZ ht hx hy hxy⟩ _ _ (by dsimp only; omega) ?_
   dsimp only [Se.cells]
   refine aJ [0, 1] (by rfl) (by simp) (by simp [fg]) (by simp [fg])
  ·have c3 : decide (x = y) = false := by simpa using hxy
   have e : decide (a = b) = false := by
    have := dC hx hy hxy
    simp only [decide_eq_false_iff_not] at this ⊢
    exact fun h => this (by rw [h])
   rw [e]
   repeat' ((first | apply ai | apply ah | apply am | apply au | refine aq rfl ?_ | apply al | apply aj | apply ae | apply ak mixed | apply ap mixed | (with_reducible first | refine ax ?_ | refine ao ?_) | simp (disch := omega) only [bf, aG, aN, aO, bp, Int.tdiv_eq_ediv_of_nonneg, Int.tmod_eq_emod_of_nonneg] | ((first | refine ac ?_ ?_ | refine aa ?_ ?_) <;> intro hc <;> (try simp only [hc]) <;> try simp at hc) | (with_reducible refine ⟨?_, ?_⟩; (focus ((repeat' with_reducible refine ⟨?_, ?_⟩) <;> first | exact trivial | assumption | (simp; done) | (simp only [List.length_map] at *; omega) | omega | (simp [fs]; done)))) | (with_reducible intro x hx) | omega) <;> (try simp only [aF, c2, q2, c3, rx, ry, Se.cells, Nat.reduceBEq, reduceIte, Nat.reduceAdd, cond_true, fw, fd]))
 ·have c2 : ((i : Int) < (a.turns.length : Int)) = False := by simp; omega
  have q_turns : a.turns = b.turns := by simpa using cM ht hlt hl0
  clear hk ht hlt hi
  have e6 : decide (a = b) = (decide (a.shifts = b.shifts) && decide (a.off = b.off)) := by
   rw [Bool.eq_iff_iff]; simp [Se.eq_iff, e0, e1, e2, q_turns]
  rw [e6]
  have w_shifts := m0 a.shifts b.shifts (by omega) (by omega)
  have w_off := xg a.off b.off (by omega) (by omega)
  repeat' ((first | apply ai | apply ah | apply am | apply au | refine aq rfl ?_ | apply al | apply aj | apply ae | apply ak mixed | apply ap mixed | (with_reducible first | refine ax ?_ | refine ao ?_) | refine av (w_shifts) ?_ ?_ | refine av (w_off) ?_ ?_ | simp (disch := omega) only [bf, aG, aN, aO, bp, Int.tdiv_eq_ediv_of_nonneg, Int.tmod_eq_emod_of_nonneg] | ((first | refine ac ?_ ?_ | refine aa ?_ ?_) <;> intro hc <;> (try simp only [hc]) <;> try simp at hc) | (with_reducible refine ⟨?_, ?_⟩; (focus ((repeat' with_reducible refine ⟨?_, ?_⟩) <;> first | exact trivial | assumption | (simp; done) | (simp only [List.length_map] at *; omega) | omega | (simp [fs]; done)))) | (with_reducible intro x hx) | omega) <;> (try simp only [c2, Se.cells, Nat.reduceBEq, reduceIte, Nat.reduceAdd, cond_true, cond_false, fw, fd]))
theorem Ev.eq_iff {a b : Ev} : a = b ↔ (a.start = b.start ∧ a.long = b.long ∧ a.world = b.world ∧ a.again = b.again ∧ a.rule = b.rule ∧ a.ex = b.ex ∧ a.plus = b.plus ∧ a.ch = b.ch) := by
 cases a; cases b; simp only [Ev.mk.injEq]
set_option maxHeartbeats 4000000 in
theorem tl (a b : Ev) (fa : a.fits) (fb : b.fits) : br Try.prog 21 [.agg a.cells, .agg b.cells] (.bool (decide (a = b))) := by
 refine bX Try.func21 low21 (by simp [c21]) ?_
 simp only [c21, Ev.cells]
 obtain ⟨a0, a1, a2, a3⟩ := fa
 obtain ⟨b0, b1, b2', b3'⟩ := fb
 by_cases h : ¬ (b.start = a.start ∧ b.long = a.long ∧ b.again = a.again ∧ b.world = a.world ∧ a.ch.length = b.ch.length)
 ·have e : decide (a = b) = false := by
   simp only [decide_eq_false_iff_not]
   rintro rfl
   exact h ⟨rfl, rfl, rfl, rfl, rfl⟩
  rw [e]
  repeat' ((first | apply ai | apply ah | apply am | apply au | refine aq rfl ?_ | apply al | apply aj | apply ae | apply ak mixed | apply ap mixed | (with_reducible first | refine ax ?_ | refine ao ?_) | simp (disch := omega) only [bf, aG, aN, aO, bp, Int.tdiv_eq_ediv_of_nonneg, Int.tmod_eq_emod_of_nonneg] | ((first | refine ac ?_ ?_ | refine aa ?_ ?_) <;> intro hc <;> (try simp only [hc]) <;> try simp at hc) | (with_reducible refine ⟨?_, ?_⟩; (focus ((repeat' with_reducible refine ⟨?_, ?_⟩) <;> first | exact trivial | assumption | (simp; done) | (simp only [List.length_map] at *; omega) | omega | (simp [fs]; done)))) | (with_reducible intro x hx) | omega) <;> (try simp only [aQ, Nat.reduceBEq, reduceIte, Nat.reduceAdd, reduceCtorEq, cond_true, cond_false, ne_eq, fw, fd]))
  all_goals (first | (exfalso; simp_all; done) | (exfalso; apply h; simp_all; done) | (exfalso; apply h; simp_all; omega))
 obtain ⟨e0, e1, e2, e3, hl0⟩ : (b.start = a.start ∧ b.long = a.long ∧ b.again = a.again ∧ b.world = a.world ∧ a.ch.length = b.ch.length) := by simpa using h
 have cl0 : ((a.ch.length : Int) == (b.ch.length : Int)) = true := by simp [hl0]
 repeat' ((first | apply ai | apply ah | apply am | apply au | refine aq rfl ?_ | apply al | apply aj | apply ae | apply ak mixed | apply ap mixed | (with_reducible first | refine ax ?_ | refine ao ?_) | simp (disch := omega) only [bf, aG, aN, aO, bp, Int.tdiv_eq_ediv_of_nonneg, Int.tmod_eq_emod_of_nonneg] | ((first | refine ac ?_ ?_ | refine aa ?_ ?_) <;> intro hc <;> (try simp only [hc]) <;> try simp at hc) | (with_reducible refine ⟨?_, ?_⟩; (focus ((repeat' with_reducible refine ⟨?_, ?_⟩) <;> first | exact trivial | assumption | (simp; done) | (simp only [List.length_map] at *; omega) | omega | (simp [fs]; done)))) | (with_reducible intro x hx) | omega) <;> (try simp only [aQ, e0, e1, e2, e3, beq_self_eq_true, Nat.reduceBEq, reduceIte, Nat.reduceAdd, reduceCtorEq, cond_true, cond_false, ne_eq, beq_self_eq_true, fw, fd]))
 refine aT (ι := {i : Nat // i ≤ a.ch.length ∧ a.ch.take i = b.ch.take i}) (fun i => ([(2, .ptr 0 0 0 1), (3, .ptr 1 0 0 1), (43, .int .i64 a.ch.length), (44, .int .i64 i.1)], [⟨true, false, true, false, 16, [a.cells], some 0⟩, ⟨true, false, true, false, 16, [b.cells], some 0⟩])) (fun i => a.ch.length - i.1) ⟨0, by simp⟩ ?_ ?_
 ·simp only [Ev.cells, e0, e1, e2, e3]
  refine aJ [0, 1] (by rfl) (by simp) (by simp [fg]) (by simp [fg])
 rintro ⟨i, hi, ht⟩ hk
 dsimp only at hk ⊢
 by_cases hlt : i < a.ch.length
 ·have c2 : ((i : Int) < (a.ch.length : Int)) = True := by simp; omega
  obtain ⟨x, hx⟩ : ∃ x, a.ch[i]? = some x := ⟨_, List.getElem?_eq_getElem hlt⟩
  obtain ⟨y, hy⟩ : ∃ y, b.ch[i]? = some y := ⟨_, List.getElem?_eq_getElem (by omega)⟩
  have rx := dc hx
  have ry := dc hy
  have q2 := b3 (x := x) (y := y)
  by_cases hxy : x = y
  ·have c3 : decide (x = y) = true := by simpa using hxy
   repeat' ((first | apply ai | apply ah | apply am | apply au | refine aq rfl ?_ | apply al | apply aj | apply ae | apply ak mixed | apply ap mixed | (with_reducible first | refine ax ?_ | refine ao ?_) | simp (disch := omega) only [bf] | ((first | refine ac ?_ ?_ | refine aa ?_ ?_) <;> intro hc <;> (try simp only [hc]) <;> try simp at hc) | (with_reducible refine ⟨?_, ?_⟩; (focus ((repeat' with_reducible refine ⟨?_, ?_⟩) <;> first | exact trivial | assumption | (simp; done) | (simp only [List.length_map] at *; omega) | omega | (simp [fs]; done)))) | (with_reducible intro x hx) | omega) <;> (try simp only [aQ, c2, q2, c3, rx, ry, Ev.cells, Nat.reduceBEq, reduceIte, Nat.reduceAdd, cond_true, fw, fd]))
   refine hk ⟨i + 1, by omega, bZ ht hx hy hxy⟩ _ _ (by dsimp only; omega) ?_
   dsimp only [Ev.cells]
   refine aJ [0, 1] (by rfl) (by simp) (by simp [fg]) (by simp [fg])
  ·have c3 : decide (x = y) = false := by simpa using hxy
   have e : decide (a = b) = false := by
    have := dC hx hy hxy
    simp only [decide_eq_false_iff_not] at this ⊢
    exact fun h => this (by rw [h])
   rw [e]
   repeat' ((first | apply ai | apply ah | apply am | apply au | refine aq rfl ?_ | apply al | apply aj | apply ae | apply ak mixed | apply ap mixed | (with_reducible first | refine ax ?_ | refine ao ?_) | simp (disch := omega) only [bf, aG, aN, aO, bp, Int.tdiv_eq_ediv_of_nonneg, Int.tmod_eq_emod_of_nonneg] | ((first | refine ac ?_ ?_ | refine aa ?_ ?_) <;> intro hc <;> (try simp only [hc]) <;> try simp at hc) | (with_reducible refine ⟨?_, ?_⟩; (focus ((repeat' with_reducible refine ⟨?_, ?_⟩) <;> first | exact trivial | assumption | (simp; done) | (simp only [List.length_map] at *; omega) | omega | (simp [fs]; done)))) | (with_reducible intro x hx) | omega) <;> (try simp only [aQ, c2, q2, c3, rx, ry, Ev.cells, Nat.reduceBEq, reduceIte, Nat.reduceAdd, cond_true, fw, fd]))
 ·have c2 : ((i : Int) < (a.ch.length : Int)) = False := by simp; omega
  have q_ch : a.ch = b.ch := by simpa using cM ht hlt hl0
  clear hk ht hlt hi
  have e6 : decide (a = b) = (decide (a.rule = b.rule) && (decide (a.ex = b.ex) && decide (a.plus = b.plus))) := by
   rw [Bool.eq_iff_iff]; simp [Ev.eq_iff, e0, e1, e2, e3, q_ch]
  rw [e6]
  have w_rule := sq a.rule b.rule a0 b0
  simp only [Ru.cells] at w_rule
  have w_ex := pH a.ex b.ex (by omega) (by omega)
  have w_plus := pH a.plus b.plus (by omega) (by omega)
  repeat' ((first | apply ai | apply ah | apply am | apply au | refine aq rfl ?_ | apply al | apply aj | apply ae | apply ak mixed | apply ap mixed | (with_reducible first | refine ax ?_ | refine ao ?_) | refine av (w_rule) ?_ ?_ | refine av (w_ex) ?_ ?_ | refine av (w_plus) ?_ ?_ | simp (disch := omega) only [bf, aG, aN, aO, bp, Int.tdiv_eq_ediv_of_nonneg, Int.tmod_eq_emod_of_nonneg] | ((first | refine ac ?_ ?_ | refine aa ?_ ?_) <;> intro hc <;> (try simp only [hc]) <;> try simp at hc) | (with_reducible refine ⟨?_, ?_⟩; (focus ((repeat' with_reducible refine ⟨?_, ?_⟩) <;> first | exact trivial | assumption | (simp; done) | (simp only [List.length_map] at *; omega) | omega | (simp [fs]; done)))) | (with_reducible intro x hx) | omega) <;> (try simp only [c2, Ev.cells, Nat.reduceBEq, reduceIte, Nat.reduceAdd, Nat.reduceLeDiff, cond_true, cond_false, fw, fd]))
theorem Qu.eq_iff {a b : Qu} : a = b ↔ (a.a = b.a ∧ a.b = b.b ∧ a.long = b.long ∧ a.grid = b.grid ∧ a.must = b.must ∧ a.may = b.may ∧ a.seats = b.seats ∧ a.apart = b.apart ∧ a.prefer = b.prefer) := by
 cases a; cases b; simp only [Qu.mk.injEq]
set_option maxHeartbeats 4000000 in
theorem sS (a b : Qu) (fa : a.fits) (fb : b.fits) : br Try.prog 22 [.agg a.cells, .agg b.cells] (.bool (decide (a = b))) := by
 refine bX Try.func22 low22 (by simp [c22]) ?_
 simp only [c22, Qu.cells]
 obtain ⟨a1, a2, a3, a4⟩ := fa
 obtain ⟨b1, b2', b3', b4⟩ := fb
 by_cases h : ¬ (b.a = a.a ∧ b.b = a.b ∧ b.long = a.long ∧ b.grid = a.grid ∧ b.seats = a.seats ∧ a.must.length = b.must.length ∧ a.may.length = b.may.length ∧ a.apart.length = b.apart.length)
 ·have e : decide (a = b) = false := by
   simp only [decide_eq_false_iff_not]
   rintro rfl
   exact h ⟨rfl, rfl, rfl, rfl, rfl, rfl, rfl, rfl⟩
  rw [e]
  repeat' ((first | apply ai | apply ah | apply am | apply au | refine aq rfl ?_ | apply al | apply aj | apply ae | apply ak mixed | apply ap mixed | (with_reducible first | refine ax ?_ | refine ao ?_) | simp (disch := omega) only [bf, aG, aN, aO, bp, Int.tdiv_eq_ediv_of_nonneg, Int.tmod_eq_emod_of_nonneg] | ((first | refine ac ?_ ?_ | refine aa ?_ ?_) <;> intro hc <;> (try simp only [hc]) <;> try simp at hc) | (with_reducible refine ⟨?_, ?_⟩; (focus ((repeat' with_reducible refine ⟨?_, ?_⟩) <;> first | exact trivial | assumption | (simp; done) | (simp only [List.length_map] at *; omega) | omega | (simp [fs]; done)))) | (with_reducible intro x hx) | omega) <;> (try simp only [aE, aF, Nat.reduceBEq, reduceIte, Nat.reduceAdd, Nat.reduceLeDiff, reduceCtorEq, cond_true, cond_false, ne_eq, fw, fd]))
  all_goals (first | (exfalso; simp_all; done) | (exfalso; apply h; simp_all; done) | (exfalso; apply h; simp_all; omega))
 obtain ⟨e0, e1, e2, e3, e4, hl0, hl1, hl2⟩ : (b.a = a.a ∧ b.b = a.b ∧ b.long = a.long ∧ b.grid = a.grid ∧ b.seats = a.seats ∧ a.must.length = b.must.length ∧ a.may.length = b.may.length ∧ a.apart.length = b.apart.length) := by simpa using h
 have cl0 : ((a.must.length : Int) == (b.must.length : Int)) = true := by simp [hl0]
 have cl1 : ((a.may.length : Int) == (b.may.length : Int)) = true := by simp [hl1]
 have cl2 : ((a.apart.length : Int) == (b.apart.length : Int)) = true := by simp [hl2]
 repeat' ((first | apply ai | apply ah | apply am | apply au | refine aq rfl ?_ | apply al | apply aj | apply ae | apply ak mixed | apply ap mixed | (with_reducible first | refine ax ?_ | refine ao ?_) | simp (disch := omega) only [bf, aG, aN, aO, bp, Int.tdiv_eq_ediv_of_nonneg, Int.tmod_eq_emod_of_nonneg] | ((first | refine ac ?_ ?_ | refine aa ?_ ?_) <;> intro hc <;> (try simp only [hc]) <;> try simp at hc) | (with_reducible refine ⟨?_, ?_⟩; (focus ((repeat' with_reducible refine ⟨?_, ?_⟩) <;> first | exact trivial | assumption | (simp; done) | (simp only [List.length_map] at *; omega) | omega | (simp [fs]; done)))) | (with_reducible intro x hx) | omega) <;> (try simp only [aE, aF, e0, e1, e2, e3, e4, beq_self_eq_true, Nat.reduceBEq, reduceIte, Nat.reduceAdd, Nat.reduceLeDiff, reduceCtorEq, cond_true, cond_false, ne_eq, beq_self_eq_true, fw, fd]))
 refine aT (ι := {i : Nat // i ≤ a.must.length ∧ a.must.take i = b.must.take i}) (fun i => ([(2, .ptr 0 0 0 1), (3, .ptr 1 0 0 1), (63, .int .i64 a.must.length), (64, .int .i64 i.1)], [⟨true, false, true, false, 9, [a.cells], some 0⟩, ⟨true, false, true, false, 9, [b.cells], some 0⟩])) (fun i => a.must.length - i.1) ⟨0, by simp⟩ ?_ ?_
 ·simp only [Qu.cells, e0, e1, e2, e3, e4]
  refine aJ [0, 1] (by rfl) (by simp) (by simp [fg]) (by simp [fg])
 rintro ⟨i, hi, ht⟩ hk
 dsimp only at hk ⊢
 by_cases hlt : i < a.must.length
 ·have c2 : ((i : Int) < (a.must.length : Int)) = True := by simp; omega
  obtain ⟨x, hx⟩ : ∃ x, a.must[i]? = some x := ⟨_, List.getElem?_eq_getElem hlt⟩
  obtain ⟨y, hy⟩ : ∃ y, b.must[i]? = some y := ⟨_, List.getElem?_eq_getElem (by omega)⟩
  have rx := bR (k := .u32) hx
  have ry := bR (k := .u32) hy
  by_cases hxy : x = y
  ·have c3 : (x == y) = true := by simpa using hxy
   repeat' ((first | apply ai | apply ah | apply am | apply au | refine aq rfl ?_ | apply al | apply aj | apply ae | apply ak mixed | apply ap mixed | (with_reducible first | refine ax ?_ | refine ao ?_) | simp (disch := omega) only [bf] | ((first | refine ac ?_ ?_ | refine aa ?_ ?_) <;> intro hc <;> (try simp only [hc]) <;> try simp at hc) | (with_reducible refine ⟨?_, ?_⟩; (focus ((repeat' with_reducible refine ⟨?_, ?_⟩) <;> first | exact trivial | assumption | (simp; done) | (simp only [List.length_map] at *; omega) | omega | (simp [fs]; done)))) | (with_reducible intro x hx) | omega) <;> (try simp only [aE, c2, rx, ry, Qu.cells, Nat.reduceBEq, reduceIte, fw, fd]))
   refine hk ⟨i + 1, by omega, bZ ht hx hy hxy⟩ _ _ (by dsimp only; omega) ?_
   dsimp only [Qu.cells]
   refine aJ [0, 1] (by rfl) (by simp) (by simp [fg]) (by simp [fg])
  ·have c3 : (x == y) = false := by simpa using hxy
   have e : decide (a = b) = false := by
    have := dC hx hy hxy
    simp only [decide_eq_false_iff_not] at this ⊢
    exact fun h => this (by rw [h])
   rw [e]
   repeat' ((first | apply ai | apply ah | apply am | apply au | refine aq rfl ?_ | apply al | apply aj | apply ae | apply ak mixed | apply ap mixed | (with_reducible first | refine ax ?_ | refine ao ?_) | simp (disch := omega) only [bf] | ((first | refine ac ?_ ?_ | refine aa ?_ ?_) <;> intro hc <;> (try simp only [hc]) <;> try simp at hc) | (with_reducible refine ⟨?_, ?_⟩; (focus ((repeat' with_reducible refine ⟨?_, ?_⟩) <;> first | exact trivial | assumption | (simp; done) | (simp only [List.length_map] at *; omega) | omega | (simp [fs]; done)))) | (with_reducible intro x hx) | omega) <;> (try simp only [aE, c2, rx, ry, Qu.cells, Nat.reduceBEq, reduceIte, fw, fd]))
 ·have c2 : ((i : Int) < (a.must.length : Int)) = False := by simp; omega
  have q_must : a.must = b.must := by simpa using cM ht hlt hl0
  clear hk ht hlt hi
  repeat' ((first | apply ai | apply ah | apply am | apply au | refine aq rfl ?_ | apply al | apply aj | apply ae | apply ak mixed | apply ap mixed | (with_reducible first | refine ax ?_ | refine ao ?_) | simp (disch := omega) only [bf, aG, aN, aO, bp, Int.tdiv_eq_ediv_of_nonneg, Int.tmod_eq_emod_of_nonneg] | ((first | refine ac ?_ ?_ | refine aa ?_ ?_) <;> intro hc <;> (try simp only [hc]) <;> try simp at hc) | (with_reducible refine ⟨?_, ?_⟩; (focus ((repeat' with_reducible refine ⟨?_, ?_⟩) <;> first | exact trivial | assumption | (simp; done) | (simp only [List.length_map] at *; omega) | omega | (simp [fs]; done)))) | (with_reducible intro x hx) | omega) <;> (try simp only [aF, c2, Qu.cells, Nat.reduceBEq, reduceIte, fw, fd]))
  clear c2
  refine aT (ι := {i : Nat // i ≤ a.may.length ∧ a.may.take i = b.may.take i}) (fun i => ([(2, .ptr 0 0 0 1), (3, .ptr 1 0 0 1), (81, .int .i64 a.may.length), (82, .int .i64 i.1)], [⟨true, false, true, false, 9, [a.cells], some 0⟩, ⟨true, false, true, false, 9, [b.cells], some 0⟩])) (fun i => a.may.length - i.1) ⟨0, by simp⟩ ?_ ?_
  ·dsimp only [Qu.cells]
   refine aJ [0, 1] (by rfl) (by simp) (by simp [fg]) (by simp [fg])
  rintro ⟨i, hi, ht⟩ hk
  dsimp only at hk ⊢
  by_cases hlt : i < a.may.length
  ·have c2 : ((i : Int) < (a.may.length : Int)) = True := by simp; omega
   obtain ⟨x, hx⟩ : ∃ x, a.may[i]? = some x := ⟨_, List.getElem?_eq_getElem hlt⟩
   obtain ⟨y, hy⟩ : ∃ y, b.may[i]? = some y := ⟨_, List.getElem?_eq_getElem (by omega)⟩
   have rx := bO (k := .u32) (m := .i64) hx
   have ry := bO (k := .u32) (m := .i64) hy
   have q2 := b2 (x := x) (y := y)
   by_cases hxy : x = y
   ·have c3 : decide (x = y) = true := by simpa using hxy
    repeat' ((first | apply ai | apply ah | apply am | apply au | refine aq rfl ?_ | apply al | apply aj | apply ae | apply ak mixed | apply ap mixed | (with_reducible first | refine ax ?_ | refine ao ?_) | simp (disch := omega) only [bf] | ((first | refine ac ?_ ?_ | refine aa ?_ ?_) <;> intro hc <;> (try simp only [hc]) <;> try simp at hc) | (with_reducible refine ⟨?_, ?_⟩; (focus ((repeat' with_reducible refine ⟨?_, ?_⟩) <;> first | exact trivial | assumption | (simp; done) | (simp only [List.length_map] at *; omega) | omega | (simp [fs]; done)))) | (with_reducible intro x hx) | omega) <;> (try simp only [aF, c2, q2, c3, rx, ry, Qu.cells, Nat.reduceBEq, reduceIte, Nat.reduceAdd, cond_true, fw, fd]))
    refine hk ⟨i + 1, by omega, bZ ht hx hy hxy⟩ _ _ (by dsimp only; omega) ?_
    dsimp only [Qu.cells]
    refine aJ [0, 1] (by rfl) (by simp) (by simp [fg]) (by simp [fg])
   ·have c3 : decide (x = y) = false := by simpa using hxy
    have e : decide (a = b) = false := by
     have := dC hx hy hxy
     simp only [decide_eq_false_iff_not] at this ⊢
     exact fun h => this (by rw [h])
    rw [e]
    repeat' ((first | apply ai | apply ah | apply am | apply au | refine aq rfl ?_ | apply al | apply aj | apply ae | apply ak mixed | apply ap mixed | (with_reducible first | refine ax ?_ | refine ao ?_) | simp (disch := omega) only [bf, aG, aN, aO, bp, Int.tdiv_eq_ediv_of_nonneg, Int.tmod_eq_emod_of_nonneg] | ((first | refine ac ?_ ?_ | refine aa ?_ ?_) <;> intro hc <;> (try simp only [hc]) <;> try simp at hc) | (with_reducible refine ⟨?_, ?_⟩; (focus ((repeat' with_reducible refine ⟨?_, ?_⟩) <;> first | exact trivial | assumption | (simp; done) | (simp only [List.length_map] at *; omega) | omega | (simp [fs]; done)))) | (with_reducible intro x hx) | omega) <;> (try simp only [aF, c2, q2, c3, rx, ry, Qu.cells, Nat.reduceBEq, reduceIte, Nat.reduceAdd, cond_true, fw, fd]))
  ·have c2 : ((i : Int) < (a.may.length : Int)) = False := by simp; omega
   have q_may : a.may = b.may := by simpa using cM ht hlt hl1
   clear hk ht hlt hi
   repeat' ((first | apply ai | apply ah | apply am | apply au | refine aq rfl ?_ | apply al | apply aj | apply ae | apply ak mixed | apply ap mixed | (with_reducible first | refine ax ?_ | refine ao ?_) | simp (disch := omega) only [bf, aG, aN, aO, bp, Int.tdiv_eq_ediv_of_nonneg, Int.tmod_eq_emod_of_nonneg] | ((first | refine ac ?_ ?_ | refine aa ?_ ?_) <;> intro hc <;> (try simp only [hc]) <;> try simp at hc) | (with_reducible refine ⟨?_, ?_⟩; (focus ((repeat' with_reducible refine ⟨?_, ?_⟩) <;> first | exact trivial | assumption | (simp; done) | (simp only [List.length_map] at *; omega) | omega | (simp [fs]; done)))) | (with_reducible intro x hx) | omega) <;> (try simp only [aF, c2, Qu.cells, Nat.reduceBEq, reduceIte, fw, fd]))
   clear c2
   refine aT (ι := {i : Nat // i ≤ a.apart.length ∧ a.apart.take i = b.apart.take i}) (fun i => ([(2, .ptr 0 0 0 1), (3, .ptr 1 0 0 1), (99, .int .i64 a.apart.length), (100, .int .i64 i.1)], [⟨true, false, true, false, 9, [a.cells], some 0⟩, ⟨true, false, true, false, 9, [b.cells], some 0⟩])) (fun i => a.apart.length - i.1) ⟨0, by simp⟩ ?_ ?_
   ·dsimp only [Qu.cells]
    refine aJ [0, 1] (by rfl) (by simp) (by simp [fg]) (by simp [fg])
   rintro ⟨i, hi, ht⟩ hk
   dsimp only at hk ⊢
   by_cases hlt : i < a.apart.length
   ·have c2 : ((i : Int) < (a.apart.length : Int)) = True := by simp; omega
    obtain ⟨x, hx⟩ : ∃ x, a.apart[i]? = some x := ⟨_, List.getElem?_eq_getElem hlt⟩
    obtain ⟨y, hy⟩ : ∃ y, b.apart[i]? = some y := ⟨_, List.getElem?_eq_getElem (by omega)⟩
    have rx := bO (k := .u32) (m := .u32) hx
    have ry := bO (k := .u32) (m := .u32) hy
    have q2 := b2 (x := x) (y := y)
    by_cases hxy : x = y
    ·have c3 : decide (x = y) = true := by simpa using hxy
     repeat' ((first | apply ai | apply ah | apply am | apply au | refine aq rfl ?_ | apply al | apply aj | apply ae | apply ak mixed | apply ap mixed | (with_reducible first | refine ax ?_ | refine ao ?_) | simp (disch := omega) only [bf] | ((first | refine ac ?_ ?_ | refine aa ?_ ?_) <;> intro hc <;> (try simp only [hc]) <;> try simp at hc) | (with_reducible refine ⟨?_, ?_⟩; (focus ((repeat' with_reducible refine ⟨?_, ?_⟩) <;> first | exact trivial | assumption | (simp; done) | (simp only [List.length_map] at *; omega) | omega | (simp [fs]; done)))) | (with_reducible intro x hx) | omega) <;> (try simp only [aF, c2, q2, c3, rx, ry, Qu.cells, Nat.reduceBEq, reduceIte, Nat.reduceAdd, cond_true, fw, fd]))
     refine hk ⟨i + 1, by omega, bZ ht hx hy hxy⟩ _ _ (by dsimp only; omega) ?_
     dsimp only [Qu.cells]
     refine aJ [0, 1] (by rfl) (by simp) (by simp [fg]) (by simp [fg])
    ·have c3 : decide (x = y) = false := by simpa using hxy
     have e : decide (a = b) = false := by
      have := dC hx hy hxy
      simp only [decide_eq_false_iff_not] at this ⊢
      exact fun h => this (by rw [h])
     rw [e]
     repeat' ((first | apply ai | apply ah | apply am | apply au | refine aq rfl ?_ | apply al | apply aj | apply ae | apply ak mixed | apply ap mixed | (with_reducible first | refine ax ?_ | refine ao ?_) | simp (disch := omega) only [bf, aG, aN, aO, bp, Int.tdiv_eq_ediv_of_nonneg, Int.tmod_eq_emod_of_nonneg] | ((first | refine ac ?_ ?_ | refine aa ?_ ?_) <;> intro hc <;> (try simp only [hc]) <;> try simp at hc) | (with_reducible refine ⟨?_, ?_⟩; (focus ((repeat' with_reducible refine ⟨?_, ?_⟩) <;> first | exact trivial | assumption | (simp; done) | (simp only [List.length_map] at *; omega) | omega | (simp [fs]; done)))) | (with_reducible intro x hx) | omega) <;> (try simp only [aF, c2, q2, c3, rx, ry, Qu.cells, Nat.reduceBEq, reduceIte, Nat.reduceAdd, cond_true, fw, fd]))
   ·have c2 : ((i : Int) < (a.apart.length : Int)) = False := by simp; omega
    have q_apart : a.apart = b.apart := by simpa using cM ht hlt hl2
    clear hk ht hlt hi
    have e6 : decide (a = b) = decide (a.prefer = b.prefer) := by
     rw [Bool.eq_iff_iff]; simp [Qu.eq_iff, e0, e1, e2, e3, e4, q_must, q_may, q_apart]
    rw [e6]
    have w_prefer := m0 a.prefer b.prefer (by omega) (by omega)
    repeat' ((first | apply ai | apply ah | apply am | apply au | refine aq rfl ?_ | apply al | apply aj | apply ae | apply ak mixed | apply ap mixed | (with_reducible first | refine ax ?_ | refine ao ?_) | refine av (w_prefer) ?_ ?_ | simp (disch := omega) only [bf, aG, aN, aO, bp, Int.tdiv_eq_ediv_of_nonneg, Int.tmod_eq_emod_of_nonneg] | ((first | refine ac ?_ ?_ | refine aa ?_ ?_) <;> intro hc <;> (try simp only [hc]) <;> try simp at hc) | (with_reducible refine ⟨?_, ?_⟩; (focus ((repeat' with_reducible refine ⟨?_, ?_⟩) <;> first | exact trivial | assumption | (simp; done) | (simp only [List.length_map] at *; omega) | omega | (simp [fs]; done)))) | (with_reducible intro x hx) | omega) <;> (try simp only [c2, Qu.cells, Nat.reduceBEq, reduceIte, fw, fd]))
end Go.Proofs.Ytgefljdclekadaa

namespace Go.Proofs.Ytgefljdclekadaa
open Go Go.Vi
theorem Po.eq_iff {a b : Po} : a = b ↔ (a.id = b.id ∧ a.owner = b.owner ∧ a.qu = b.qu ∧ a.slots = b.slots ∧ a.votes = b.votes ∧ a.til = b.til ∧ a.state = b.state ∧ a.winner = b.winner) := by
 cases a; cases b; simp only [Po.mk.injEq]
theorem En.eq_iff {a b : En} : a = b ↔ (a.id = b.id ∧ a.ev = b.ev) := by
 cases a; cases b; simp only [En.mk.injEq]
theorem Us.eq_iff {a b : Us} : a = b ↔ (a.id = b.id ∧ a.se = b.se ∧ a.ver = b.ver ∧ a.evs = b.evs) := by
 cases a; cases b; simp only [Us.mk.injEq]
theorem wx.eq_iff {a b : wx} : a = b ↔ (a.t = b.t ∧ a.us = b.us ∧ a.ps = b.ps ∧ a.ds = b.ds) := by
 cases a; cases b; simp only [wx.mk.injEq]
end Go.Proofs.Ytgefljdclekadaa
