import Derived.Test.YtgefljdclekadaaGreatWMA
import Derived.Test.YtgefljdclekadaaGreatVi25
set_option linter.unusedVariables false
set_option linter.unusedSimpArgs false
namespace Go.Proofs.YtgefljdclekadaaGreat
open Go Go.Vi
theorem kS {l : List Dn} {i : Nat} {d : Dn} (h : l[i]? = some d) : (eE l)[i]? = some [.int .u32 d.c, .int .u64 d.n, .int .u64 d.v] := by simp [eE, h, Dn.row]
theorem bD {x y : Dn} : ((x.c == y.c) && ((x.n == y.n) && (x.v == y.v))) = decide (x = y) := by
 cases x; cases y; rw [zN]; simp
structure dp where
 t : Int
 us : List Us
 ps : List Po
 ds : List Dn
 deriving DecidableEq
def dp.cells (s : dp) : List D := [.int .i64 s.t, L (bP s.us), L (bO s.ps), L (eE s.ds)]
def Se.fits (s : Se) : Prop := s.turns.length ≤ 140737488351232 ∧ s.shifts.length ≤ 140737488351232 ∧ s.off.length ≤ 140737488351232
def Ev.fits (s : Ev) : Prop := s.rule.fits ∧ s.ex.length ≤ 140737488351232 ∧ s.plus.length ≤ 140737488351232 ∧ s.ch.length ≤ 140737488351232
def Qu.fits (s : Qu) : Prop := s.must.length ≤ 140737488351232 ∧ s.may.length ≤ 140737488351232 ∧ s.apart.length ≤ 140737488351232 ∧ s.prefer.length ≤ 140737488351232
def Po.fits (s : Po) : Prop := s.qu.fits ∧ s.slots.length ≤ 140737488351232 ∧ s.votes.length ≤ 140737488351232
def Us.fit (s : Us) : Prop := s.se.fits ∧ s.evs.length ≤ 140737488351232 ∧ ∀ e ∈ s.evs, e.ev.fits
def dp.fits (s : dp) : Prop := s.us.length ≤ 1407374883512 ∧ s.ps.length ≤ 1407374883512 ∧ s.ds.length ≤ 5864062014677 ∧ (∀ u ∈ s.us, u.fit) ∧ ∀ p ∈ s.ps, p.fits
theorem Se.eq_iff {a b : Se} : a = b ↔ (a.base = b.base ∧ a.turns = b.turns ∧ a.shifts = b.shifts ∧ a.off = b.off ∧ a.before = b.before ∧ a.after = b.after) := by
 cases a; cases b; simp only [Se.mk.injEq]
set_option maxHeartbeats 4000000 in
theorem u9 (a b : Se) (fa : a.fits) (fb : b.fits) : aP Tryz.prog 91 [.agg a.cells, .agg b.cells] (.bool (decide (a = b))) := by
 refine bf Tryz.func91 low91 (by simp [c91]) ?_
 simp only [c91, Se.cells]
 obtain ⟨a1, a2, a3⟩ := fa
 obtain ⟨b1, b2', b3'⟩ := fb
 by_cases h : ¬ (b.base = a.base ∧ b.before = a.before ∧ b.after = a.after ∧ a.turns.length = b.turns.length)
 ·have e : decide (a = b) = false := by
   simp only [decide_eq_false_iff_not]
   rintro rfl
   exact h ⟨rfl, rfl, rfl, rfl⟩
  rw [e]
  repeat' ((first | apply ah | apply al | apply ao | apply av | refine aq rfl ?_ | apply ai | apply af | apply ab | apply ak mixed | apply ap mixed | (with_reducible first | refine ac ?_ | refine ar ?_) | simp (disch := omega) only [aW, aF, aK, aL, bg, zI, zH] | ((first | refine aj ?_ ?_ | refine aa ?_ ?_) <;> intro hc <;> (try simp only [hc]) <;> try simp at hc) | (with_reducible refine ⟨?_, ?_⟩; (focus ((repeat' with_reducible refine ⟨?_, ?_⟩) <;> first | exact trivial | assumption | (simp; done) | (simp only [zA] at *; omega) | omega | (simp [fs]; done)))) | (with_reducible intro x hx) | omega) <;> (try simp only [aD, Nat.reduceBEq, reduceIte, Nat.reduceAdd, reduceCtorEq, cond_true, cond_false, ne_eq, fw, fd]))
  all_goals (first | (exfalso; simp_all; done) | (exfalso; apply h; simp_all; done) | (exfalso; apply h; simp_all; omega))
 obtain ⟨e0, e1, e2, hl0⟩ : (b.base = a.base ∧ b.before = a.before ∧ b.after = a.after ∧ a.turns.length = b.turns.length) := by simpa using h
 have cl0 : ((a.turns.length : Int) == (b.turns.length : Int)) = true := by simp [hl0]
 repeat' ((first | apply ah | apply al | apply ao | apply av | refine aq rfl ?_ | apply ai | apply af | apply ab | apply ak mixed | apply ap mixed | (with_reducible first | refine ac ?_ | refine ar ?_) | simp (disch := omega) only [aW, aF, aK, aL, bg, zI, zH] | ((first | refine aj ?_ ?_ | refine aa ?_ ?_) <;> intro hc <;> (try simp only [hc]) <;> try simp at hc) | (with_reducible refine ⟨?_, ?_⟩; (focus ((repeat' with_reducible refine ⟨?_, ?_⟩) <;> first | exact trivial | assumption | (simp; done) | (simp only [zA] at *; omega) | omega | (simp [fs]; done)))) | (with_reducible intro x hx) | omega) <;> (try simp only [aD, e0, e1, e2, Nat.reduceBEq, reduceIte, Nat.reduceAdd, reduceCtorEq, cond_true, cond_false, ne_eq, fw, fd]))
 refine aM (ι := {i : Nat // i ≤ a.turns.length ∧ a.turns.take i = b.turns.take i}) (fun i => ([(2, .ptr 0 0 0 1), (3, .ptr 1 0 0 1), (41, .int .i64 a.turns.length), (42, .int .i64 i.1)], [⟨true, false, true, false, 6, [a.cells], some 0⟩, ⟨true, false, true, false, 6, [b.cells], some 0⟩])) (fun i => a.turns.length - i.1) ⟨0, by simp⟩ ?_ ?_
 ·simp only [Se.cells, e0, e1, e2]
  refine aC [0, 1] (by rfl) (by simp) (by simp [fg]) (by simp [fg])
 rintro ⟨i, hi, ht⟩ hk
 dsimp only at hk ⊢
 by_cases hlt : i < a.turns.length
 ·have c2 : ((i : Int) < (a.turns.length : Int)) = True := by simp; omega
  obtain ⟨x, hx⟩ : ∃ x, a.turns[i]? = some x := ⟨_, zD hlt⟩
  obtain ⟨y, hy⟩ : ∃ y, b.turns[i]? = some y := ⟨_, zD (by omega)⟩
  have rx := bu (k := .i64) (m := .i64) hx
  have ry := bu (k := .i64) (m := .i64) hy
  have q2 := b2 (x := x) (y := y)
  by_cases hxy : x = y
  ·have c3 : decide (x = y) = true := by simpa using hxy
   repeat' ((first | apply ah | apply al | apply ao | apply av | refine aq rfl ?_ | apply ai | apply af | apply ab | apply ak mixed | apply ap mixed | (with_reducible first | refine ac ?_ | refine ar ?_) | simp (disch := omega) only [aW] | ((first | refine aj ?_ ?_ | refine aa ?_ ?_) <;> intro hc <;> (try simp only [hc]) <;> try simp at hc) | (with_reducible refine ⟨?_, ?_⟩; (focus ((repeat' with_reducible refine ⟨?_, ?_⟩) <;> first | exact trivial | assumption | (simp; done) | (simp only [zA] at *; omega) | omega | (simp [fs]; done)))) | (with_reducible intro x hx) | omega) <;> (try simp only [aD, c2, q2, c3, rx, ry, Se.cells, Nat.reduceBEq, reduceIte, Nat.reduceAdd, cond_true, fw, fd]))
   refine hk ⟨i + 1, by omega, bw ht hx hy hxy⟩ _ _ (by dsimp only; omega) ?_
   dsimp only [Se.cells]
   refine aC [0, 1] (by rfl) (by simp) (by simp [fg]) (by simp [fg])
  ·have c3 : decide (x = y) = false := by simpa using hxy
   have e : decide (a = b) = false := by
    have := cF hx hy hxy
    simp only [decide_eq_false_iff_not] at this ⊢
    exact fun h => this (by rw [h])
   rw [e]
   repeat' ((first | apply ah | apply al | apply ao | apply av | refine aq rfl ?_ | apply ai | apply af | apply ab | apply ak mixed | apply ap mixed | (with_reducible first | refine ac ?_ | refine ar ?_) | simp (disch := omega) only [aW, aF, aK, aL, bg, zI, zH] | ((first | refine aj ?_ ?_ | refine aa ?_ ?_) <;> intro hc <;> (try simp only [hc]) <;> try simp at hc) | (with_reducible refine ⟨?_, ?_⟩; (focus ((repeat' with_reducible refine ⟨?_, ?_⟩) <;> first | exact trivial | assumption | (simp; done) | (simp only [zA] at *; omega) | omega | (simp [fs]; done)))) | (with_reducible intro x hx) | omega) <;> (try simp only [aD, c2, q2, c3, rx, ry, Se.cells, Nat.reduceBEq, reduceIte, Nat.reduceAdd, cond_true, fw, fd]))
 ·have c2 : ((i : Int) < (a.turns.length : Int)) = False := by simp; omega
  have q_turns : a.turns = b.turns := by simpa using bQ ht hlt hl0
  clear hk ht hlt hi
  have e6 : decide (a = b) = (decide (a.shifts = b.shifts) && decide (a.off = b.off)) := by
   rw [zN]; simp [Se.eq_iff, e0, e1, e2, q_turns]
  rw [e6]
  have w_shifts := oW a.shifts b.shifts (by omega) (by omega)
  have w_off := y0 a.off b.off (by omega) (by omega)
  repeat' ((first | apply ah | apply al | apply ao | apply av | refine aq rfl ?_ | apply ai | apply af | apply ab | apply ak mixed | apply ap mixed | (with_reducible first | refine ac ?_ | refine ar ?_) | refine ae (w_shifts) ?_ ?_ | refine ae (w_off) ?_ ?_ | simp (disch := omega) only [aW, aF, aK, aL, bg, zI, zH] | ((first | refine aj ?_ ?_ | refine aa ?_ ?_) <;> intro hc <;> (try simp only [hc]) <;> try simp at hc) | (with_reducible refine ⟨?_, ?_⟩; (focus ((repeat' with_reducible refine ⟨?_, ?_⟩) <;> first | exact trivial | assumption | (simp; done) | (simp only [zA] at *; omega) | omega | (simp [fs]; done)))) | (with_reducible intro x hx) | omega) <;> (try simp only [c2, Se.cells, Nat.reduceBEq, reduceIte, Nat.reduceAdd, cond_true, cond_false, fw, fd]))
theorem Ev.eq_iff {a b : Ev} : a = b ↔ (a.start = b.start ∧ a.long = b.long ∧ a.world = b.world ∧ a.again = b.again ∧ a.rule = b.rule ∧ a.ex = b.ex ∧ a.plus = b.plus ∧ a.ch = b.ch) := by
 cases a; cases b; simp only [Ev.mk.injEq]
set_option maxHeartbeats 4000000 in
theorem uZ (a b : Ev) (fa : a.fits) (fb : b.fits) : aP Tryz.prog 92 [.agg a.cells, .agg b.cells] (.bool (decide (a = b))) := by
 refine bf Tryz.func92 low92 (by simp [c92]) ?_
 simp only [c92, Ev.cells]
 obtain ⟨a0, a1, a2, a3⟩ := fa
 obtain ⟨b0, b1, b2', b3'⟩ := fb
 by_cases h : ¬ (b.start = a.start ∧ b.long = a.long ∧ b.again = a.again ∧ b.world = a.world ∧ a.ch.length = b.ch.length)
 ·have e : decide (a = b) = false := by
   simp only [decide_eq_false_iff_not]
   rintro rfl
   exact h ⟨rfl, rfl, rfl, rfl, rfl⟩
  rw [e]
  repeat' ((first | apply ah | apply al | apply ao | apply av | refine aq rfl ?_ | apply ai | apply af | apply ab | apply ak mixed | apply ap mixed | (with_reducible first | refine ac ?_ | refine ar ?_) | simp (disch := omega) only [aW, aF, aK, aL, bg, zI, zH] | ((first | refine aj ?_ ?_ | refine aa ?_ ?_) <;> intro hc <;> (try simp only [hc]) <;> try simp at hc) | (with_reducible refine ⟨?_, ?_⟩; (focus ((repeat' with_reducible refine ⟨?_, ?_⟩) <;> first | exact trivial | assumption | (simp; done) | (simp only [zA] at *; omega) | omega | (simp [fs]; done)))) | (with_reducible intro x hx) | omega) <;> (try simp only [aR, Nat.reduceBEq, reduceIte, Nat.reduceAdd, reduceCtorEq, cond_true, cond_false, ne_eq, fw, fd]))
  all_goals (first | (exfalso; simp_all; done) | (exfalso; apply h; simp_all; done) | (exfalso; apply h; simp_all; omega))
 obtain ⟨e0, e1, e2, e3, hl0⟩ : (b.start = a.start ∧ b.long = a.long ∧ b.again = a.again ∧ b.world = a.world ∧ a.ch.length = b.ch.length) := by simpa using h
 have cl0 : ((a.ch.length : Int) == (b.ch.length : Int)) = true := by simp [hl0]
 repeat' ((first | apply ah | apply al | apply ao | apply av | refine aq rfl ?_ | apply ai | apply af | apply ab | apply ak mixed | apply ap mixed | (with_reducible first | refine ac ?_ | refine ar ?_) | simp (disch := omega) only [aW, aF, aK, aL, bg, zI, zH] | ((first | refine aj ?_ ?_ | refine aa ?_ ?_) <;> intro hc <;> (try simp only [hc]) <;> try simp at hc) | (with_reducible refine ⟨?_, ?_⟩; (focus ((repeat' with_reducible refine ⟨?_, ?_⟩) <;> first | exact trivial | assumption | (simp; done) | (simp only [zA] at *; omega) | omega | (simp [fs]; done)))) | (with_reducible intro x hx) | omega) <;> (try simp only [aR, e0, e1, e2, e3, beq_self_eq_true, Nat.reduceBEq, reduceIte, Nat.reduceAdd, reduceCtorEq, cond_true, cond_false, ne_eq, beq_self_eq_true, fw, fd]))
 refine aM (ι := {i : Nat // i ≤ a.ch.length ∧ a.ch.take i = b.ch.take i}) (fun i => ([(2, .ptr 0 0 0 1), (3, .ptr 1 0 0 1), (43, .int .i64 a.ch.length), (44, .int .i64 i.1)], [⟨true, false, true, false, 16, [a.cells], some 0⟩, ⟨true, false, true, false, 16, [b.cells], some 0⟩])) (fun i => a.ch.length - i.1) ⟨0, by simp⟩ ?_ ?_
 ·simp only [Ev.cells, e0, e1, e2, e3]
  refine aC [0, 1] (by rfl) (by simp) (by simp [fg]) (by simp [fg])
 rintro ⟨i, hi, ht⟩ hk
 dsimp only at hk ⊢
 by_cases hlt : i < a.ch.length
 ·have c2 : ((i : Int) < (a.ch.length : Int)) = True := by simp; omega
  obtain ⟨x, hx⟩ : ∃ x, a.ch[i]? = some x := ⟨_, zD hlt⟩
  obtain ⟨y, hy⟩ : ∃ y, b.ch[i]? = some y := ⟨_, zD (by omega)⟩
  have rx := dj hx
  have ry := dj hy
  have q2 := b3 (x := x) (y := y)
  by_cases hxy : x = y
  ·have c3 : decide (x = y) = true := by simpa using hxy
   repeat' ((first | apply ah | apply al | apply ao | apply av | refine aq rfl ?_ | apply ai | apply af | apply ab | apply ak mixed | apply ap mixed | (with_reducible first | refine ac ?_ | refine ar ?_) | simp (disch := omega) only [aW] | ((first | refine aj ?_ ?_ | refine aa ?_ ?_) <;> intro hc <;> (try simp only [hc]) <;> try simp at hc) | (with_reducible refine ⟨?_, ?_⟩; (focus ((repeat' with_reducible refine ⟨?_, ?_⟩) <;> first | exact trivial | assumption | (simp; done) | (simp only [zA] at *; omega) | omega | (simp [fs]; done)))) | (with_reducible intro x hx) | omega) <;> (try simp only [aR, c2, q2, c3, rx, ry, Ev.cells, Nat.reduceBEq, reduceIte, Nat.reduceAdd, cond_true, fw, fd]))
   refine hk ⟨i + 1, by omega, bw ht hx hy hxy⟩ _ _ (by dsimp only; omega) ?_
   dsimp only [Ev.cells]
   refine aC [0, 1] (by rfl) (by simp) (by simp [fg]) (by simp [fg])
  ·have c3 : decide (x = y) = false := by simpa using hxy
   have e : decide (a = b) = false := by
    have := cF hx hy hxy
    simp only [decide_eq_false_iff_not] at this ⊢
    exact fun h => this (by rw [h])
   rw [e]
   repeat' ((first | apply ah | apply al | apply ao | apply av | refine aq rfl ?_ | apply ai | apply af | apply ab | apply ak mixed | apply ap mixed | (with_reducible first | refine ac ?_ | refine ar ?_) | simp (disch := omega) only [aW, aF, aK, aL, bg, zI, zH] | ((first | refine aj ?_ ?_ | refine aa ?_ ?_) <;> intro hc <;> (try simp only [hc]) <;> try simp at hc) | (with_reducible refine ⟨?_, ?_⟩; (focus ((repeat' with_reducible refine ⟨?_, ?_⟩) <;> first | exact trivial | assumption | (simp; done) | (simp only [zA] at *; omega) | omega | (simp [fs]; done)))) | (with_reducible intro x hx) | omega) <;> (try simp only [aR, c2, q2, c3, rx, ry, Ev.cells, Nat.reduceBEq, reduceIte, Nat.reduceAdd, cond_true, fw, fd]))
 ·have c2 : ((i : Int) < (a.ch.length : Int)) = False := by simp; omega
  have q_ch : a.ch = b.ch := by simpa using bQ ht hlt hl0
  clear hk ht hlt hi
  have e6 : decide (a = b) = (decide (a.rule = b.rule) && (decide (a.ex = b.ex) && decide (a.plus = b.plus))) := by
   rw [zN]; simp [Ev.eq_iff, e0, e1, e2, e3, q_ch]
  rw [e6]
  have w_rule := oU a.rule b.rule a0 b0
  simp only [Ru.cells] at w_rule
  have w_ex := m2 a.ex b.ex (by omega) (by omega)
  have w_plus := m2 a.plus b.plus (by omega) (by omega)
  repeat' ((first | apply ah | apply al | apply ao | apply av | refine aq rfl ?_ | apply ai | apply af | apply ab | apply ak mixed | apply ap mixed | (with_reducible first | refine ac ?_ | refine ar ?_) | refine ae (w_rule) ?_ ?_ | refine ae (w_ex) ?_ ?_ | refine ae (w_plus) ?_ ?_ | simp (disch := omega) only [aW, aF, aK, aL, bg, zI, zH] | ((first | refine aj ?_ ?_ | refine aa ?_ ?_) <;> intro hc <;> (try simp only [hc]) <;> try simp at hc) | (with_reducible refine ⟨?_, ?_⟩; (focus ((repeat' with_reducible refine ⟨?_, ?_⟩) <;> first | exact trivial | assumption | (simp; done) | (simp only [zA] at *; omega) | omega | (simp [fs]; done)))) | (with_reducible intro x hx) | omega) <;> (try simp only [c2, Ev.cells, Nat.reduceBEq, reduceIte, Nat.reduceAdd, Nat.reduceLeDiff, cond_true, cond_false, fw, fd]))
theorem Qu.eq_iff {a b : Qu} : a = b ↔ (a.a = b.a ∧ a.b = b.b ∧ a.long = b.long ∧ a.grid = b.grid ∧ a.must = b.must ∧ a.may = b.may ∧ a.seats = b.seats ∧ a.apart = b.apart ∧ a.prefer = b.prefer) := by
 cases a; cases b; simp only [Qu.mk.injEq]
set_option maxHeartbeats 4000000 in
theorem u7 (a b : Qu) (fa : a.fits) (fb : b.fits) : aP Tryz.prog 69 [.agg a.cells, .agg b.cells] (.bool (decide (a = b))) := by
 refine bf Tryz.func69 low69 (by simp [c69]) ?_
 simp only [c69, Qu.cells]
 obtain ⟨a1, a2, a3, a4⟩ := fa
 obtain ⟨b1, b2', b3', b4⟩ := fb
 by_cases h : ¬ (b.a = a.a ∧ b.b = a.b ∧ b.long = a.long ∧ b.grid = a.grid ∧ b.seats = a.seats ∧ a.must.length = b.must.length ∧ a.may.length = b.may.length ∧ a.apart.length = b.apart.length)
 ·have e : decide (a = b) = false := by
   simp only [decide_eq_false_iff_not]
   rintro rfl
   exact h ⟨rfl, rfl, rfl, rfl, rfl, rfl, rfl, rfl⟩
  rw [e]
  repeat' ((first | apply ah | apply al | apply ao | apply av | refine aq rfl ?_ | apply ai | apply af | apply ab | apply ak mixed | apply ap mixed | (with_reducible first | refine ac ?_ | refine ar ?_) | simp (disch := omega) only [aW, aF, aK, aL, bg, zI, zH] | ((first | refine aj ?_ ?_ | refine aa ?_ ?_) <;> intro hc <;> (try simp only [hc]) <;> try simp at hc) | (with_reducible refine ⟨?_, ?_⟩; (focus ((repeat' with_reducible refine ⟨?_, ?_⟩) <;> first | exact trivial | assumption | (simp; done) | (simp only [zA] at *; omega) | omega | (simp [fs]; done)))) | (with_reducible intro x hx) | omega) <;> (try simp only [aI, aD, Nat.reduceBEq, reduceIte, Nat.reduceAdd, Nat.reduceLeDiff, reduceCtorEq, cond_true, cond_false, ne_eq, fw, fd]))
  all_goals (first | (exfalso; simp_all; done) | (exfalso; apply h; simp_all; done) | (exfalso; apply h; simp_all; omega))
 obtain ⟨e0, e1, e2, e3, e4, hl0, hl1, hl2⟩ : (b.a = a.a ∧ b.b = a.b ∧ b.long = a.long ∧ b.grid = a.grid ∧ b.seats = a.seats ∧ a.must.length = b.must.length ∧ a.may.length = b.may.length ∧ a.apart.length = b.apart.length) := by simpa using h
 have cl0 : ((a.must.length : Int) == (b.must.length : Int)) = true := by simp [hl0]
 have cl1 : ((a.may.length : Int) == (b.may.length : Int)) = true := by simp [hl1]
 have cl2 : ((a.apart.length : Int) == (b.apart.length : Int)) = true := by simp [hl2]
 repeat' ((first | apply ah | apply al | apply ao | apply av | refine aq rfl ?_ | apply ai | apply af | apply ab | apply ak mixed | apply ap mixed | (with_reducible first | refine ac ?_ | refine ar ?_) | simp (disch := omega) only [aW, aF, aK, aL, bg, zI, zH] | ((first | refine aj ?_ ?_ | refine aa ?_ ?_) <;> intro hc <;> (try simp only [hc]) <;> try simp at hc) | (with_reducible refine ⟨?_, ?_⟩; (focus ((repeat' with_reducible refine ⟨?_, ?_⟩) <;> first | exact trivial | assumption | (simp; done) | (simp only [zA] at *; omega) | omega | (simp [fs]; done)))) | (with_reducible intro x hx) | omega) <;> (try simp only [aI, aD, e0, e1, e2, e3, e4, beq_self_eq_true, Nat.reduceBEq, reduceIte, Nat.reduceAdd, Nat.reduceLeDiff, reduceCtorEq, cond_true, cond_false, ne_eq, beq_self_eq_true, fw, fd]))
 refine aM (ι := {i : Nat // i ≤ a.must.length ∧ a.must.take i = b.must.take i}) (fun i => ([(2, .ptr 0 0 0 1), (3, .ptr 1 0 0 1), (63, .int .i64 a.must.length), (64, .int .i64 i.1)], [⟨true, false, true, false, 9, [a.cells], some 0⟩, ⟨true, false, true, false, 9, [b.cells], some 0⟩])) (fun i => a.must.length - i.1) ⟨0, by simp⟩ ?_ ?_
 ·simp only [Qu.cells, e0, e1, e2, e3, e4]
  refine aC [0, 1] (by rfl) (by simp) (by simp [fg]) (by simp [fg])
 rintro ⟨i, hi, ht⟩ hk
 dsimp only at hk ⊢
 by_cases hlt : i < a.must.length
 ·have c2 : ((i : Int) < (a.must.length : Int)) = True := by simp; omega
  obtain ⟨x, hx⟩ : ∃ x, a.must[i]? = some x := ⟨_, zD hlt⟩
  obtain ⟨y, hy⟩ : ∃ y, b.must[i]? = some y := ⟨_, zD (by omega)⟩
  have rx := bS (k := .u32) hx
  have ry := bS (k := .u32) hy
  by_cases hxy : x = y
  ·have c3 : (x == y) = true := by simpa using hxy
   repeat' ((first | apply ah | apply al | apply ao | apply av | refine aq rfl ?_ | apply ai | apply af | apply ab | apply ak mixed | apply ap mixed | (with_reducible first | refine ac ?_ | refine ar ?_) | simp (disch := omega) only [aW] | ((first | refine aj ?_ ?_ | refine aa ?_ ?_) <;> intro hc <;> (try simp only [hc]) <;> try simp at hc) | (with_reducible refine ⟨?_, ?_⟩; (focus ((repeat' with_reducible refine ⟨?_, ?_⟩) <;> first | exact trivial | assumption | (simp; done) | (simp only [zA] at *; omega) | omega | (simp [fs]; done)))) | (with_reducible intro x hx) | omega) <;> (try simp only [aI, c2, rx, ry, Qu.cells, Nat.reduceBEq, reduceIte, fw, fd]))
   refine hk ⟨i + 1, by omega, bw ht hx hy hxy⟩ _ _ (by dsimp only; omega) ?_
   dsimp only [Qu.cells]
   refine aC [0, 1] (by rfl) (by simp) (by simp [fg]) (by simp [fg])
  ·have c3 : (x == y) = false := by simpa using hxy
   have e : decide (a = b) = false := by
    have := cF hx hy hxy
    simp only [decide_eq_false_iff_not] at this ⊢
    exact fun h => this (by rw [h])
   rw [e]
   repeat' ((first | apply ah | apply al | apply ao | apply av | refine aq rfl ?_ | apply ai | apply af | apply ab | apply ak mixed | apply ap mixed | (with_reducible first | refine ac ?_ | refine ar ?_) | simp (disch := omega) only [aW] | ((first | refine aj ?_ ?_ | refine aa ?_ ?_) <;> intro hc <;> (try simp only [hc]) <;> try simp at hc) | (with_reducible refine ⟨?_, ?_⟩; (focus ((repeat' with_reducible refine ⟨?_, ?_⟩) <;> first | exact trivial | assumption | (simp; done) | (simp only [zA] at *; omega) | omega | (simp [fs]; done)))) | (with_reducible intro x hx) | omega) <;> (try simp only [aI, c2, rx, ry, Qu.cells, Nat.reduceBEq, reduceIte, fw, fd]))
 ·have c2 : ((i : Int) < (a.must.length : Int)) = False := by simp; omega
  have q_must : a.must = b.must := by simpa using bQ ht hlt hl0
  clear hk ht hlt hi
  repeat' ((first | apply ah | apply al | apply ao | apply av | refine aq rfl ?_ | apply ai | apply af | apply ab | apply ak mixed | apply ap mixed | (with_reducible first | refine ac ?_ | refine ar ?_) | simp (disch := omega) only [aW, aF, aK, aL, bg, zI, zH] | ((first | refine aj ?_ ?_ | refine aa ?_ ?_) <;> intro hc <;> (try simp only [hc]) <;> try simp at hc) | (with_reducible refine ⟨?_, ?_⟩; (focus ((repeat' with_reducible refine ⟨?_, ?_⟩) <;> first | exact trivial | assumption | (simp; done) | (simp only [zA] at *; omega) | omega | (simp [fs]; done)))) | (with_reducible intro x hx) | omega) <;> (try simp only [aD, c2, Qu.cells, Nat.reduceBEq, reduceIte, fw, fd]))
  clear c2
  refine aM (ι := {i : Nat // i ≤ a.may.length ∧ a.may.take i = b.may.take i}) (fun i => ([(2, .ptr 0 0 0 1), (3, .ptr 1 0 0 1), (81, .int .i64 a.may.length), (82, .int .i64 i.1)], [⟨true, false, true, false, 9, [a.cells], some 0⟩, ⟨true, false, true, false, 9, [b.cells], some 0⟩])) (fun i => a.may.length - i.1) ⟨0, by simp⟩ ?_ ?_
  ·dsimp only [Qu.cells]
   refine aC [0, 1] (by rfl) (by simp) (by simp [fg]) (by simp [fg])
  rintro ⟨i, hi, ht⟩ hk
  dsimp only at hk ⊢
  by_cases hlt : i < a.may.length
  ·have c2 : ((i : Int) < (a.may.length : Int)) = True := by simp; omega
   obtain ⟨x, hx⟩ : ∃ x, a.may[i]? = some x := ⟨_, zD hlt⟩
   obtain ⟨y, hy⟩ : ∃ y, b.may[i]? = some y := ⟨_, zD (by omega)⟩
   have rx := bu (k := .u32) (m := .i64) hx
   have ry := bu (k := .u32) (m := .i64) hy
   have q2 := b2 (x := x) (y := y)
   by_cases hxy : x = y
   ·have c3 : decide (x = y) = true := by simpa using hxy
    repeat' ((first | apply ah | apply al | apply ao | apply av | refine aq rfl ?_ | apply ai | apply af | apply ab | apply ak mixed | apply ap mixed | (with_reducible first | refine ac ?_ | refine ar ?_) | simp (disch := omega) only [aW] | ((first | refine aj ?_ ?_ | refine aa ?_ ?_) <;> intro hc <;> (try simp only [hc]) <;> try simp at hc) | (with_reducible refine ⟨?_, ?_⟩; (focus ((repeat' with_reducible refine ⟨?_, ?_⟩) <;> first | exact trivial | assumption | (simp; done) | (simp only [zA] at *; omega) | omega | (simp [fs]; done)))) | (with_reducible intro x hx) | omega) <;> (try simp only [aD, c2, q2, c3, rx, ry, Qu.cells, Nat.reduceBEq, reduceIte, Nat.reduceAdd, cond_true, fw, fd]))
    refine hk ⟨i + 1, by omega, bw ht hx hy hxy⟩ _ _ (by dsimp only; omega) ?_
    dsimp only [Qu.cells]
    refine aC [0, 1] (by rfl) (by simp) (by simp [fg]) (by simp [fg])
   ·have c3 : decide (x = y) = false := by simpa using hxy
    have e : decide (a = b) = false := by
     have := cF hx hy hxy
     simp only [decide_eq_false_iff_not] at this ⊢
     exact fun h => this (by rw [h])
    rw [e]
    repeat' ((first | apply ah | apply al | apply ao | apply av | refine aq rfl ?_ | apply ai | apply af | apply ab | apply ak mixed | apply ap mixed | (with_reducible first | refine ac ?_ | refine ar ?_) | simp (disch := omega) only [aW, aF, aK, aL, bg, zI, zH] | ((first | refine aj ?_ ?_ | refine aa ?_ ?_) <;> intro hc <;> (try simp only [hc]) <;> try simp at hc) | (with_reducible refine ⟨?_, ?_⟩; (focus ((repeat' with_reducible refine ⟨?_, ?_⟩) <;> first | exact trivial | assumption | (simp; done) | (simp only [zA] at *; omega) | omega | (simp [fs]; done)))) | (with_reducible intro x hx) | omega) <;> (try simp only [aD, c2, q2, c3, rx, ry, Qu.cells, Nat.reduceBEq, reduceIte, Nat.reduceAdd, cond_true, fw, fd]))
  ·have c2 : ((i : Int) < (a.may.length : Int)) = False := by simp; omega
   have q_may : a.may = b.may := by simpa using bQ ht hlt hl1
   clear hk ht hlt hi
   repeat' ((first | apply ah | apply al | apply ao | apply av | refine aq rfl ?_ | apply ai | apply af | apply ab | apply ak mixed | apply ap mixed | (with_reducible first | refine ac ?_ | refine ar ?_) | simp (disch := omega) only [aW, aF, aK, aL, bg, zI, zH] | ((first | refine aj ?_ ?_ | refine aa ?_ ?_) <;> intro hc <;> (try simp only [hc]) <;> try simp at hc) | (with_reducible refine ⟨?_, ?_⟩; (focus ((repeat' with_reducible refine ⟨?_, ?_⟩) <;> first | exact trivial | assumption | (simp; done) | (simp only [zA] at *; omega) | omega | (simp [fs]; done)))) | (with_reducible intro x hx) | omega) <;> (try simp only [aD, c2, Qu.cells, Nat.reduceBEq, reduceIte, fw, fd]))
   clear c2
   refine aM (ι := {i : Nat // i ≤ a.apart.length ∧ a.apart.take i = b.apart.take i}) (fun i => ([(2, .ptr 0 0 0 1), (3, .ptr 1 0 0 1), (99, .int .i64 a.apart.length), (100, .int .i64 i.1)], [⟨true, false, true, false, 9, [a.cells], some 0⟩, ⟨true, false, true, false, 9, [b.cells], some 0⟩])) (fun i => a.apart.length - i.1) ⟨0, by simp⟩ ?_ ?_
   ·dsimp only [Qu.cells]
    refine aC [0, 1] (by rfl) (by simp) (by simp [fg]) (by simp [fg])
   rintro ⟨i, hi, ht⟩ hk
   dsimp only at hk ⊢
   by_cases hlt : i < a.apart.length
   ·have c2 : ((i : Int) < (a.apart.length : Int)) = True := by simp; omega
    obtain ⟨x, hx⟩ : ∃ x, a.apart[i]? = some x := ⟨_, zD hlt⟩
    obtain ⟨y, hy⟩ : ∃ y, b.apart[i]? = some y := ⟨_, zD (by omega)⟩
    have rx := bu (k := .u32) (m := .u32) hx
    have ry := bu (k := .u32) (m := .u32) hy
    have q2 := b2 (x := x) (y := y)
    by_cases hxy : x = y
    ·have c3 : decide (x = y) = true := by simpa using hxy
     repeat' ((first | apply ah | apply al | apply ao | apply av | refine aq rfl ?_ | apply ai | apply af | apply ab | apply ak mixed | apply ap mixed | (with_reducible first | refine ac ?_ | refine ar ?_) | simp (disch := omega) only [aW] | ((first | refine aj ?_ ?_ | refine aa ?_ ?_) <;> intro hc <;> (try simp only [hc]) <;> try simp at hc) | (with_reducible refine ⟨?_, ?_⟩; (focus ((repeat' with_reducible refine ⟨?_, ?_⟩) <;> first | exact trivial | assumption | (simp; done) | (simp only [zA] at *; omega) | omega | (simp [fs]; done)))) | (with_reducible intro x hx) | omega) <;> (try simp only [aD, c2, q2, c3, rx, ry, Qu.cells, Nat.reduceBEq, reduceIte, Nat.reduceAdd, cond_true, fw, fd]))
     refine hk ⟨i + 1, by omega, bw ht hx hy hxy⟩ _ _ (by dsimp only; omega) ?_
     dsimp only [Qu.cells]
     refine aC [0, 1] (by rfl) (by simp) (by simp [fg]) (by simp [fg])
    ·have c3 : decide (x = y) = false := by simpa using hxy
     have e : decide (a = b) = false := by
      have := cF hx hy hxy
      simp only [decide_eq_false_iff_not] at this ⊢
      exact fun h => this (by rw [h])
     rw [e]
     repeat' ((first | apply ah | apply al | apply ao | apply av | refine aq rfl ?_ | apply ai | apply af | apply ab | apply ak mixed | apply ap mixed | (with_reducible first | refine ac ?_ | refine ar ?_) | simp (disch := omega) only [aW, aF, aK, aL, bg, zI, zH] | ((first | refine aj ?_ ?_ | refine aa ?_ ?_) <;> intro hc <;> (try simp only [hc]) <;> try simp at hc) | (with_reducible refine ⟨?_, ?_⟩; (focus ((repeat' with_reducible refine ⟨?_, ?_⟩) <;> first | exact trivial | assumption | (simp; done) | (simp only [zA] at *; omega) | omega | (simp [fs]; done)))) | (with_reducible intro x hx) | omega) <;> (try simp only [aD, c2, q2, c3, rx, ry, Qu.cells, Nat.reduceBEq, reduceIte, Nat.reduceAdd, cond_true, fw, fd]))
   ·have c2 : ((i : Int) < (a.apart.length : Int)) = False := by simp; omega
    have q_apart : a.apart = b.apart := by simpa using bQ ht hlt hl2
    clear hk ht hlt hi
    have e6 : decide (a = b) = decide (a.prefer = b.prefer) := by
     rw [zN]; simp [Qu.eq_iff, e0, e1, e2, e3, e4, q_must, q_may, q_apart]
    rw [e6]
    have w_prefer := oW a.prefer b.prefer (by omega) (by omega)
    repeat' ((first | apply ah | apply al | apply ao | apply av | refine aq rfl ?_ | apply ai | apply af | apply ab | apply ak mixed | apply ap mixed | (with_reducible first | refine ac ?_ | refine ar ?_) | refine ae (w_prefer) ?_ ?_ | simp (disch := omega) only [aW, aF, aK, aL, bg, zI, zH] | ((first | refine aj ?_ ?_ | refine aa ?_ ?_) <;> intro hc <;> (try simp only [hc]) <;> try simp at hc) | (with_reducible refine ⟨?_, ?_⟩; (focus ((repeat' with_reducible refine ⟨?_, ?_⟩) <;> first | exact trivial | assumption | (simp; done) | (simp only [zA] at *; omega) | omega | (simp [fs]; done)))) | (with_reducible intro x hx) | omega) <;> (try simp only [c2, Qu.cells, Nat.reduceBEq, reduceIte, fw, fd]))
end Go.Proofs.YtgefljdclekadaaGreat

namespace Go.Proofs.YtgefljdclekadaaGreat
open Go Go.Vi
theorem Po.eq_iff {a b : Po} : a = b ↔ (a.id = b.id ∧ a.owner = b.owner ∧ a.qu = b.qu ∧ a.slots = b.slots ∧ a.votes = b.votes ∧ a.til = b.til ∧ a.state = b.state ∧ a.winner = b.winner) := by
 cases a; cases b; simp only [Po.mk.injEq]
set_option maxHeartbeats 4000000 in
theorem u0 (a b : Po) (fa : a.fits) (fb : b.fits) : aP Tryz.prog 29 [.agg a.row, .agg b.row] (.bool (decide (a = b))) := by
 refine bf Tryz.func29 low29 (by simp [c29]) ?_
 simp only [c29, Po.row]
 obtain ⟨a1, a2, a3⟩ := fa
 obtain ⟨b1, b2', b3'⟩ := fb
 have g_qu := u7 a.qu b.qu a1 b1
 simp only [Qu.cells] at g_qu
 have g_slots := m2 a.slots b.slots (by omega) (by omega)
 by_cases h : ¬ (b.id = a.id ∧ b.owner = a.owner ∧ b.til = a.til ∧ b.state = a.state ∧ b.winner = a.winner ∧ a.qu = b.qu ∧ a.slots = b.slots ∧ a.votes.length = b.votes.length)
 ·have e : decide (a = b) = false := by
   simp only [decide_eq_false_iff_not]
   rintro rfl
   exact h ⟨rfl, rfl, rfl, rfl, rfl, rfl, rfl, rfl⟩
  rw [e]
  repeat' ((first | apply ah | apply al | apply ao | apply av | refine aq rfl ?_ | apply ai | apply af | apply ab | apply ak mixed | apply ap mixed | (with_reducible first | refine ac ?_ | refine ar ?_) | refine ae (g_qu) ?_ ?_ | refine ae (g_slots) ?_ ?_ | simp (disch := omega) only [aW, aF, aK, aL, bg, zI, zH] | ((first | refine aj ?_ ?_ | refine aa ?_ ?_) <;> intro hc <;> (try simp only [hc]) <;> try simp at hc) | (with_reducible refine ⟨?_, ?_⟩; (focus ((repeat' with_reducible refine ⟨?_, ?_⟩) <;> first | exact trivial | assumption | (simp; done) | (simp only [zA] at *; omega) | omega | (simp [fs]; done)))) | (with_reducible intro x hx) | omega) <;> (try simp only [aD, Nat.reduceBEq, reduceIte, Nat.reduceAdd, Nat.reduceLeDiff, reduceCtorEq, cond_true, cond_false, ne_eq, fw, fd]))
  all_goals (first | (exfalso; simp_all; done) | (exfalso; apply h; simp_all; done) | (exfalso; apply h; simp_all; omega))
 obtain ⟨e0, e1, e2, e3, e4, d0, d1, hl0⟩ : (b.id = a.id ∧ b.owner = a.owner ∧ b.til = a.til ∧ b.state = a.state ∧ b.winner = a.winner ∧ a.qu = b.qu ∧ a.slots = b.slots ∧ a.votes.length = b.votes.length) := by simpa using h
 have k0 : decide (a.qu = b.qu) = true := by simpa using d0
 have k1 : decide (a.slots = b.slots) = true := by simpa using d1
 have cl0 : ((a.votes.length : Int) == (b.votes.length : Int)) = true := by simp [hl0]
 repeat' ((first | apply ah | apply al | apply ao | apply av | refine aq rfl ?_ | apply ai | apply af | apply ab | apply ak mixed | apply ap mixed | (with_reducible first | refine ac ?_ | refine ar ?_) | refine ae (g_qu) ?_ ?_ | refine ae (g_slots) ?_ ?_ | simp (disch := omega) only [aW, aF, aK, aL, bg, zI, zH] | ((first | refine aj ?_ ?_ | refine aa ?_ ?_) <;> intro hc <;> (try simp only [hc]) <;> try simp at hc) | (with_reducible refine ⟨?_, ?_⟩; (focus ((repeat' with_reducible refine ⟨?_, ?_⟩) <;> first | exact trivial | assumption | (simp; done) | (simp only [zA] at *; omega) | omega | (simp [fs]; done)))) | (with_reducible intro x hx) | omega) <;> (try simp only [aD, e0, e1, e2, e3, e4, k0, k1, Nat.reduceBEq, reduceIte, Nat.reduceAdd, Nat.reduceLeDiff, reduceCtorEq, cond_true, cond_false, ne_eq, fw, fd]))
 refine aM (ι := {i : Nat // i ≤ a.votes.length ∧ a.votes.take i = b.votes.take i}) (fun i => ([(2, .ptr 0 0 0 1), (3, .ptr 1 0 0 1), (66, .int .i64 a.votes.length), (67, .int .i64 i.1)], [⟨true, false, true, false, 16, [a.row], some 0⟩, ⟨true, false, true, false, 16, [b.row], some 0⟩])) (fun i => a.votes.length - i.1) ⟨0, by simp⟩ ?_ ?_
 ·simp only [Po.row, e0, e1, e2, e3, e4]
  refine aC [0, 1] (by rfl) (by simp) (by simp [fg]) (by simp [fg])
 rintro ⟨i, hi, ht⟩ hk
 dsimp only at hk ⊢
 by_cases hlt : i < a.votes.length
 ·have c2 : ((i : Int) < (a.votes.length : Int)) = True := by simp; omega
  obtain ⟨x, hx⟩ : ∃ x, a.votes[i]? = some x := ⟨_, zD hlt⟩
  obtain ⟨y, hy⟩ : ∃ y, b.votes[i]? = some y := ⟨_, zD (by omega)⟩
  have rx := bu (k := .u32) (m := .i64) hx
  have ry := bu (k := .u32) (m := .i64) hy
  have q2 := b2 (x := x) (y := y)
  by_cases hxy : x = y
  ·have c3 : decide (x = y) = true := by simpa using hxy
   repeat' ((first | apply ah | apply al | apply ao | apply av | refine aq rfl ?_ | apply ai | apply af | apply ab | apply ak mixed | apply ap mixed | (with_reducible first | refine ac ?_ | refine ar ?_) | simp (disch := omega) only [aW] | ((first | refine aj ?_ ?_ | refine aa ?_ ?_) <;> intro hc <;> (try simp only [hc]) <;> try simp at hc) | (with_reducible refine ⟨?_, ?_⟩; (focus ((repeat' with_reducible refine ⟨?_, ?_⟩) <;> first | exact trivial | assumption | (simp; done) | (simp only [zA] at *; omega) | omega | (simp [fs]; done)))) | (with_reducible intro x hx) | omega) <;> (try simp only [aD, c2, q2, c3, rx, ry, Po.row, Nat.reduceBEq, reduceIte, Nat.reduceAdd, cond_true, fw, fd]))
   refine hk ⟨i + 1, by omega, bw ht hx hy hxy⟩ _ _ (by dsimp only; omega) ?_
   dsimp only [Po.row]
   refine aC [0, 1] (by rfl) (by simp) (by simp [fg]) (by simp [fg])
  ·have c3 : decide (x = y) = false := by simpa using hxy
   have e : decide (a = b) = false := by
    have := cF hx hy hxy
    simp only [decide_eq_false_iff_not] at this ⊢
    exact fun h => this (by rw [h])
   rw [e]
   repeat' ((first | apply ah | apply al | apply ao | apply av | refine aq rfl ?_ | apply ai | apply af | apply ab | apply ak mixed | apply ap mixed | (with_reducible first | refine ac ?_ | refine ar ?_) | simp (disch := omega) only [aW, aF, aK, aL, bg, zI, zH] | ((first | refine aj ?_ ?_ | refine aa ?_ ?_) <;> intro hc <;> (try simp only [hc]) <;> try simp at hc) | (with_reducible refine ⟨?_, ?_⟩; (focus ((repeat' with_reducible refine ⟨?_, ?_⟩) <;> first | exact trivial | assumption | (simp; done) | (simp only [zA] at *; omega) | omega | (simp [fs]; done)))) | (with_reducible intro x hx) | omega) <;> (try simp only [aD, c2, q2, c3, rx, ry, Po.row, Nat.reduceBEq, reduceIte, Nat.reduceAdd, cond_true, fw, fd]))
 ·have c2 : ((i : Int) < (a.votes.length : Int)) = False := by simp; omega
  have q_votes : a.votes = b.votes := by simpa using bQ ht hlt hl0
  clear hk ht hlt hi
  have e6 : decide (a = b) = true := by
   rw [zN]; simp [Po.eq_iff, e0, e1, e2, e3, e4, d0, d1, q_votes]
  rw [e6]
  repeat' ((first | apply ah | apply al | apply ao | apply av | refine aq rfl ?_ | apply ai | apply af | apply ab | apply ak mixed | apply ap mixed | (with_reducible first | refine ac ?_ | refine ar ?_) | simp (disch := omega) only [aW, aF, aK, aL, bg, zI, zH] | ((first | refine aj ?_ ?_ | refine aa ?_ ?_) <;> intro hc <;> (try simp only [hc]) <;> try simp at hc) | (with_reducible refine ⟨?_, ?_⟩; (focus ((repeat' with_reducible refine ⟨?_, ?_⟩) <;> first | exact trivial | assumption | (simp; done) | (simp only [zA] at *; omega) | omega | (simp [fs]; done)))) | (with_reducible intro x hx) | omega) <;> (try simp only [c2, Po.row, Nat.reduceBEq, reduceIte, fw, fd]))
theorem En.eq_iff {a b : En} : a = b ↔ (a.id = b.id ∧ a.ev = b.ev) := by
 cases a; cases b; simp only [En.mk.injEq]
theorem Us.eq_iff {a b : Us} : a = b ↔ (a.id = b.id ∧ a.se = b.se ∧ a.ver = b.ver ∧ a.evs = b.evs) := by
 cases a; cases b; simp only [Us.mk.injEq]
set_option maxHeartbeats 4000000 in
theorem va (a b : Us) (fa : a.fit) (fb : b.fit) : aP Tryz.prog 47 [.agg a.row, .agg b.row] (.bool (decide (a = b))) := by
 refine bf Tryz.func47 low47 (by simp [c47]) ?_
 simp only [c47, Us.row]
 obtain ⟨a1, a2, a3⟩ := fa
 obtain ⟨b1, b2', b3'⟩ := fb
 have g_se := u9 a.se b.se a1 b1
 simp only [Se.cells] at g_se
 by_cases h : ¬ (b.id = a.id ∧ b.ver = a.ver ∧ a.se = b.se ∧ a.evs.length = b.evs.length)
 ·have e : decide (a = b) = false := by
   simp only [decide_eq_false_iff_not]
   rintro rfl
   exact h ⟨rfl, rfl, rfl, rfl⟩
  rw [e]
  repeat' ((first | apply ah | apply al | apply ao | apply av | refine aq rfl ?_ | apply ai | apply af | apply ab | apply ak mixed | apply ap mixed | (with_reducible first | refine ac ?_ | refine ar ?_ | refine aw ?_) | refine ae (g_se) ?_ ?_ | simp (disch := omega) only [aW, aF, aK, aL, bg, zI, zH] | ((first | refine aj ?_ ?_ | refine aa ?_ ?_) <;> intro hc <;> (try simp only [hc]) <;> try simp at hc) | (with_reducible refine ⟨?_, ?_⟩; (focus ((repeat' with_reducible refine ⟨?_, ?_⟩) <;> first | exact trivial | assumption | (simp; done) | (simp only [zA] at *; omega) | omega | (simp [fs]; done)))) | (with_reducible intro x hx) | omega) <;> (try simp only [dP, Nat.reduceBEq, reduceIte, Nat.reduceAdd, Nat.reduceLeDiff, reduceCtorEq, cond_true, cond_false, ne_eq, fw, fd]))
  all_goals (first | (exfalso; simp_all; done) | (exfalso; apply h; simp_all; done) | (exfalso; apply h; simp_all; omega))
 obtain ⟨e0, e1, d0, hl0⟩ : (b.id = a.id ∧ b.ver = a.ver ∧ a.se = b.se ∧ a.evs.length = b.evs.length) := by simpa using h
 have k0 : decide (a.se = b.se) = true := by simpa using d0
 have cl0 : ((a.evs.length : Int) == (b.evs.length : Int)) = true := by simp [hl0]
 repeat' ((first | apply ah | apply al | apply ao | apply av | refine aq rfl ?_ | apply ai | apply af | apply ab | apply ak mixed | apply ap mixed | (with_reducible first | refine ac ?_ | refine ar ?_ | refine aw ?_) | refine ae (g_se) ?_ ?_ | simp (disch := omega) only [aW, aF, aK, aL, bg, zI, zH] | ((first | refine aj ?_ ?_ | refine aa ?_ ?_) <;> intro hc <;> (try simp only [hc]) <;> try simp at hc) | (with_reducible refine ⟨?_, ?_⟩; (focus ((repeat' with_reducible refine ⟨?_, ?_⟩) <;> first | exact trivial | assumption | (simp; done) | (simp only [zA] at *; omega) | omega | (simp [fs]; done)))) | (with_reducible intro x hx) | omega) <;> (try simp only [dP, e0, e1, k0, Nat.reduceBEq, reduceIte, Nat.reduceAdd, Nat.reduceLeDiff, reduceCtorEq, cond_false, ne_eq, fw, fd]))
 refine aM (ι := {i : Nat // i ≤ a.evs.length ∧ a.evs.take i = b.evs.take i}) (fun i => ([(2, .ptr 0 0 0 1), (3, .ptr 1 0 0 1), (37, .int .i64 a.evs.length), (38, .int .i64 i.1)], [⟨true, false, true, false, 9, [a.row], some 0⟩, ⟨true, false, true, false, 9, [b.row], some 0⟩])) (fun i => a.evs.length - i.1) ⟨0, by simp⟩ ?_ ?_
 ·simp only [Us.row, e0, e1]
  refine aC [0, 1] (by rfl) (by simp) (by simp [fg]) (by simp [fg])
 rintro ⟨i, hi, ht⟩ hk
 dsimp only at hk ⊢
 by_cases hlt : i < a.evs.length
 ·have c2 : ((i : Int) < (a.evs.length : Int)) = True := by simp; omega
  obtain ⟨x, hx⟩ : ∃ x, a.evs[i]? = some x := ⟨_, zD hlt⟩
  obtain ⟨y, hy⟩ : ∃ y, b.evs[i]? = some y := ⟨_, zD (by omega)⟩
  have rx := jj hx
  have ry := jj hy
  have q2 := uZ x.ev y.ev (a3 _ (zE hx)) (b3' _ (zE hy))
  simp only [Ev.cells] at q2
  by_cases hxy : x = y
  ·obtain ⟨c3a, c3b⟩ := En.eq_iff.1 hxy
   have c3 : (x.id == y.id) = true := by simpa using c3a
   have c4 : decide (x.ev = y.ev) = true := by simpa using c3b
   repeat' ((first | apply ah | apply al | apply ao | apply av | refine aq rfl ?_ | apply ai | apply af | apply ab | apply ak mixed | apply ap mixed | (with_reducible first | refine ac ?_ | refine ar ?_ | refine aw ?_) | refine ae (q2) ?_ ?_ | simp (disch := omega) only [aW] | ((first | refine aj ?_ ?_ | refine aa ?_ ?_) <;> intro hc <;> (try simp only [hc]) <;> try simp at hc) | (with_reducible refine ⟨?_, ?_⟩; (focus ((repeat' with_reducible refine ⟨?_, ?_⟩) <;> first | exact trivial | assumption | (simp; done) | (simp only [zA] at *; omega) | omega | (simp [fs]; done)))) | (with_reducible intro x hx) | omega) <;> (try simp only [dP, c2, rx, ry, Us.row, c4, En.row, Nat.reduceBEq, reduceIte, Nat.reduceAdd, cond_true, cond_false, fw, fd]))
   refine hk ⟨i + 1, by omega, bw ht hx hy hxy⟩ _ _ (by dsimp only; omega) ?_
   dsimp only [Us.row]
   refine aC [0, 1] (by rfl) (by simp) (by simp [fg]) (by simp [fg])
  ·have c3 : ¬ (x.id = y.id ∧ x.ev = y.ev) := fun h => hxy (En.eq_iff.2 h)
   have e : decide (a = b) = false := by
    have := cF hx hy hxy
    simp only [decide_eq_false_iff_not] at this ⊢
    exact fun h => this (by rw [h])
   rw [e]
   repeat' ((first | apply ah | apply al | apply ao | apply av | refine aq rfl ?_ | apply ai | apply af | apply ab | apply ak mixed | apply ap mixed | (with_reducible first | refine ac ?_ | refine ar ?_ | refine aw ?_) | refine ae (q2) ?_ ?_ | simp (disch := omega) only [aW] | ((first | refine aj ?_ ?_ | refine aa ?_ ?_) <;> intro hc <;> (try simp only [hc]) <;> try simp at hc) | (with_reducible refine ⟨?_, ?_⟩; (focus ((repeat' with_reducible refine ⟨?_, ?_⟩) <;> first | exact trivial | assumption | (simp; done) | (simp only [zA] at *; omega) | omega | (simp [fs]; done)))) | (with_reducible intro x hx) | omega) <;> (try simp only [dP, c2, rx, ry, Us.row, En.row, Nat.reduceBEq, reduceIte, Nat.reduceAdd, cond_true, cond_false, fw, fd]))
   all_goals (exfalso; simp_all; done)
 ·have c2 : ((i : Int) < (a.evs.length : Int)) = False := by simp; omega
  have q_evs : a.evs = b.evs := by simpa using bQ ht hlt hl0
  clear hk ht hlt hi
  have e6 : decide (a = b) = true := by
   rw [zN]; simp [Us.eq_iff, e0, e1, d0, q_evs]
  rw [e6]
  repeat' ((first | apply ah | apply al | apply ao | apply av | refine aq rfl ?_ | apply ai | apply af | apply ab | apply ak mixed | apply ap mixed | (with_reducible first | refine ac ?_ | refine ar ?_ | refine aw ?_) | simp (disch := omega) only [aW, aF, aK, aL, bg, zI, zH] | ((first | refine aj ?_ ?_ | refine aa ?_ ?_) <;> intro hc <;> (try simp only [hc]) <;> try simp at hc) | (with_reducible refine ⟨?_, ?_⟩; (focus ((repeat' with_reducible refine ⟨?_, ?_⟩) <;> first | exact trivial | assumption | (simp; done) | (simp only [zA] at *; omega) | omega | (simp [fs]; done)))) | (with_reducible intro x hx) | omega) <;> (try simp only [c2, Us.row, Nat.reduceBEq, reduceIte, fw, fd]))
theorem dp.eq_iff {a b : dp} : a = b ↔ (a.t = b.t ∧ a.us = b.us ∧ a.ps = b.ps ∧ a.ds = b.ds) := by
 cases a; cases b; simp only [dp.mk.injEq]
set_option maxHeartbeats 4000000 in
theorem oV (a b : dp) (fa : a.fits) (fb : b.fits) : aP Tryz.prog 15 [.agg a.cells, .agg b.cells] (.bool (decide (a = b))) := by
 refine bf Tryz.func15 low15 (by simp [c15]) ?_
 simp only [c15, dp.cells]
 obtain ⟨a1, a2, a3, a4, a5⟩ := fa
 obtain ⟨b1, b2', b3', b4, b5⟩ := fb
 by_cases h : ¬ (b.t = a.t ∧ a.us.length = b.us.length ∧ a.ps.length = b.ps.length ∧ a.ds.length = b.ds.length)
 ·have e : decide (a = b) = false := by
   simp only [decide_eq_false_iff_not]
   rintro rfl
   exact h ⟨rfl, rfl, rfl, rfl⟩
  rw [e]
  repeat' ((first | apply ah | apply al | apply ao | apply av | refine aq rfl ?_ | apply ai | apply af | apply ab | apply ak mixed | apply ap mixed | (with_reducible first | refine ac ?_ | refine aw ?_) | simp (disch := omega) only [aW, aF, aK, aL, bg, zI, zH] | ((first | refine aj ?_ ?_ | refine aa ?_ ?_) <;> intro hc <;> (try simp only [hc]) <;> try simp at hc) | (with_reducible refine ⟨?_, ?_⟩; (focus ((repeat' with_reducible refine ⟨?_, ?_⟩) <;> first | exact trivial | assumption | (simp; done) | (simp only [zA] at *; omega) | omega | (simp [fs]; done)))) | (with_reducible intro x hx) | omega) <;> (try simp only [cO, cM, cL, Nat.reduceBEq, reduceIte, Nat.reduceAdd, reduceCtorEq, cond_true, cond_false, ne_eq, fw, fd]))
  all_goals (first | (exfalso; simp_all; done) | (exfalso; apply h; simp_all; done) | (exfalso; apply h; simp_all; omega))
 obtain ⟨e0, hl0, hl1, hl2⟩ : (b.t = a.t ∧ a.us.length = b.us.length ∧ a.ps.length = b.ps.length ∧ a.ds.length = b.ds.length) := by simpa using h
 have cl0 : ((a.us.length : Int) == (b.us.length : Int)) = true := by simp [hl0]
 have cl1 : ((a.ps.length : Int) == (b.ps.length : Int)) = true := by simp [hl1]
 have cl2 : ((a.ds.length : Int) == (b.ds.length : Int)) = true := by simp [hl2]
 repeat' ((first | apply ah | apply al | apply ao | apply av | refine aq rfl ?_ | apply ai | apply af | apply ab | apply ak mixed | apply ap mixed | (with_reducible first | refine ac ?_ | refine aw ?_) | simp (disch := omega) only [aW, aF, aK, aL, bg, zI, zH] | ((first | refine aj ?_ ?_ | refine aa ?_ ?_) <;> intro hc <;> (try simp only [hc]) <;> try simp at hc) | (with_reducible refine ⟨?_, ?_⟩; (focus ((repeat' with_reducible refine ⟨?_, ?_⟩) <;> first | exact trivial | assumption | (simp; done) | (simp only [zA] at *; omega) | omega | (simp [fs]; done)))) | (with_reducible intro x hx) | omega) <;> (try simp only [cO, cM, cL, e0, Nat.reduceBEq, reduceIte, Nat.reduceAdd, reduceCtorEq, cond_true, cond_false, ne_eq, fw, fd]))
 refine aM (ι := {i : Nat // i ≤ a.us.length ∧ a.us.take i = b.us.take i}) (fun i => ([(2, .ptr 0 0 0 1), (3, .ptr 1 0 0 1), (42, .int .i64 a.us.length), (43, .int .i64 i.1)], [⟨true, false, true, false, 4, [a.cells], some 0⟩, ⟨true, false, true, false, 4, [b.cells], some 0⟩])) (fun i => a.us.length - i.1) ⟨0, by simp⟩ ?_ ?_
 ·simp only [dp.cells, e0]
  refine aC [0, 1] (by rfl) (by simp) (by simp [fg]) (by simp [fg])
 rintro ⟨i, hi, ht⟩ hk
 dsimp only at hk ⊢
 by_cases hlt : i < a.us.length
 ·have c2 : ((i : Int) < (a.us.length : Int)) = True := by simp; omega
  obtain ⟨x, hx⟩ : ∃ x, a.us[i]? = some x := ⟨_, zD hlt⟩
  obtain ⟨y, hy⟩ : ∃ y, b.us[i]? = some y := ⟨_, zD (by omega)⟩
  have rx := jl hx
  have ry := jl hy
  have q2 := va x y (a4 _ (zE hx)) (b4 _ (zE hy))
  simp only [Us.row] at q2
  by_cases hxy : x = y
  ·have c3 : decide (x = y) = true := by simpa using hxy
   repeat' ((first | apply ah | apply al | apply ao | apply av | refine aq rfl ?_ | apply ai | apply af | apply ab | apply ak mixed | apply ap mixed | (with_reducible first | refine ac ?_ | refine aw ?_) | refine ae (q2) ?_ ?_ | simp (disch := omega) only [aW] | ((first | refine aj ?_ ?_ | refine aa ?_ ?_) <;> intro hc <;> (try simp only [hc]) <;> try simp at hc) | (with_reducible refine ⟨?_, ?_⟩; (focus ((repeat' with_reducible refine ⟨?_, ?_⟩) <;> first | exact trivial | assumption | (simp; done) | (simp only [zA] at *; omega) | omega | (simp [fs]; done)))) | (with_reducible intro x hx) | omega) <;> (try simp only [cO, c2, c3, rx, ry, dp.cells, Us.row, Nat.reduceBEq, reduceIte, Nat.reduceAdd, Int.reduceNeg, IntKind.bits, fw, fd]))
   refine hk ⟨i + 1, by omega, bw ht hx hy hxy⟩ _ _ (by dsimp only; omega) ?_
   dsimp only [dp.cells]
   refine aC [0, 1] (by rfl) (by simp) (by simp [fg]) (by simp [fg])
  ·have c3 : decide (x = y) = false := by simpa using hxy
   have e : decide (a = b) = false := by
    have := cF hx hy hxy
    simp only [decide_eq_false_iff_not] at this ⊢
    exact fun h => this (by rw [h])
   rw [e]
   repeat' ((first | apply ah | apply al | apply ao | apply av | refine aq rfl ?_ | apply ai | apply af | apply ab | apply ak mixed | apply ap mixed | (with_reducible first | refine ac ?_ | refine aw ?_) | refine ae (q2) ?_ ?_ | simp (disch := omega) only [aW, aF, aK, aL, bg, zI, zH] | ((first | refine aj ?_ ?_ | refine aa ?_ ?_) <;> intro hc <;> (try simp only [hc]) <;> try simp at hc) | (with_reducible refine ⟨?_, ?_⟩; (focus ((repeat' with_reducible refine ⟨?_, ?_⟩) <;> first | exact trivial | assumption | (simp; done) | (simp only [zA] at *; omega) | omega | (simp [fs]; done)))) | (with_reducible intro x hx) | omega) <;> (try simp only [cO, c2, c3, rx, ry, dp.cells, Us.row, Nat.reduceBEq, reduceIte, Nat.reduceAdd, Int.reduceNeg, IntKind.bits, fw, fd]))
 ·have c2 : ((i : Int) < (a.us.length : Int)) = False := by simp; omega
  have q_us : a.us = b.us := by simpa using bQ ht hlt hl0
  clear hk ht hlt hi
  repeat' ((first | apply ah | apply al | apply ao | apply av | refine aq rfl ?_ | apply ai | apply af | apply ab | apply ak mixed | apply ap mixed | (with_reducible first | refine ac ?_ | refine aw ?_) | simp (disch := omega) only [aW, aF, aK, aL, bg, zI, zH] | ((first | refine aj ?_ ?_ | refine aa ?_ ?_) <;> intro hc <;> (try simp only [hc]) <;> try simp at hc) | (with_reducible refine ⟨?_, ?_⟩; (focus ((repeat' with_reducible refine ⟨?_, ?_⟩) <;> first | exact trivial | assumption | (simp; done) | (simp only [zA] at *; omega) | omega | (simp [fs]; done)))) | (with_reducible intro x hx) | omega) <;> (try simp only [cM, c2, dp.cells, Nat.reduceBEq, reduceIte, fw, fd]))
  clear c2
  refine aM (ι := {i : Nat // i ≤ a.ps.length ∧ a.ps.take i = b.ps.take i}) (fun i => ([(2, .ptr 0 0 0 1), (3, .ptr 1 0 0 1), (61, .int .i64 a.ps.length), (62, .int .i64 i.1)], [⟨true, false, true, false, 4, [a.cells], some 0⟩, ⟨true, false, true, false, 4, [b.cells], some 0⟩])) (fun i => a.ps.length - i.1) ⟨0, by simp⟩ ?_ ?_
  ·dsimp only [dp.cells]
   refine aC [0, 1] (by rfl) (by simp) (by simp [fg]) (by simp [fg])
  rintro ⟨i, hi, ht⟩ hk
  dsimp only at hk ⊢
  by_cases hlt : i < a.ps.length
  ·have c2 : ((i : Int) < (a.ps.length : Int)) = True := by simp; omega
   obtain ⟨x, hx⟩ : ∃ x, a.ps[i]? = some x := ⟨_, zD hlt⟩
   obtain ⟨y, hy⟩ : ∃ y, b.ps[i]? = some y := ⟨_, zD (by omega)⟩
   have rx := jk hx
   have ry := jk hy
   have q2 := u0 x y (a5 _ (zE hx)) (b5 _ (zE hy))
   simp only [Po.row] at q2
   by_cases hxy : x = y
   ·have c3 : decide (x = y) = true := by simpa using hxy
    repeat' ((first | apply ah | apply al | apply ao | apply av | refine aq rfl ?_ | apply ai | apply af | apply ab | apply ak mixed | apply ap mixed | (with_reducible first | refine ac ?_ | refine aw ?_) | refine ae (q2) ?_ ?_ | simp (disch := omega) only [aW] | ((first | refine aj ?_ ?_ | refine aa ?_ ?_) <;> intro hc <;> (try simp only [hc]) <;> try simp at hc) | (with_reducible refine ⟨?_, ?_⟩; (focus ((repeat' with_reducible refine ⟨?_, ?_⟩) <;> first | exact trivial | assumption | (simp; done) | (simp only [zA] at *; omega) | omega | (simp [fs]; done)))) | (with_reducible intro x hx) | omega) <;> (try simp only [cM, c2, c3, rx, ry, dp.cells, Po.row, Nat.reduceBEq, reduceIte, Nat.reduceAdd, Int.reduceNeg, IntKind.bits, fw, fd]))
    refine hk ⟨i + 1, by omega, bw ht hx hy hxy⟩ _ _ (by dsimp only; omega) ?_
    dsimp only [dp.cells]
    refine aC [0, 1] (by rfl) (by simp) (by simp [fg]) (by simp [fg])
   ·have c3 : decide (x = y) = false := by simpa using hxy
    have e : decide (a = b) = false := by
     have := cF hx hy hxy
     simp only [decide_eq_false_iff_not] at this ⊢
     exact fun h => this (by rw [h])
    rw [e]
    repeat' ((first | apply ah | apply al | apply ao | apply av | refine aq rfl ?_ | apply ai | apply af | apply ab | apply ak mixed | apply ap mixed | (with_reducible first | refine ac ?_ | refine aw ?_) | refine ae (q2) ?_ ?_ | simp (disch := omega) only [aW, aF, aK, aL, bg, zI, zH] | ((first | refine aj ?_ ?_ | refine aa ?_ ?_) <;> intro hc <;> (try simp only [hc]) <;> try simp at hc) | (with_reducible refine ⟨?_, ?_⟩; (focus ((repeat' with_reducible refine ⟨?_, ?_⟩) <;> first | exact trivial | assumption | (simp; done) | (simp only [zA] at *; omega) | omega | (simp [fs]; done)))) | (with_reducible intro x hx) | omega) <;> (try simp only [cM, c2, c3, rx, ry, dp.cells, Po.row, Nat.reduceBEq, reduceIte, Nat.reduceAdd, Int.reduceNeg, IntKind.bits, fw, fd]))
  ·have c2 : ((i : Int) < (a.ps.length : Int)) = False := by simp; omega
   have q_ps : a.ps = b.ps := by simpa using bQ ht hlt hl1
   clear hk ht hlt hi
   repeat' ((first | apply ah | apply al | apply ao | apply av | refine aq rfl ?_ | apply ai | apply af | apply ab | apply ak mixed | apply ap mixed | (with_reducible first | refine ac ?_ | refine aw ?_) | simp (disch := omega) only [aW, aF, aK, aL, bg, zI, zH] | ((first | refine aj ?_ ?_ | refine aa ?_ ?_) <;> intro hc <;> (try simp only [hc]) <;> try simp at hc) | (with_reducible refine ⟨?_, ?_⟩; (focus ((repeat' with_reducible refine ⟨?_, ?_⟩) <;> first | exact trivial | assumption | (simp; done) | (simp only [zA] at *; omega) | omega | (simp [fs]; done)))) | (with_reducible intro x hx) | omega) <;> (try simp only [cL, c2, dp.cells, Nat.reduceBEq, reduceIte, fw, fd]))
   clear c2
   refine aM (ι := {i : Nat // i ≤ a.ds.length ∧ a.ds.take i = b.ds.take i}) (fun i => ([(2, .ptr 0 0 0 1), (3, .ptr 1 0 0 1), (80, .int .i64 a.ds.length), (81, .int .i64 i.1)], [⟨true, false, true, false, 4, [a.cells], some 0⟩, ⟨true, false, true, false, 4, [b.cells], some 0⟩])) (fun i => a.ds.length - i.1) ⟨0, by simp⟩ ?_ ?_
   ·dsimp only [dp.cells]
    refine aC [0, 1] (by rfl) (by simp) (by simp [fg]) (by simp [fg])
   rintro ⟨i, hi, ht⟩ hk
   dsimp only at hk ⊢
   by_cases hlt : i < a.ds.length
   ·have c2 : ((i : Int) < (a.ds.length : Int)) = True := by simp; omega
    obtain ⟨x, hx⟩ : ∃ x, a.ds[i]? = some x := ⟨_, zD hlt⟩
    obtain ⟨y, hy⟩ : ∃ y, b.ds[i]? = some y := ⟨_, zD (by omega)⟩
    have rx := kS hx
    have ry := kS hy
    have q2 := bD (x := x) (y := y)
    by_cases hxy : x = y
    ·have c3 : decide (x = y) = true := by simpa using hxy
     repeat' ((first | apply ah | apply al | apply ao | apply av | refine aq rfl ?_ | apply ai | apply af | apply ab | apply ak mixed | apply ap mixed | (with_reducible first | refine ac ?_ | refine aw ?_) | simp (disch := omega) only [aW] | ((first | refine aj ?_ ?_ | refine aa ?_ ?_) <;> intro hc <;> (try simp only [hc]) <;> try simp at hc) | (with_reducible refine ⟨?_, ?_⟩; (focus ((repeat' with_reducible refine ⟨?_, ?_⟩) <;> first | exact trivial | assumption | (simp; done) | (simp only [zA] at *; omega) | omega | (simp [fs]; done)))) | (with_reducible intro x hx) | omega) <;> (try simp only [cL, c2, q2, c3, rx, ry, dp.cells, Nat.reduceBEq, reduceIte, Nat.reduceAdd, cond_true, fw, fd]))
     refine hk ⟨i + 1, by omega, bw ht hx hy hxy⟩ _ _ (by dsimp only; omega) ?_
     dsimp only [dp.cells]
     refine aC [0, 1] (by rfl) (by simp) (by simp [fg]) (by simp [fg])
    ·have c3 : decide (x = y) = false := by simpa using hxy
     have e : decide (a = b) = false := by
      have := cF hx hy hxy
      simp only [decide_eq_false_iff_not] at this ⊢
      exact fun h => this (by rw [h])
     rw [e]
     repeat' ((first | apply ah | apply al | apply ao | apply av | refine aq rfl ?_ | apply ai | apply af | apply ab | apply ak mixed | apply ap mixed | (with_reducible first | refine ac ?_ | refine aw ?_) | simp (disch := omega) only [aW, aF, aK, aL, bg, zI, zH] | ((first | refine aj ?_ ?_ | refine aa ?_ ?_) <;> intro hc <;> (try simp only [hc]) <;> try simp at hc) | (with_reducible refine ⟨?_, ?_⟩; (focus ((repeat' with_reducible refine ⟨?_, ?_⟩) <;> first | exact trivial | assumption | (simp; done) | (simp only [zA] at *; omega) | omega | (simp [fs]; done)))) | (with_reducible intro x hx) | omega) <;> (try simp only [cL, c2, q2, c3, rx, ry, dp.cells, Nat.reduceBEq, reduceIte, Nat.reduceAdd, cond_true, fw, fd]))
   ·have c2 : ((i : Int) < (a.ds.length : Int)) = False := by simp; omega
    have q_ds : a.ds = b.ds := by simpa using bQ ht hlt hl2
    clear hk ht hlt hi
    have e6 : decide (a = b) = true := by
     rw [zN]; simp [dp.eq_iff, e0, q_us, q_ps, q_ds]
    rw [e6]
    repeat' ((first | apply ah | apply al | apply ao | apply av | refine aq rfl ?_ | apply ai | apply af | apply ab | apply ak mixed | apply ap mixed | (with_reducible first | refine ac ?_ | refine aw ?_) | simp (disch := omega) only [aW, aF, aK, aL, bg, zI, zH] | ((first | refine aj ?_ ?_ | refine aa ?_ ?_) <;> intro hc <;> (try simp only [hc]) <;> try simp at hc) | (with_reducible refine ⟨?_, ?_⟩; (focus ((repeat' with_reducible refine ⟨?_, ?_⟩) <;> first | exact trivial | assumption | (simp; done) | (simp only [zA] at *; omega) | omega | (simp [fs]; done)))) | (with_reducible intro x hx) | omega) <;> (try simp only [c2, dp.cells, Nat.reduceBEq, reduceIte, fw, fd]))
end Go.Proofs.YtgefljdclekadaaGreat
