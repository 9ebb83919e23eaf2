import Derived.Test.YtoleaiaeghbffaaCMA
import Derived.Test.YtoleaiaeghbffaaVi25
set_option linter.unusedVariables false
set_option linter.unusedSimpArgs false
set_option linter.unnecessarySimpa false
namespace Go.Proofs.Ytoleaiaeghbffaa
open Go Go.Vi


theorem Po.eq_iff {a b : Po} : a = b ↔ (a.id = b.id ∧ a.owner = b.owner ∧ a.qu = b.qu ∧ a.slots = b.slots ∧ a.votes = b.votes ∧ a.til = b.til ∧ a.state = b.state ∧ a.winner = b.winner) := by
 cases a; cases b; simp only [Po.mk.injEq]
set_option maxHeartbeats 4000000 in
theorem samePo_p (a b : Po) (fa : a.fits) (fb : b.fits) : PureD Try.prog 22 [.agg a.row, .agg b.row] (.bool (decide (a = b))) := by
 refine pureV Try.func22 low22 (by simp [c22]) ?_
 simp only [c22, Po.row]
 obtain ⟨a1, a2, a3⟩ := fa
 obtain ⟨b1, b2', b3'⟩ := fb
 have g_qu := sameQu_p a.qu b.qu a1 b1
 simp only [Qu.cells] at g_qu
 have g_slots := longs_p a.slots b.slots (by omega) (by omega)
 by_cases h : ¬ (b.id = a.id ∧ b.owner = a.owner ∧ b.til = a.til ∧ b.state = a.state ∧ b.winner = a.winner ∧ a.qu = b.qu ∧ a.slots = b.slots ∧ a.votes.length = b.votes.length)
 ·have e : decide (a = b) = false := by
   simp only [decide_eq_false_iff_not]
   rintro rfl
   exact h ⟨rfl, rfl, rfl, rfl, rfl, rfl, rfl, rfl⟩
  rw [e]
  repeat' ((first | apply Run_seq | apply Run_skip | apply Run_block | apply Run_blk | refine Run_exit rfl ?_ | apply Run_ret | apply Run_nil | apply Run_condK | apply Run_ops mixed | apply Run_opsX mixed | with_reducible refine PostV_open ?_ | with_reducible refine ro_callV ?_ | refine CallV_pure (g_qu) ?_ ?_ | refine CallV_pure (g_slots) ?_ ?_ | simp (disch := omega) only [w64, wu64, wu32, wu16, wu8, Int.tdiv_eq_ediv_of_nonneg, Int.tmod_eq_emod_of_nonneg] | ((first | refine GuardK_split ?_ ?_ | refine CondK_split ?_ ?_) <;> intro hc <;> (try simp only [hc]) <;> try simp at hc) | (with_reducible refine And.intro ?_ ?_; (focus ((repeat' (with_reducible refine And.intro ?_ ?_)) <;> first | exact trivial | assumption | (simp; done) | (simp only [List.length_map] at *; omega) | omega | (simp [D.cells, D.ok, D.one, D.pt, D.pt1]; done)))) | (with_reducible intro x hx) | omega) <;> (try simp only [row2_len, Nat.reduceBEq, argEnv, reduceIte, Nat.reduceAdd, Nat.reduceLeDiff, reduceCtorEq, binD, binInt, okD, unD, pickD, faddrD, lenD, loadD, D.cells, D.ok, D.one, D.pt, D.pt1, D.pt0, D.norm1, cond_true, cond_false, ne_eq, view, view2, view1, view0, mapO, D.sc, D.sc1, D.sc2, ofRes, fw]))
  all_goals (first | (exfalso; simp_all; done) | (exfalso; apply h; simp_all; done) | (exfalso; apply h; simp_all; omega))
 obtain ⟨e0, e1, e2, e3, e4, d0, d1, hl0⟩ : (b.id = a.id ∧ b.owner = a.owner ∧ b.til = a.til ∧ b.state = a.state ∧ b.winner = a.winner ∧ a.qu = b.qu ∧ a.slots = b.slots ∧ a.votes.length = b.votes.length) := by simpa using h
 have k0 : decide (a.qu = b.qu) = true := by simpa using d0
 have k1 : decide (a.slots = b.slots) = true := by simpa using d1
 have cl0 : ((a.votes.length : Int) == (b.votes.length : Int)) = true := by simp [hl0]
 repeat' ((first | apply Run_seq | apply Run_skip | apply Run_block | apply Run_blk | refine Run_exit rfl ?_ | apply Run_ret | apply Run_nil | apply Run_condK | apply Run_ops mixed | apply Run_opsX mixed | with_reducible refine PostV_open ?_ | with_reducible refine ro_callV ?_ | refine CallV_pure (g_qu) ?_ ?_ | refine CallV_pure (g_slots) ?_ ?_ | simp (disch := omega) only [w64, wu64, wu32, wu16, wu8, Int.tdiv_eq_ediv_of_nonneg, Int.tmod_eq_emod_of_nonneg] | ((first | refine GuardK_split ?_ ?_ | refine CondK_split ?_ ?_) <;> intro hc <;> (try simp only [hc]) <;> try simp at hc) | (with_reducible refine And.intro ?_ ?_; (focus ((repeat' (with_reducible refine And.intro ?_ ?_)) <;> first | exact trivial | assumption | (simp; done) | (simp only [List.length_map] at *; omega) | omega | (simp [D.cells, D.ok, D.one, D.pt, D.pt1]; done)))) | (with_reducible intro x hx) | omega) <;> (try simp only [row2_len, e0, e1, e2, e3, e4, k0, k1, Nat.reduceBEq, argEnv, reduceIte, Nat.reduceAdd, Nat.reduceLeDiff, reduceCtorEq, binD, binInt, okD, unD, pickD, faddrD, lenD, loadD, D.cells, D.ok, D.one, D.pt, D.pt1, D.pt0, D.norm1, cond_true, cond_false, ne_eq, view, view2, view1, view0, mapO, D.sc, D.sc1, D.sc2, ofRes, fw]))
 refine Run_loop (ι := {i : Nat // i ≤ a.votes.length ∧ a.votes.take i = b.votes.take i}) (fun i => ([(2, .ptr 0 0 0 1), (3, .ptr 1 0 0 1), (66, .int .i64 a.votes.length), (67, .int .i64 i.1)], [⟨true, false, true, false, 16, [a.row], some 0⟩, ⟨true, false, true, false, 16, [b.row], some 0⟩])) (fun i => a.votes.length - i.1) ⟨0, by simp⟩ ?_ ?_
 ·simp only [Po.row, e0, e1, e2, e3, e4]
  refine Ent_gc [0, 1] (by rfl) (by simp) (by simp [keptW, ObKW, ObW, imp_self, pullOb, or_false]) (by simp [lk_hit, lk_miss, D.pt0, viewS_own', pull, pull2, pull1, pull0, idx_hit, idx_miss, sucO_some, gate, List.mem_cons, or_false, view0])
 rintro ⟨i, hi, ht⟩ hk
 dsimp only at hk ⊢
 by_cases hlt : i < a.votes.length
 ·have c2 : ((i : Int) < (a.votes.length : Int)) = True := by simp; omega
  obtain ⟨x, hx⟩ : ∃ x, a.votes[i]? = some x := ⟨_, List.getElem?_eq_getElem hlt⟩
  obtain ⟨y, hy⟩ : ∃ y, b.votes[i]? = some y := ⟨_, List.getElem?_eq_getElem (by omega)⟩
  have rx := row2_get (k := .u32) (m := .i64) hx
  have ry := row2_get (k := .u32) (m := .i64) hy
  have q2 := b2 (x := x) (y := y)
  by_cases hxy : x = y
  ·have c3 : decide (x = y) = true := by simpa using hxy
   repeat' ((first | apply Run_seq | apply Run_skip | apply Run_block | apply Run_blk | refine Run_exit rfl ?_ | apply Run_ret | apply Run_nil | apply Run_condK | apply Run_ops mixed | apply Run_opsX mixed | with_reducible refine PostV_open ?_ | with_reducible refine ro_callV ?_ | simp (disch := omega) only [w64] | ((first | refine GuardK_split ?_ ?_ | refine CondK_split ?_ ?_) <;> intro hc <;> (try simp only [hc]) <;> try simp at hc) | (with_reducible refine And.intro ?_ ?_; (focus ((repeat' (with_reducible refine And.intro ?_ ?_)) <;> first | exact trivial | assumption | (simp; done) | (simp only [List.length_map] at *; omega) | omega | (simp [D.cells, D.ok, D.one, D.pt, D.pt1]; done)))) | (with_reducible intro x hx) | omega) <;> (try simp only [row2_len, c2, q2, c3, rx, ry, Po.row, Nat.reduceBEq, reduceIte, Nat.reduceAdd, binD, binInt, eqD, eqCell, eqCells, eqN, boolD, faddrD, loadD, cond_true, fw]))
   refine hk ⟨i + 1, by omega, eq_step ht hx hy hxy⟩ _ _ (by dsimp only; omega) ?_
   dsimp only [Po.row]
   refine Ent_gc [0, 1] (by rfl) (by simp) (by simp [keptW, ObKW, ObW, imp_self, pullOb, or_false]) (by simp [lk_hit, lk_miss, D.pt0, viewS_own', pull, pull2, pull1, pull0, idx_hit, idx_miss, sucO_some, gate, List.mem_cons, or_false, view0])
  ·have c3 : decide (x = y) = false := by simpa using hxy
   have e : decide (a = b) = false := by
    have := eq_no hx hy hxy
    simp only [decide_eq_false_iff_not] at this ⊢
    exact fun h => this (by rw [h])
   rw [e]
   repeat' ((first | apply Run_seq | apply Run_skip | apply Run_block | apply Run_blk | refine Run_exit rfl ?_ | apply Run_ret | apply Run_nil | apply Run_condK | apply Run_ops mixed | apply Run_opsX mixed | with_reducible refine PostV_open ?_ | with_reducible refine ro_callV ?_ | simp (disch := omega) only [w64, wu64, wu32, wu16, wu8, Int.tdiv_eq_ediv_of_nonneg, Int.tmod_eq_emod_of_nonneg] | ((first | refine GuardK_split ?_ ?_ | refine CondK_split ?_ ?_) <;> intro hc <;> (try simp only [hc]) <;> try simp at hc) | (with_reducible refine And.intro ?_ ?_; (focus ((repeat' (with_reducible refine And.intro ?_ ?_)) <;> first | exact trivial | assumption | (simp; done) | (simp only [List.length_map] at *; omega) | omega | (simp [D.cells, D.ok, D.one, D.pt, D.pt1]; done)))) | (with_reducible intro x hx) | omega) <;> (try simp only [row2_len, c2, q2, c3, rx, ry, Po.row, Nat.reduceBEq, reduceIte, Nat.reduceAdd, binD, binInt, eqD, eqCell, eqCells, eqN, boolD, faddrD, loadD, D.pt0, D.norm1, cond_true, view, view2, view1, view0, ofRes, fw]))
 ·have c2 : ((i : Int) < (a.votes.length : Int)) = False := by simp; omega
  have q_votes : a.votes = b.votes := by simpa using eq_end ht hlt hl0
  clear hk ht hlt hi
  have e6 : decide (a = b) = true := by
   rw [Bool.eq_iff_iff]; simp [Po.eq_iff, e0, e1, e2, e3, e4, d0, d1, q_votes]
  rw [e6]
  repeat' ((first | apply Run_seq | apply Run_skip | apply Run_block | apply Run_blk | refine Run_exit rfl ?_ | apply Run_ret | apply Run_nil | apply Run_condK | apply Run_ops mixed | apply Run_opsX mixed | with_reducible refine PostV_open ?_ | with_reducible refine ro_callV ?_ | simp (disch := omega) only [w64, wu64, wu32, wu16, wu8, Int.tdiv_eq_ediv_of_nonneg, Int.tmod_eq_emod_of_nonneg] | ((first | refine GuardK_split ?_ ?_ | refine CondK_split ?_ ?_) <;> intro hc <;> (try simp only [hc]) <;> try simp at hc) | (with_reducible refine And.intro ?_ ?_; (focus ((repeat' (with_reducible refine And.intro ?_ ?_)) <;> first | exact trivial | assumption | (simp; done) | (simp only [List.length_map] at *; omega) | omega | (simp [D.cells, D.ok, D.one, D.pt, D.pt1]; done)))) | (with_reducible intro x hx) | omega) <;> (try simp only [c2, Po.row, Nat.reduceBEq, reduceIte, binD, binInt, D.pt0, D.norm1, view, view2, view1, view0, ofRes, fw]))
theorem En.eq_iff {a b : En} : a = b ↔ (a.id = b.id ∧ a.ev = b.ev) := by
 cases a; cases b; simp only [En.mk.injEq]
theorem Us.eq_iff {a b : Us} : a = b ↔ (a.id = b.id ∧ a.se = b.se ∧ a.ver = b.ver ∧ a.evs = b.evs) := by
 cases a; cases b; simp only [Us.mk.injEq]
set_option maxHeartbeats 4000000 in
theorem sameUs_p (a b : Us) (fa : a.fit) (fb : b.fit) : PureD Try.prog 14 [.agg a.row, .agg b.row] (.bool (decide (a = b))) := by
 refine pureV Try.func14 low14 (by simp [c14]) ?_
 simp only [c14, Us.row]
 obtain ⟨a1, a2, a3⟩ := fa
 obtain ⟨b1, b2', b3'⟩ := fb
 have g_se := sameSe_p a.se b.se a1 b1
 simp only [Se.cells] at g_se
 by_cases h : ¬ (b.id = a.id ∧ b.ver = a.ver ∧ a.se = b.se ∧ a.evs.length = b.evs.length)
 ·have e : decide (a = b) = false := by
   simp only [decide_eq_false_iff_not]
   rintro rfl
   exact h ⟨rfl, rfl, rfl, rfl⟩
  rw [e]
  repeat' ((first | apply Run_seq | apply Run_skip | apply Run_block | apply Run_blk | refine Run_exit rfl ?_ | apply Run_ret | apply Run_nil | apply Run_condK | apply Run_ops mixed | apply Run_opsX mixed | with_reducible refine PostV_open ?_ | with_reducible refine ro_callV ?_ | with_reducible refine ro_callVX ?_ | refine CallV_pure (g_se) ?_ ?_ | simp (disch := omega) only [w64, wu64, wu32, wu16, wu8, Int.tdiv_eq_ediv_of_nonneg, Int.tmod_eq_emod_of_nonneg] | ((first | refine GuardK_split ?_ ?_ | refine CondK_split ?_ ?_) <;> intro hc <;> (try simp only [hc]) <;> try simp at hc) | (with_reducible refine And.intro ?_ ?_; (focus ((repeat' (with_reducible refine And.intro ?_ ?_)) <;> first | exact trivial | assumption | (simp; done) | (simp only [List.length_map] at *; omega) | omega | (simp [D.cells, D.ok, D.one, D.pt, D.pt1]; done)))) | (with_reducible intro x hx) | omega) <;> (try simp only [rowsE_len, Nat.reduceBEq, argEnv, reduceIte, Nat.reduceAdd, Nat.reduceLeDiff, reduceCtorEq, binD, binInt, okD, unD, pickD, faddrD, lenD, loadD, D.cells, D.ok, D.one, D.pt, D.pt1, D.pt0, D.norm1, cond_true, cond_false, ne_eq, view, view2, view1, view0, mapO, D.sc, D.sc1, D.sc2, ofRes, fw]))
  all_goals (first | (exfalso; simp_all; done) | (exfalso; apply h; simp_all; done) | (exfalso; apply h; simp_all; omega))
 obtain ⟨e0, e1, d0, hl0⟩ : (b.id = a.id ∧ b.ver = a.ver ∧ a.se = b.se ∧ a.evs.length = b.evs.length) := by simpa using h
 have k0 : decide (a.se = b.se) = true := by simpa using d0
 have cl0 : ((a.evs.length : Int) == (b.evs.length : Int)) = true := by simp [hl0]
 repeat' ((first | apply Run_seq | apply Run_skip | apply Run_block | apply Run_blk | refine Run_exit rfl ?_ | apply Run_ret | apply Run_nil | apply Run_condK | apply Run_ops mixed | apply Run_opsX mixed | with_reducible refine PostV_open ?_ | with_reducible refine ro_callV ?_ | with_reducible refine ro_callVX ?_ | refine CallV_pure (g_se) ?_ ?_ | simp (disch := omega) only [w64, wu64, wu32, wu16, wu8, Int.tdiv_eq_ediv_of_nonneg, Int.tmod_eq_emod_of_nonneg] | ((first | refine GuardK_split ?_ ?_ | refine CondK_split ?_ ?_) <;> intro hc <;> (try simp only [hc]) <;> try simp at hc) | (with_reducible refine And.intro ?_ ?_; (focus ((repeat' (with_reducible refine And.intro ?_ ?_)) <;> first | exact trivial | assumption | (simp; done) | (simp only [List.length_map] at *; omega) | omega | (simp [D.cells, D.ok, D.one, D.pt, D.pt1]; done)))) | (with_reducible intro x hx) | omega) <;> (try simp only [rowsE_len, e0, e1, k0, Nat.reduceBEq, argEnv, reduceIte, Nat.reduceAdd, Nat.reduceLeDiff, reduceCtorEq, binD, binInt, okD, unD, pickD, faddrD, lenD, loadD, D.cells, D.ok, D.one, D.pt, D.pt1, D.pt0, D.norm1, cond_false, ne_eq, view, view2, view1, view0, mapO, D.sc, D.sc1, D.sc2, ofRes, fw]))
 refine Run_loop (ι := {i : Nat // i ≤ a.evs.length ∧ a.evs.take i = b.evs.take i}) (fun i => ([(2, .ptr 0 0 0 1), (3, .ptr 1 0 0 1), (37, .int .i64 a.evs.length), (38, .int .i64 i.1)], [⟨true, false, true, false, 9, [a.row], some 0⟩, ⟨true, false, true, false, 9, [b.row], some 0⟩])) (fun i => a.evs.length - i.1) ⟨0, by simp⟩ ?_ ?_
 ·simp only [Us.row, e0, e1]
  refine Ent_gc [0, 1] (by rfl) (by simp) (by simp [keptW, ObKW, ObW, imp_self, pullOb, or_false]) (by simp [lk_hit, lk_miss, D.pt0, viewS_own', pull, pull2, pull1, pull0, idx_hit, idx_miss, sucO_some, gate, List.mem_cons, or_false, view0])
 rintro ⟨i, hi, ht⟩ hk
 dsimp only at hk ⊢
 by_cases hlt : i < a.evs.length
 ·have c2 : ((i : Int) < (a.evs.length : Int)) = True := by simp; omega
  obtain ⟨x, hx⟩ : ∃ x, a.evs[i]? = some x := ⟨_, List.getElem?_eq_getElem hlt⟩
  obtain ⟨y, hy⟩ : ∃ y, b.evs[i]? = some y := ⟨_, List.getElem?_eq_getElem (by omega)⟩
  have rx := rowsE_get hx
  have ry := rowsE_get hy
  have q2 := sameEv_p x.ev y.ev (a3 _ (List.mem_of_getElem? hx)) (b3' _ (List.mem_of_getElem? hy))
  simp only [Ev.cells] at q2
  by_cases hxy : x = y
  ·obtain ⟨c3a, c3b⟩ := En.eq_iff.1 hxy
   have c3 : (x.id == y.id) = true := by simpa using c3a
   have c4 : decide (x.ev = y.ev) = true := by simpa using c3b
   repeat' ((first | apply Run_seq | apply Run_skip | apply Run_block | apply Run_blk | refine Run_exit rfl ?_ | apply Run_ret | apply Run_nil | apply Run_condK | apply Run_ops mixed | apply Run_opsX mixed | with_reducible refine PostV_open ?_ | with_reducible refine ro_callV ?_ | with_reducible refine ro_callVX ?_ | refine CallV_pure (q2) ?_ ?_ | simp (disch := omega) only [w64] | ((first | refine GuardK_split ?_ ?_ | refine CondK_split ?_ ?_) <;> intro hc <;> (try simp only [hc]) <;> try simp at hc) | (with_reducible refine And.intro ?_ ?_; (focus ((repeat' (with_reducible refine And.intro ?_ ?_)) <;> first | exact trivial | assumption | (simp; done) | (simp only [List.length_map] at *; omega) | omega | (simp [D.cells, D.ok, D.one, D.pt, D.pt1]; done)))) | (with_reducible intro x hx) | omega) <;> (try simp only [rowsE_len, c2, rx, ry, Us.row, c4, En.row, Nat.reduceBEq, reduceIte, Nat.reduceAdd, binD, binInt, binStr, okD, unD, pickD, faddrD, loadD, D.pt, D.pt1, D.pt0, D.norm1, cond_true, cond_false, view, view2, view1, view0, mapO, D.sc, D.sc1, D.sc2, ofRes, fw]))
   refine hk ⟨i + 1, by omega, eq_step ht hx hy hxy⟩ _ _ (by dsimp only; omega) ?_
   dsimp only [Us.row]
   refine Ent_gc [0, 1] (by rfl) (by simp) (by simp [keptW, ObKW, ObW, imp_self, pullOb, or_false]) (by simp [lk_hit, lk_miss, D.pt0, viewS_own', pull, pull2, pull1, pull0, idx_hit, idx_miss, sucO_some, gate, List.mem_cons, or_false, view0])
  ·have c3 : ¬ (x.id = y.id ∧ x.ev = y.ev) := fun h => hxy (En.eq_iff.2 h)
   have e : decide (a = b) = false := by
    have := eq_no hx hy hxy
    simp only [decide_eq_false_iff_not] at this ⊢
    exact fun h => this (by rw [h])
   rw [e]
   repeat' ((first | apply Run_seq | apply Run_skip | apply Run_block | apply Run_blk | refine Run_exit rfl ?_ | apply Run_ret | apply Run_nil | apply Run_condK | apply Run_ops mixed | apply Run_opsX mixed | with_reducible refine PostV_open ?_ | with_reducible refine ro_callV ?_ | with_reducible refine ro_callVX ?_ | refine CallV_pure (q2) ?_ ?_ | simp (disch := omega) only [w64] | ((first | refine GuardK_split ?_ ?_ | refine CondK_split ?_ ?_) <;> intro hc <;> (try simp only [hc]) <;> try simp at hc) | (with_reducible refine And.intro ?_ ?_; (focus ((repeat' (with_reducible refine And.intro ?_ ?_)) <;> first | exact trivial | assumption | (simp; done) | (simp only [List.length_map] at *; omega) | omega | (simp [D.cells, D.ok, D.one, D.pt, D.pt1]; done)))) | (with_reducible intro x hx) | omega) <;> (try simp only [rowsE_len, c2, rx, ry, Us.row, En.row, Nat.reduceBEq, reduceIte, Nat.reduceAdd, binD, binInt, binStr, okD, unD, pickD, faddrD, loadD, D.pt, D.pt1, D.pt0, D.norm1, cond_true, cond_false, view, view2, view1, view0, mapO, D.sc, D.sc1, D.sc2, ofRes, fw]))
   all_goals (exfalso; simp_all; done)
 ·have c2 : ((i : Int) < (a.evs.length : Int)) = False := by simp; omega
  have q_evs : a.evs = b.evs := by simpa using eq_end ht hlt hl0
  clear hk ht hlt hi
  have e6 : decide (a = b) = true := by
   rw [Bool.eq_iff_iff]; simp [Us.eq_iff, e0, e1, d0, q_evs]
  rw [e6]
  repeat' ((first | apply Run_seq | apply Run_skip | apply Run_block | apply Run_blk | refine Run_exit rfl ?_ | apply Run_ret | apply Run_nil | apply Run_condK | apply Run_ops mixed | apply Run_opsX mixed | with_reducible refine PostV_open ?_ | with_reducible refine ro_callV ?_ | with_reducible refine ro_callVX ?_ | simp (disch := omega) only [w64, wu64, wu32, wu16, wu8, Int.tdiv_eq_ediv_of_nonneg, Int.tmod_eq_emod_of_nonneg] | ((first | refine GuardK_split ?_ ?_ | refine CondK_split ?_ ?_) <;> intro hc <;> (try simp only [hc]) <;> try simp at hc) | (with_reducible refine And.intro ?_ ?_; (focus ((repeat' (with_reducible refine And.intro ?_ ?_)) <;> first | exact trivial | assumption | (simp; done) | (simp only [List.length_map] at *; omega) | omega | (simp [D.cells, D.ok, D.one, D.pt, D.pt1]; done)))) | (with_reducible intro x hx) | omega) <;> (try simp only [c2, Us.row, Nat.reduceBEq, reduceIte, binD, binInt, D.pt0, D.norm1, view, view2, view1, view0, ofRes, fw]))
theorem Sta.eq_iff {a b : Sta} : a = b ↔ (a.t = b.t ∧ a.us = b.us ∧ a.ps = b.ps ∧ a.ds = b.ds) := by
 cases a; cases b; simp only [Sta.mk.injEq]
set_option maxHeartbeats 4000000 in
theorem sameSt_p (a b : Sta) (fa : a.fits) (fb : b.fits) : PureD Try.prog 11 [.agg a.cells, .agg b.cells] (.bool (decide (a = b))) := by
 refine pureV Try.func11 low11 (by simp [c11]) ?_
 simp only [c11, Sta.cells]
 obtain ⟨a1, a2, a3, a4, a5⟩ := fa
 obtain ⟨b1, b2', b3', b4, b5⟩ := fb
 by_cases h : ¬ (b.t = a.t ∧ a.us.length = b.us.length ∧ a.ps.length = b.ps.length ∧ a.ds.length = b.ds.length)
 ·have e : decide (a = b) = false := by
   simp only [decide_eq_false_iff_not]
   rintro rfl
   exact h ⟨rfl, rfl, rfl, rfl⟩
  rw [e]
  repeat' ((first | apply Run_seq | apply Run_skip | apply Run_block | apply Run_blk | refine Run_exit rfl ?_ | apply Run_ret | apply Run_nil | apply Run_condK | apply Run_ops mixed | apply Run_opsX mixed | with_reducible refine PostV_open ?_ | with_reducible refine ro_callVX ?_ | simp (disch := omega) only [w64, wu64, wu32, wu16, wu8, Int.tdiv_eq_ediv_of_nonneg, Int.tmod_eq_emod_of_nonneg] | ((first | refine GuardK_split ?_ ?_ | refine CondK_split ?_ ?_) <;> intro hc <;> (try simp only [hc]) <;> try simp at hc) | (with_reducible refine And.intro ?_ ?_; (focus ((repeat' (with_reducible refine And.intro ?_ ?_)) <;> first | exact trivial | assumption | (simp; done) | (simp only [List.length_map] at *; omega) | omega | (simp [D.cells, D.ok, D.one, D.pt, D.pt1]; done)))) | (with_reducible intro x hx) | omega) <;> (try simp only [rowsU_len, rowsP_len, rowsD_len, Nat.reduceBEq, argEnv, reduceIte, Nat.reduceAdd, reduceCtorEq, binD, binInt, pickD, faddrD, lenD, loadD, D.cells, D.ok, D.one, D.pt1, D.pt0, D.norm1, cond_true, cond_false, ne_eq, view, view2, view1, view0, ofRes, fw]))
  all_goals (first | (exfalso; simp_all; done) | (exfalso; apply h; simp_all; done) | (exfalso; apply h; simp_all; omega))
 obtain ⟨e0, hl0, hl1, hl2⟩ : (b.t = a.t ∧ a.us.length = b.us.length ∧ a.ps.length = b.ps.length ∧ a.ds.length = b.ds.length) := by simpa using h
 have cl0 : ((a.us.length : Int) == (b.us.length : Int)) = true := by simp [hl0]
 have cl1 : ((a.ps.length : Int) == (b.ps.length : Int)) = true := by simp [hl1]
 have cl2 : ((a.ds.length : Int) == (b.ds.length : Int)) = true := by simp [hl2]
 repeat' ((first | apply Run_seq | apply Run_skip | apply Run_block | apply Run_blk | refine Run_exit rfl ?_ | apply Run_ret | apply Run_nil | apply Run_condK | apply Run_ops mixed | apply Run_opsX mixed | with_reducible refine PostV_open ?_ | with_reducible refine ro_callVX ?_ | simp (disch := omega) only [w64, wu64, wu32, wu16, wu8, Int.tdiv_eq_ediv_of_nonneg, Int.tmod_eq_emod_of_nonneg] | ((first | refine GuardK_split ?_ ?_ | refine CondK_split ?_ ?_) <;> intro hc <;> (try simp only [hc]) <;> try simp at hc) | (with_reducible refine And.intro ?_ ?_; (focus ((repeat' (with_reducible refine And.intro ?_ ?_)) <;> first | exact trivial | assumption | (simp; done) | (simp only [List.length_map] at *; omega) | omega | (simp [D.cells, D.ok, D.one, D.pt, D.pt1]; done)))) | (with_reducible intro x hx) | omega) <;> (try simp only [rowsU_len, rowsP_len, rowsD_len, e0, Nat.reduceBEq, argEnv, reduceIte, Nat.reduceAdd, reduceCtorEq, binD, binInt, pickD, faddrD, lenD, loadD, D.cells, D.ok, D.one, D.pt1, D.pt0, D.norm1, cond_true, cond_false, ne_eq, view, view2, view1, view0, ofRes, fw]))
 refine Run_loop (ι := {i : Nat // i ≤ a.us.length ∧ a.us.take i = b.us.take i}) (fun i => ([(2, .ptr 0 0 0 1), (3, .ptr 1 0 0 1), (42, .int .i64 a.us.length), (43, .int .i64 i.1)], [⟨true, false, true, false, 4, [a.cells], some 0⟩, ⟨true, false, true, false, 4, [b.cells], some 0⟩])) (fun i => a.us.length - i.1) ⟨0, by simp⟩ ?_ ?_
 ·simp only [Sta.cells, e0]
  refine Ent_gc [0, 1] (by rfl) (by simp) (by simp [keptW, ObKW, ObW, imp_self, pullOb, or_false]) (by simp [lk_hit, lk_miss, D.pt0, viewS_own', pull, pull2, pull1, pull0, idx_hit, idx_miss, sucO_some, gate, List.mem_cons, or_false, view0])
 rintro ⟨i, hi, ht⟩ hk
 dsimp only at hk ⊢
 by_cases hlt : i < a.us.length
 ·have c2 : ((i : Int) < (a.us.length : Int)) = True := by simp; omega
  obtain ⟨x, hx⟩ : ∃ x, a.us[i]? = some x := ⟨_, List.getElem?_eq_getElem hlt⟩
  obtain ⟨y, hy⟩ : ∃ y, b.us[i]? = some y := ⟨_, List.getElem?_eq_getElem (by omega)⟩
  have rx := rowsU_get hx
  have ry := rowsU_get hy
  have q2 := sameUs_p x y (a4 _ (List.mem_of_getElem? hx)) (b4 _ (List.mem_of_getElem? hy))
  simp only [Us.row] at q2
  by_cases hxy : x = y
  ·have c3 : decide (x = y) = true := by simpa using hxy
   repeat' ((first | apply Run_seq | apply Run_skip | apply Run_block | apply Run_blk | refine Run_exit rfl ?_ | apply Run_ret | apply Run_nil | apply Run_condK | apply Run_ops mixed | apply Run_opsX mixed | with_reducible refine PostV_open ?_ | with_reducible refine ro_callVX ?_ | refine CallV_pure (q2) ?_ ?_ | simp (disch := omega) only [w64] | ((first | refine GuardK_split ?_ ?_ | refine CondK_split ?_ ?_) <;> intro hc <;> (try simp only [hc]) <;> try simp at hc) | (with_reducible refine And.intro ?_ ?_; (focus ((repeat' (with_reducible refine And.intro ?_ ?_)) <;> first | exact trivial | assumption | (simp; done) | (simp only [List.length_map] at *; omega) | omega | (simp [D.cells, D.ok, D.one, D.pt, D.pt1]; done)))) | (with_reducible intro x hx) | omega) <;> (try simp only [rowsU_len, c2, c3, rx, ry, Sta.cells, Us.row, Nat.reduceBEq, reduceIte, Nat.reduceAdd, binD, binInt, okD, unD, faddrD, loadD, D.pt, D.pt1, D.pt0, D.norm1, Int.reduceNeg, IntKind.bits, view, view2, view1, view0, mapO, D.sc, D.sc1, D.sc2, fw]))
   refine hk ⟨i + 1, by omega, eq_step ht hx hy hxy⟩ _ _ (by dsimp only; omega) ?_
   dsimp only [Sta.cells]
   refine Ent_gc [0, 1] (by rfl) (by simp) (by simp [keptW, ObKW, ObW, imp_self, pullOb, or_false]) (by simp [lk_hit, lk_miss, D.pt0, viewS_own', pull, pull2, pull1, pull0, idx_hit, idx_miss, sucO_some, gate, List.mem_cons, or_false, view0])
  ·have c3 : decide (x = y) = false := by simpa using hxy
   have e : decide (a = b) = false := by
    have := eq_no hx hy hxy
    simp only [decide_eq_false_iff_not] at this ⊢
    exact fun h => this (by rw [h])
   rw [e]
   repeat' ((first | apply Run_seq | apply Run_skip | apply Run_block | apply Run_blk | refine Run_exit rfl ?_ | apply Run_ret | apply Run_nil | apply Run_condK | apply Run_ops mixed | apply Run_opsX mixed | with_reducible refine PostV_open ?_ | with_reducible refine ro_callVX ?_ | refine CallV_pure (q2) ?_ ?_ | simp (disch := omega) only [w64, wu64, wu32, wu16, wu8, Int.tdiv_eq_ediv_of_nonneg, Int.tmod_eq_emod_of_nonneg] | ((first | refine GuardK_split ?_ ?_ | refine CondK_split ?_ ?_) <;> intro hc <;> (try simp only [hc]) <;> try simp at hc) | (with_reducible refine And.intro ?_ ?_; (focus ((repeat' (with_reducible refine And.intro ?_ ?_)) <;> first | exact trivial | assumption | (simp; done) | (simp only [List.length_map] at *; omega) | omega | (simp [D.cells, D.ok, D.one, D.pt, D.pt1]; done)))) | (with_reducible intro x hx) | omega) <;> (try simp only [rowsU_len, c2, c3, rx, ry, Sta.cells, Us.row, Nat.reduceBEq, reduceIte, Nat.reduceAdd, binD, binInt, okD, unD, faddrD, loadD, D.pt, D.pt1, D.pt0, D.norm1, Int.reduceNeg, IntKind.bits, view, view2, view1, view0, mapO, D.sc, D.sc1, D.sc2, ofRes, fw]))
 ·have c2 : ((i : Int) < (a.us.length : Int)) = False := by simp; omega
  have q_us : a.us = b.us := by simpa using eq_end ht hlt hl0
  clear hk ht hlt hi
  repeat' ((first | apply Run_seq | apply Run_skip | apply Run_block | apply Run_blk | refine Run_exit rfl ?_ | apply Run_ret | apply Run_nil | apply Run_condK | apply Run_ops mixed | apply Run_opsX mixed | with_reducible refine PostV_open ?_ | with_reducible refine ro_callVX ?_ | simp (disch := omega) only [w64, wu64, wu32, wu16, wu8, Int.tdiv_eq_ediv_of_nonneg, Int.tmod_eq_emod_of_nonneg] | ((first | refine GuardK_split ?_ ?_ | refine CondK_split ?_ ?_) <;> intro hc <;> (try simp only [hc]) <;> try simp at hc) | (with_reducible refine And.intro ?_ ?_; (focus ((repeat' (with_reducible refine And.intro ?_ ?_)) <;> first | exact trivial | assumption | (simp; done) | (simp only [List.length_map] at *; omega) | omega | (simp [D.cells, D.ok, D.one, D.pt, D.pt1]; done)))) | (with_reducible intro x hx) | omega) <;> (try simp only [rowsP_len, c2, Sta.cells, Nat.reduceBEq, reduceIte, binD, binInt, faddrD, lenD, loadD, fw]))
  clear c2
  refine Run_loop (ι := {i : Nat // i ≤ a.ps.length ∧ a.ps.take i = b.ps.take i}) (fun i => ([(2, .ptr 0 0 0 1), (3, .ptr 1 0 0 1), (61, .int .i64 a.ps.length), (62, .int .i64 i.1)], [⟨true, false, true, false, 4, [a.cells], some 0⟩, ⟨true, false, true, false, 4, [b.cells], some 0⟩])) (fun i => a.ps.length - i.1) ⟨0, by simp⟩ ?_ ?_
  ·dsimp only [Sta.cells]
   refine Ent_gc [0, 1] (by rfl) (by simp) (by simp [keptW, ObKW, ObW, imp_self, pullOb, or_false]) (by simp [lk_hit, lk_miss, D.pt0, viewS_own', pull, pull2, pull1, pull0, idx_hit, idx_miss, sucO_some, gate, List.mem_cons, or_false, view0])
  rintro ⟨i, hi, ht⟩ hk
  dsimp only at hk ⊢
  by_cases hlt : i < a.ps.length
  ·have c2 : ((i : Int) < (a.ps.length : Int)) = True := by simp; omega
   obtain ⟨x, hx⟩ : ∃ x, a.ps[i]? = some x := ⟨_, List.getElem?_eq_getElem hlt⟩
   obtain ⟨y, hy⟩ : ∃ y, b.ps[i]? = some y := ⟨_, List.getElem?_eq_getElem (by omega)⟩
   have rx := rowsP_get hx
   have ry := rowsP_get hy
   have q2 := samePo_p x y (a5 _ (List.mem_of_getElem? hx)) (b5 _ (List.mem_of_getElem? hy))
   simp only [Po.row] at q2
   by_cases hxy : x = y
   ·have c3 : decide (x = y) = true := by simpa using hxy
    repeat' ((first | apply Run_seq | apply Run_skip | apply Run_block | apply Run_blk | refine Run_exit rfl ?_ | apply Run_ret | apply Run_nil | apply Run_condK | apply Run_ops mixed | apply Run_opsX mixed | with_reducible refine PostV_open ?_ | with_reducible refine ro_callVX ?_ | refine CallV_pure (q2) ?_ ?_ | simp (disch := omega) only [w64] | ((first | refine GuardK_split ?_ ?_ | refine CondK_split ?_ ?_) <;> intro hc <;> (try simp only [hc]) <;> try simp at hc) | (with_reducible refine And.intro ?_ ?_; (focus ((repeat' (with_reducible refine And.intro ?_ ?_)) <;> first | exact trivial | assumption | (simp; done) | (simp only [List.length_map] at *; omega) | omega | (simp [D.cells, D.ok, D.one, D.pt, D.pt1]; done)))) | (with_reducible intro x hx) | omega) <;> (try simp only [rowsP_len, c2, c3, rx, ry, Sta.cells, Po.row, Nat.reduceBEq, reduceIte, Nat.reduceAdd, binD, binInt, okD, unD, faddrD, loadD, D.pt, D.pt1, D.pt0, D.norm1, Int.reduceNeg, IntKind.bits, view, view2, view1, view0, mapO, D.sc, D.sc1, D.sc2, fw]))
    refine hk ⟨i + 1, by omega, eq_step ht hx hy hxy⟩ _ _ (by dsimp only; omega) ?_
    dsimp only [Sta.cells]
    refine Ent_gc [0, 1] (by rfl) (by simp) (by simp [keptW, ObKW, ObW, imp_self, pullOb, or_false]) (by simp [lk_hit, lk_miss, D.pt0, viewS_own', pull, pull2, pull1, pull0, idx_hit, idx_miss, sucO_some, gate, List.mem_cons, or_false, view0])
   ·have c3 : decide (x = y) = false := by simpa using hxy
    have e : decide (a = b) = false := by
     have := eq_no hx hy hxy
     simp only [decide_eq_false_iff_not] at this ⊢
     exact fun h => this (by rw [h])
    rw [e]
    repeat' ((first | apply Run_seq | apply Run_skip | apply Run_block | apply Run_blk | refine Run_exit rfl ?_ | apply Run_ret | apply Run_nil | apply Run_condK | apply Run_ops mixed | apply Run_opsX mixed | with_reducible refine PostV_open ?_ | with_reducible refine ro_callVX ?_ | refine CallV_pure (q2) ?_ ?_ | simp (disch := omega) only [w64, wu64, wu32, wu16, wu8, Int.tdiv_eq_ediv_of_nonneg, Int.tmod_eq_emod_of_nonneg] | ((first | refine GuardK_split ?_ ?_ | refine CondK_split ?_ ?_) <;> intro hc <;> (try simp only [hc]) <;> try simp at hc) | (with_reducible refine And.intro ?_ ?_; (focus ((repeat' (with_reducible refine And.intro ?_ ?_)) <;> first | exact trivial | assumption | (simp; done) | (simp only [List.length_map] at *; omega) | omega | (simp [D.cells, D.ok, D.one, D.pt, D.pt1]; done)))) | (with_reducible intro x hx) | omega) <;> (try simp only [rowsP_len, c2, c3, rx, ry, Sta.cells, Po.row, Nat.reduceBEq, reduceIte, Nat.reduceAdd, binD, binInt, okD, unD, faddrD, loadD, D.pt, D.pt1, D.pt0, D.norm1, Int.reduceNeg, IntKind.bits, view, view2, view1, view0, mapO, D.sc, D.sc1, D.sc2, ofRes, fw]))
  ·have c2 : ((i : Int) < (a.ps.length : Int)) = False := by simp; omega
   have q_ps : a.ps = b.ps := by simpa using eq_end ht hlt hl1
   clear hk ht hlt hi
   repeat' ((first | apply Run_seq | apply Run_skip | apply Run_block | apply Run_blk | refine Run_exit rfl ?_ | apply Run_ret | apply Run_nil | apply Run_condK | apply Run_ops mixed | apply Run_opsX mixed | with_reducible refine PostV_open ?_ | with_reducible refine ro_callVX ?_ | simp (disch := omega) only [w64, wu64, wu32, wu16, wu8, Int.tdiv_eq_ediv_of_nonneg, Int.tmod_eq_emod_of_nonneg] | ((first | refine GuardK_split ?_ ?_ | refine CondK_split ?_ ?_) <;> intro hc <;> (try simp only [hc]) <;> try simp at hc) | (with_reducible refine And.intro ?_ ?_; (focus ((repeat' (with_reducible refine And.intro ?_ ?_)) <;> first | exact trivial | assumption | (simp; done) | (simp only [List.length_map] at *; omega) | omega | (simp [D.cells, D.ok, D.one, D.pt, D.pt1]; done)))) | (with_reducible intro x hx) | omega) <;> (try simp only [rowsD_len, c2, Sta.cells, Nat.reduceBEq, reduceIte, binD, binInt, faddrD, lenD, loadD, fw]))
   clear c2
   refine Run_loop (ι := {i : Nat // i ≤ a.ds.length ∧ a.ds.take i = b.ds.take i}) (fun i => ([(2, .ptr 0 0 0 1), (3, .ptr 1 0 0 1), (80, .int .i64 a.ds.length), (81, .int .i64 i.1)], [⟨true, false, true, false, 4, [a.cells], some 0⟩, ⟨true, false, true, false, 4, [b.cells], some 0⟩])) (fun i => a.ds.length - i.1) ⟨0, by simp⟩ ?_ ?_
   ·dsimp only [Sta.cells]
    refine Ent_gc [0, 1] (by rfl) (by simp) (by simp [keptW, ObKW, ObW, imp_self, pullOb, or_false]) (by simp [lk_hit, lk_miss, D.pt0, viewS_own', pull, pull2, pull1, pull0, idx_hit, idx_miss, sucO_some, gate, List.mem_cons, or_false, view0])
   rintro ⟨i, hi, ht⟩ hk
   dsimp only at hk ⊢
   by_cases hlt : i < a.ds.length
   ·have c2 : ((i : Int) < (a.ds.length : Int)) = True := by simp; omega
    obtain ⟨x, hx⟩ : ∃ x, a.ds[i]? = some x := ⟨_, List.getElem?_eq_getElem hlt⟩
    obtain ⟨y, hy⟩ : ∃ y, b.ds[i]? = some y := ⟨_, List.getElem?_eq_getElem (by omega)⟩
    have rx := rowsDn_get hx
    have ry := rowsDn_get hy
    have q2 := bD (x := x) (y := y)
    by_cases hxy : x = y
    ·have c3 : decide (x = y) = true := by simpa using hxy
     repeat' ((first | apply Run_seq | apply Run_skip | apply Run_block | apply Run_blk | refine Run_exit rfl ?_ | apply Run_ret | apply Run_nil | apply Run_condK | apply Run_ops mixed | apply Run_opsX mixed | with_reducible refine PostV_open ?_ | with_reducible refine ro_callVX ?_ | simp (disch := omega) only [w64] | ((first | refine GuardK_split ?_ ?_ | refine CondK_split ?_ ?_) <;> intro hc <;> (try simp only [hc]) <;> try simp at hc) | (with_reducible refine And.intro ?_ ?_; (focus ((repeat' (with_reducible refine And.intro ?_ ?_)) <;> first | exact trivial | assumption | (simp; done) | (simp only [List.length_map] at *; omega) | omega | (simp [D.cells, D.ok, D.one, D.pt, D.pt1]; done)))) | (with_reducible intro x hx) | omega) <;> (try simp only [rowsD_len, c2, q2, c3, rx, ry, Sta.cells, Nat.reduceBEq, reduceIte, Nat.reduceAdd, binD, binInt, eqD, eqCell, eqCells, eqN, boolD, faddrD, loadD, cond_true, fw]))
     refine hk ⟨i + 1, by omega, eq_step ht hx hy hxy⟩ _ _ (by dsimp only; omega) ?_
     dsimp only [Sta.cells]
     refine Ent_gc [0, 1] (by rfl) (by simp) (by simp [keptW, ObKW, ObW, imp_self, pullOb, or_false]) (by simp [lk_hit, lk_miss, D.pt0, viewS_own', pull, pull2, pull1, pull0, idx_hit, idx_miss, sucO_some, gate, List.mem_cons, or_false, view0])
    ·have c3 : decide (x = y) = false := by simpa using hxy
     have e : decide (a = b) = false := by
      have := eq_no hx hy hxy
      simp only [decide_eq_false_iff_not] at this ⊢
      exact fun h => this (by rw [h])
     rw [e]
     repeat' ((first | apply Run_seq | apply Run_skip | apply Run_block | apply Run_blk | refine Run_exit rfl ?_ | apply Run_ret | apply Run_nil | apply Run_condK | apply Run_ops mixed | apply Run_opsX mixed | with_reducible refine PostV_open ?_ | with_reducible refine ro_callVX ?_ | simp (disch := omega) only [w64, wu64, wu32, wu16, wu8, Int.tdiv_eq_ediv_of_nonneg, Int.tmod_eq_emod_of_nonneg] | ((first | refine GuardK_split ?_ ?_ | refine CondK_split ?_ ?_) <;> intro hc <;> (try simp only [hc]) <;> try simp at hc) | (with_reducible refine And.intro ?_ ?_; (focus ((repeat' (with_reducible refine And.intro ?_ ?_)) <;> first | exact trivial | assumption | (simp; done) | (simp only [List.length_map] at *; omega) | omega | (simp [D.cells, D.ok, D.one, D.pt, D.pt1]; done)))) | (with_reducible intro x hx) | omega) <;> (try simp only [rowsD_len, c2, q2, c3, rx, ry, Sta.cells, Nat.reduceBEq, reduceIte, Nat.reduceAdd, binD, binInt, eqD, eqCell, eqCells, eqN, boolD, faddrD, loadD, D.pt0, D.norm1, cond_true, view, view2, view1, view0, ofRes, fw]))
   ·have c2 : ((i : Int) < (a.ds.length : Int)) = False := by simp; omega
    have q_ds : a.ds = b.ds := by simpa using eq_end ht hlt hl2
    clear hk ht hlt hi
    have e6 : decide (a = b) = true := by
     rw [Bool.eq_iff_iff]; simp [Sta.eq_iff, e0, q_us, q_ps, q_ds]
    rw [e6]
    repeat' ((first | apply Run_seq | apply Run_skip | apply Run_block | apply Run_blk | refine Run_exit rfl ?_ | apply Run_ret | apply Run_nil | apply Run_condK | apply Run_ops mixed | apply Run_opsX mixed | with_reducible refine PostV_open ?_ | with_reducible refine ro_callVX ?_ | simp (disch := omega) only [w64, wu64, wu32, wu16, wu8, Int.tdiv_eq_ediv_of_nonneg, Int.tmod_eq_emod_of_nonneg] | ((first | refine GuardK_split ?_ ?_ | refine CondK_split ?_ ?_) <;> intro hc <;> (try simp only [hc]) <;> try simp at hc) | (with_reducible refine And.intro ?_ ?_; (focus ((repeat' (with_reducible refine And.intro ?_ ?_)) <;> first | exact trivial | assumption | (simp; done) | (simp only [List.length_map] at *; omega) | omega | (simp [D.cells, D.ok, D.one, D.pt, D.pt1]; done)))) | (with_reducible intro x hx) | omega) <;> (try simp only [c2, Sta.cells, Nat.reduceBEq, reduceIte, binD, binInt, D.pt0, D.norm1, view, view2, view1, view0, ofRes, fw]))
end Go.Proofs.Ytoleaiaeghbffaa

namespace Go.Proofs.Ytoleaiaeghbffaa
open Go Go.Vi


/-- Do users, and each one's events, rise? -/
def risU (us : List Us) : Bool := decide (us.Pairwise fun a b => a.id < b.id) && us.all fun u => decide (u.evs.Pairwise fun a b => a.id < b.id)
theorem risU_iff {us : List Us} : risU us = true ↔ (us.Pairwise fun a b => a.id < b.id) ∧ ∀ u ∈ us, u.evs.Pairwise fun a b => a.id < b.id := by
 simp [risU]
theorem risU_evs {us : List Us} {u : Us} (hu : u ∈ us) (h : ¬ u.evs.Pairwise fun a b => a.id < b.id) : risU us = false := by
 cases hr : risU us with
 | false => rfl
 | true => exact absurd ((risU_iff.1 hr).2 u hu) h
theorem risU_us {us : List Us} (h : ¬ us.Pairwise fun a b => a.id < b.id) : risU us = false := by
 cases hr : risU us with
 | false => rfl
 | true => exact absurd (risU_iff.1 hr).1 h
theorem ris_step {α : Type} {f : α → Int} {l : List α} {i : Nat} {x y : α} (h : (l.take (i + 1)).Pairwise fun a b => f a < f b) (hx : l[i]? = some x) (hy : l[i + 1]? = some y) (hxy : f x < f y) : (l.take (i + 1 + 1)).Pairwise fun a b => f a < f b := by
 have e1 : l.take (i + 1 + 1) = l.take (i + 1) ++ [y] := by rw [List.take_add_one (i := i + 1), hy]; rfl
 have e2 : l.take (i + 1) = l.take i ++ [x] := by rw [List.take_add_one, hx]; rfl
 rw [e1, List.pairwise_append]
 refine ⟨h, by simp, fun a ha b hb => ?_⟩
 simp at hb; subst hb
 rw [e2] at ha h
 rcases List.mem_append.1 ha with h' | h'
 ·have := (List.pairwise_append.1 h).2.2 a h' x (by simp); omega
 ·simp at h'; subst h'; exact hxy
theorem ris_no {α : Type} {f : α → Int} {l : List α} {i : Nat} {x y : α} (hx : l[i]? = some x) (hy : l[i + 1]? = some y) (hxy : ¬ f x < f y) : ¬ l.Pairwise fun a b => f a < f b := fun h => by
 obtain ⟨h1, rfl⟩ := List.getElem?_eq_some_iff.1 hx
 obtain ⟨h2, rfl⟩ := List.getElem?_eq_some_iff.1 hy
 exact hxy (List.pairwise_iff_getElem.1 h i (i + 1) h1 h2 (Nat.lt_succ_self i))
set_option maxHeartbeats 4000000 in
theorem rises17_p (t : Int) (us : List Us) (ps : List Po) (ds : List Dn) (hl : us.length ≤ 1407374883512) (hle : ∀ u ∈ us, u.evs.length ≤ 140737488351232) : PureD Try.prog 19 [St t us ps ds] (.bool (risU us)) := by
 refine pureV Try.func19 low19 (by simp [c19]) ?_
 simp only [c19, St]
 repeat' ((first | apply Run_seq | apply Run_skip | apply Run_block | apply Run_blk | refine Run_exit rfl ?_ | apply Run_ret | apply Run_nil | apply Run_condK | apply Run_ops mixed | apply Run_opsX mixed | with_reducible refine PostV_open ?_ | simp (disch := omega) only [w64, wu64, wu32, wu16, wu8, Int.tdiv_eq_ediv_of_nonneg, Int.tmod_eq_emod_of_nonneg] | ((first | refine GuardK_split ?_ ?_ | refine CondK_split ?_ ?_) <;> intro hc <;> (try simp only [hc]) <;> try simp at hc) | (with_reducible refine And.intro ?_ ?_; (focus ((repeat' (with_reducible refine And.intro ?_ ?_)) <;> first | exact trivial | assumption | (simp; done) | (simp only [List.length_map] at *; omega) | omega | (simp [D.cells, D.ok, D.one, D.pt, D.pt1]; done)))) | (with_reducible intro x hx) | omega) <;> (try simp only [rowsU_len, Nat.reduceBEq, argEnv, Nat.reduceAdd, reduceCtorEq, faddrD, lenD, loadD, D.cells, D.ok, D.one, D.pt1, ne_eq, fw]))
 refine Run_loop (ι := {i : Nat // i ≤ us.length ∧ ((us.take i).Pairwise fun a b => a.id < b.id) ∧ ∀ u ∈ us.take i, u.evs.Pairwise fun a b => a.id < b.id}) (fun i => ([(1, .ptr 0 0 0 1), (8, .int .i64 us.length), (9, .int .i64 i.1)], [⟨true, false, true, false, 4, [[.int .i64 t, L (rowsU us), L (rowsP ps), L (rowsD ds)]], some 0⟩])) (fun i => us.length - i.1) ⟨0, by simp⟩ ?_ ?_
 ·refine Ent_gc [0] (by rfl) (by simp) (by simp [keptW, ObKW, ObW, imp_self, pullOb, or_false]) (by simp [lk_hit, lk_miss, D.pt0, viewS_own', pull, pull2, pull1, pull0, idx_hit, gate, List.mem_cons, or_false, view0])
 rintro ⟨i, hi, hp, hall⟩ hk
 dsimp only at hk ⊢
 by_cases hlt : i < us.length
 ·have c1 : ((i : Int) < (us.length : Int)) = True := by simp; omega
  obtain ⟨u, hu⟩ : ∃ u, us[i]? = some u := ⟨_, List.getElem?_eq_getElem hlt⟩
  have hr := rowsU_get hu
  have hleu := hle u (List.mem_of_getElem? hu)
  cases i with
  | zero =>
   repeat' ((first | apply Run_seq | apply Run_skip | apply Run_block | apply Run_blk | refine Run_exit rfl ?_ | apply Run_ret | apply Run_nil | apply Run_condK | apply Run_ops mixed | apply Run_opsX mixed | with_reducible refine PostV_open ?_ | simp (disch := omega) only [w64, wu64, wu32, wu16, wu8, Int.tdiv_eq_ediv_of_nonneg, Int.tmod_eq_emod_of_nonneg] | ((first | refine GuardK_split ?_ ?_ | refine CondK_split ?_ ?_) <;> intro hc <;> (try simp only [hc]) <;> try simp at hc) | (with_reducible refine And.intro ?_ ?_; (focus ((repeat' (with_reducible refine And.intro ?_ ?_)) <;> first | exact trivial | assumption | (simp; done) | (simp only [List.length_map] at *; omega) | omega | (simp [D.cells, D.ok, D.one, D.pt, D.pt1]; done)))) | (with_reducible intro x hx) | omega) <;> (try simp only [rowsE_len, rowsU_len, c1, hr, Us.row, Nat.reduceBEq, reduceIte, Nat.reduceAdd, binD, binInt, binStr, pickD, faddrD, lenD, loadD, cond_false, fw]))
   refine Run_loop (ι := {j : Nat // j ≤ u.evs.length ∧ (u.evs.take j).Pairwise fun a b => a.id < b.id}) (fun j => ([(1, .ptr 0 0 0 1), (8, .int .i64 us.length), (9, .int .i64 ((0 : Nat) : Int)), (4, L (rowsE u.evs)), (37, .int .i64 u.evs.length), (38, .int .i64 j.1)], [⟨true, false, true, false, 4, [[.int .i64 t, L (rowsU us), L (rowsP ps), L (rowsD ds)]], some 0⟩])) (fun j => u.evs.length - j.1) ⟨0, by simp⟩ ?_ ?_
   ·refine Ent_gc [0] (by rfl) (by simp) (by simp [keptW, ObKW, ObW, imp_self, pullOb, or_false]) (by simp [lk_hit, lk_miss, D.pt0, viewS_own', pull, pull2, pull1, pull0, idx_hit, gate, List.mem_cons, or_false, view0])
   rintro ⟨j, hj, hpj⟩ hkj
   dsimp only at hkj ⊢
   by_cases hltj : j < u.evs.length
   ·have c6 : ((j : Int) < (u.evs.length : Int)) = True := by simp; omega
    obtain ⟨v, hv⟩ : ∃ v, u.evs[j]? = some v := ⟨_, List.getElem?_eq_getElem hltj⟩
    have hrv := rowsE_get hv
    cases j with
    | zero =>
     repeat' ((first | apply Run_seq | apply Run_skip | apply Run_block | apply Run_blk | refine Run_exit rfl ?_ | apply Run_ret | apply Run_nil | apply Run_condK | apply Run_ops mixed | apply Run_opsX mixed | with_reducible refine PostV_open ?_ | simp (disch := omega) only [w64] | ((first | refine GuardK_split ?_ ?_ | refine CondK_split ?_ ?_) <;> intro hc <;> (try simp only [hc]) <;> try simp at hc) | (with_reducible refine And.intro ?_ ?_; (focus ((repeat' (with_reducible refine And.intro ?_ ?_)) <;> first | exact trivial | assumption | (simp; done) | (simp only [List.length_map] at *; omega) | omega | (simp [D.cells, D.ok, D.one, D.pt, D.pt1]; done)))) | (with_reducible intro x hx) | omega) <;> (try simp only [c6, Nat.reduceBEq, reduceIte, binD, binInt, binStr, pickD, cond_false, fw]))
     refine hkj ⟨1, by omega, by rw [List.take_add_one, hv]; simp⟩ _ _ (by dsimp only; omega) ?_
     dsimp only
     refine Ent_gc [0] (by rfl) (by simp) (by simp [keptW, ObKW, ObW, imp_self, pullOb, or_false]) (by simp [lk_hit, lk_miss, D.pt0, viewS_own', pull, pull2, pull1, pull0, idx_hit, gate, List.mem_cons, or_false, view0])
    | succ j =>
     obtain ⟨w, hw⟩ : ∃ w, u.evs[j]? = some w := ⟨_, List.getElem?_eq_getElem (by omega)⟩
     have hrw := rowsE_get hw
     have c7 : (((j + 1 : Nat) : Int) > 0) = True := by rw [eq_iff_iff]; exact ⟨fun _ => trivial, fun _ => by omega⟩
     have c8 : (((j + 1 : Nat) : Int) - 1) = (j : Int) := by omega
     by_cases hlt2 : w.id < v.id
     ·have c9 : (w.id ≥ v.id) = False := by simp; omega
      repeat' ((first | apply Run_seq | apply Run_skip | apply Run_block | apply Run_blk | refine Run_exit rfl ?_ | apply Run_ret | apply Run_nil | apply Run_condK | apply Run_ops mixed | apply Run_opsX mixed | with_reducible refine PostV_open ?_ | simp (disch := omega) only [w64] | ((first | refine GuardK_split ?_ ?_ | refine CondK_split ?_ ?_) <;> intro hc <;> (try simp only [hc]) <;> try simp at hc) | (with_reducible refine And.intro ?_ ?_; (focus ((repeat' (with_reducible refine And.intro ?_ ?_)) <;> first | exact trivial | assumption | (simp; done) | (simp only [List.length_map] at *; omega) | omega | (simp [D.cells, D.ok, D.one, D.pt, D.pt1]; done)))) | (with_reducible intro x hx) | omega) <;> (try simp only [rowsE_len, c6, c7, c8, c9, hrv, hrw, En.row, Nat.reduceBEq, reduceIte, Nat.reduceAdd, binD, binInt, binStr, pickD, faddrD, loadD, cond_true, fw]))
      refine hkj ⟨j + 1 + 1, by omega, ris_step hpj hw hv hlt2⟩ _ _ (by dsimp only; omega) ?_
      dsimp only
      refine Ent_gc [0] (by rfl) (by simp) (by simp [keptW, ObKW, ObW, imp_self, pullOb, or_false]) (by simp [lk_hit, lk_miss, D.pt0, viewS_own', pull, pull2, pull1, pull0, idx_hit, gate, List.mem_cons, or_false, view0])
     ·have c9 : (w.id ≥ v.id) = True := by simp; omega
      have e : risU us = false := risU_evs (List.mem_of_getElem? hu) (ris_no hw hv hlt2)
      rw [e]
      repeat' ((first | apply Run_seq | apply Run_skip | apply Run_block | apply Run_blk | refine Run_exit rfl ?_ | apply Run_ret | apply Run_nil | apply Run_condK | apply Run_ops mixed | apply Run_opsX mixed | with_reducible refine PostV_open ?_ | simp (disch := omega) only [w64] | ((first | refine GuardK_split ?_ ?_ | refine CondK_split ?_ ?_) <;> intro hc <;> (try simp only [hc]) <;> try simp at hc) | (with_reducible refine And.intro ?_ ?_; (focus ((repeat' (with_reducible refine And.intro ?_ ?_)) <;> first | exact trivial | assumption | (simp; done) | (simp only [List.length_map] at *; omega) | omega | (simp [D.cells, D.ok, D.one, D.pt, D.pt1]; done)))) | (with_reducible intro x hx) | omega) <;> (try simp only [rowsE_len, c6, c7, c8, c9, hrv, hrw, En.row, Nat.reduceBEq, reduceIte, Nat.reduceAdd, binD, binInt, binStr, pickD, faddrD, loadD, D.pt0, D.norm1, cond_true, view, view2, view1, view0, ofRes, fw]))
   ·have c6 : ((j : Int) < (u.evs.length : Int)) = False := by simp; omega
    have hue : u.evs.Pairwise fun a b => a.id < b.id := by rw [List.take_of_length_le (by omega)] at hpj; exact hpj
    repeat' ((first | apply Run_seq | apply Run_skip | apply Run_block | apply Run_blk | refine Run_exit rfl ?_ | apply Run_ret | apply Run_nil | apply Run_condK | apply Run_ops mixed | apply Run_opsX mixed | with_reducible refine PostV_open ?_ | simp (disch := omega) only [w64] | ((first | refine GuardK_split ?_ ?_ | refine CondK_split ?_ ?_) <;> intro hc <;> (try simp only [hc]) <;> try simp at hc) | (with_reducible refine And.intro ?_ ?_; (focus ((repeat' (with_reducible refine And.intro ?_ ?_)) <;> first | exact trivial | assumption | (simp; done) | (simp only [List.length_map] at *; omega) | omega | (simp [D.cells, D.ok, D.one, D.pt, D.pt1]; done)))) | (with_reducible intro x hx) | omega) <;> (try simp only [c6, Nat.reduceBEq, reduceIte, binD, binInt, fw]))
    refine hk ⟨1, by omega, by rw [List.take_add_one, hu]; simp, fun u' hu' => ?_⟩ _ _ (by dsimp only; omega) ?_
    ·rw [List.take_add_one, hu] at hu'
     rcases List.mem_append.1 hu' with h | h
     ·exact hall u' h
     ·simp at h; rw [h]; exact hue
    dsimp only
    refine Ent_gc [0] (by rfl) (by simp) (by simp [keptW, ObKW, ObW, imp_self, pullOb, or_false]) (by simp [lk_hit, lk_miss, D.pt0, viewS_own', pull, pull2, pull1, pull0, idx_hit, gate, List.mem_cons, or_false, view0])
  | succ i =>
   obtain ⟨p, hpu⟩ : ∃ p, us[i]? = some p := ⟨_, List.getElem?_eq_getElem (by omega)⟩
   have hrp := rowsU_get hpu
   have c2 : (((i + 1 : Nat) : Int) > 0) = True := by rw [eq_iff_iff]; exact ⟨fun _ => trivial, fun _ => by omega⟩
   have c3 : (((i + 1 : Nat) : Int) - 1) = (i : Int) := by omega
   by_cases hlt1 : p.id < u.id
   ·have c4 : (p.id ≥ u.id) = False := by simp; omega
    repeat' ((first | apply Run_seq | apply Run_skip | apply Run_block | apply Run_blk | refine Run_exit rfl ?_ | apply Run_ret | apply Run_nil | apply Run_condK | apply Run_ops mixed | apply Run_opsX mixed | with_reducible refine PostV_open ?_ | simp (disch := omega) only [w64] | ((first | refine GuardK_split ?_ ?_ | refine CondK_split ?_ ?_) <;> intro hc <;> (try simp only [hc]) <;> try simp at hc) | (with_reducible refine And.intro ?_ ?_; (focus ((repeat' (with_reducible refine And.intro ?_ ?_)) <;> first | exact trivial | assumption | (simp; done) | (simp only [List.length_map] at *; omega) | omega | (simp [D.cells, D.ok, D.one, D.pt, D.pt1]; done)))) | (with_reducible intro x hx) | omega) <;> (try simp only [rowsE_len, rowsU_len, c1, c2, c3, c4, hr, hrp, Us.row, Nat.reduceBEq, reduceIte, Nat.reduceAdd, binD, binInt, binStr, pickD, faddrD, lenD, loadD, cond_true, fw]))
    refine Run_loop (ι := {j : Nat // j ≤ u.evs.length ∧ (u.evs.take j).Pairwise fun a b => a.id < b.id}) (fun j => ([(1, .ptr 0 0 0 1), (8, .int .i64 us.length), (9, .int .i64 ((i + 1 : Nat) : Int)), (4, L (rowsE u.evs)), (37, .int .i64 u.evs.length), (38, .int .i64 j.1)], [⟨true, false, true, false, 4, [[.int .i64 t, L (rowsU us), L (rowsP ps), L (rowsD ds)]], some 0⟩])) (fun j => u.evs.length - j.1) ⟨0, by simp⟩ ?_ ?_
    ·refine Ent_gc [0] (by rfl) (by simp) (by simp [keptW, ObKW, ObW, imp_self, pullOb, or_false]) (by simp [lk_hit, lk_miss, D.pt0, viewS_own', pull, pull2, pull1, pull0, idx_hit, gate, List.mem_cons, or_false, view0])
    rintro ⟨j, hj, hpj⟩ hkj
    dsimp only at hkj ⊢
    by_cases hltj : j < u.evs.length
    ·have c6 : ((j : Int) < (u.evs.length : Int)) = True := by simp; omega
     obtain ⟨v, hv⟩ : ∃ v, u.evs[j]? = some v := ⟨_, List.getElem?_eq_getElem hltj⟩
     have hrv := rowsE_get hv
     cases j with
     | zero =>
      repeat' ((first | apply Run_seq | apply Run_skip | apply Run_block | apply Run_blk | refine Run_exit rfl ?_ | apply Run_ret | apply Run_nil | apply Run_condK | apply Run_ops mixed | apply Run_opsX mixed | with_reducible refine PostV_open ?_ | simp (disch := omega) only [w64] | ((first | refine GuardK_split ?_ ?_ | refine CondK_split ?_ ?_) <;> intro hc <;> (try simp only [hc]) <;> try simp at hc) | (with_reducible refine And.intro ?_ ?_; (focus ((repeat' (with_reducible refine And.intro ?_ ?_)) <;> first | exact trivial | assumption | (simp; done) | (simp only [List.length_map] at *; omega) | omega | (simp [D.cells, D.ok, D.one, D.pt, D.pt1]; done)))) | (with_reducible intro x hx) | omega) <;> (try simp only [c6, Nat.reduceBEq, reduceIte, binD, binInt, binStr, pickD, cond_false, fw]))
      refine hkj ⟨1, by omega, by rw [List.take_add_one, hv]; simp⟩ _ _ (by dsimp only; omega) ?_
      dsimp only
      refine Ent_gc [0] (by rfl) (by simp) (by simp [keptW, ObKW, ObW, imp_self, pullOb, or_false]) (by simp [lk_hit, lk_miss, D.pt0, viewS_own', pull, pull2, pull1, pull0, idx_hit, gate, List.mem_cons, or_false, view0])
     | succ j =>
      obtain ⟨w, hw⟩ : ∃ w, u.evs[j]? = some w := ⟨_, List.getElem?_eq_getElem (by omega)⟩
      have hrw := rowsE_get hw
      have c7 : (((j + 1 : Nat) : Int) > 0) = True := by rw [eq_iff_iff]; exact ⟨fun _ => trivial, fun _ => by omega⟩
      have c8 : (((j + 1 : Nat) : Int) - 1) = (j : Int) := by omega
      by_cases hlt2 : w.id < v.id
      ·have c9 : (w.id ≥ v.id) = False := by simp; omega
       repeat' ((first | apply Run_seq | apply Run_skip | apply Run_block | apply Run_blk | refine Run_exit rfl ?_ | apply Run_ret | apply Run_nil | apply Run_condK | apply Run_ops mixed | apply Run_opsX mixed | with_reducible refine PostV_open ?_ | simp (disch := omega) only [w64] | ((first | refine GuardK_split ?_ ?_ | refine CondK_split ?_ ?_) <;> intro hc <;> (try simp only [hc]) <;> try simp at hc) | (with_reducible refine And.intro ?_ ?_; (focus ((repeat' (with_reducible refine And.intro ?_ ?_)) <;> first | exact trivial | assumption | (simp; done) | (simp only [List.length_map] at *; omega) | omega | (simp [D.cells, D.ok, D.one, D.pt, D.pt1]; done)))) | (with_reducible intro x hx) | omega) <;> (try simp only [rowsE_len, c6, c7, c8, c9, hrv, hrw, En.row, Nat.reduceBEq, reduceIte, Nat.reduceAdd, binD, binInt, binStr, pickD, faddrD, loadD, cond_true, fw]))
       refine hkj ⟨j + 1 + 1, by omega, ris_step hpj hw hv hlt2⟩ _ _ (by dsimp only; omega) ?_
       dsimp only
       refine Ent_gc [0] (by rfl) (by simp) (by simp [keptW, ObKW, ObW, imp_self, pullOb, or_false]) (by simp [lk_hit, lk_miss, D.pt0, viewS_own', pull, pull2, pull1, pull0, idx_hit, gate, List.mem_cons, or_false, view0])
      ·have c9 : (w.id ≥ v.id) = True := by simp; omega
       have e : risU us = false := risU_evs (List.mem_of_getElem? hu) (ris_no hw hv hlt2)
       rw [e]
       repeat' ((first | apply Run_seq | apply Run_skip | apply Run_block | apply Run_blk | refine Run_exit rfl ?_ | apply Run_ret | apply Run_nil | apply Run_condK | apply Run_ops mixed | apply Run_opsX mixed | with_reducible refine PostV_open ?_ | simp (disch := omega) only [w64] | ((first | refine GuardK_split ?_ ?_ | refine CondK_split ?_ ?_) <;> intro hc <;> (try simp only [hc]) <;> try simp at hc) | (with_reducible refine And.intro ?_ ?_; (focus ((repeat' (with_reducible refine And.intro ?_ ?_)) <;> first | exact trivial | assumption | (simp; done) | (simp only [List.length_map] at *; omega) | omega | (simp [D.cells, D.ok, D.one, D.pt, D.pt1]; done)))) | (with_reducible intro x hx) | omega) <;> (try simp only [rowsE_len, c6, c7, c8, c9, hrv, hrw, En.row, Nat.reduceBEq, reduceIte, Nat.reduceAdd, binD, binInt, binStr, pickD, faddrD, loadD, D.pt0, D.norm1, cond_true, view, view2, view1, view0, ofRes, fw]))
    ·have c6 : ((j : Int) < (u.evs.length : Int)) = False := by simp; omega
     have hue : u.evs.Pairwise fun a b => a.id < b.id := by rw [List.take_of_length_le (by omega)] at hpj; exact hpj
     repeat' ((first | apply Run_seq | apply Run_skip | apply Run_block | apply Run_blk | refine Run_exit rfl ?_ | apply Run_ret | apply Run_nil | apply Run_condK | apply Run_ops mixed | apply Run_opsX mixed | with_reducible refine PostV_open ?_ | simp (disch := omega) only [w64] | ((first | refine GuardK_split ?_ ?_ | refine CondK_split ?_ ?_) <;> intro hc <;> (try simp only [hc]) <;> try simp at hc) | (with_reducible refine And.intro ?_ ?_; (focus ((repeat' (with_reducible refine And.intro ?_ ?_)) <;> first | exact trivial | assumption | (simp; done) | (simp only [List.length_map] at *; omega) | omega | (simp [D.cells, D.ok, D.one, D.pt, D.pt1]; done)))) | (with_reducible intro x hx) | omega) <;> (try simp only [c6, Nat.reduceBEq, reduceIte, binD, binInt, fw]))
     refine hk ⟨i + 1 + 1, by omega, ris_step hp hpu hu hlt1, fun u' hu' => ?_⟩ _ _ (by dsimp only; omega) ?_
     ·rw [List.take_add_one, hu] at hu'
      rcases List.mem_append.1 hu' with h | h
      ·exact hall u' h
      ·simp at h; rw [h]; exact hue
     dsimp only
     refine Ent_gc [0] (by rfl) (by simp) (by simp [keptW, ObKW, ObW, imp_self, pullOb, or_false]) (by simp [lk_hit, lk_miss, D.pt0, viewS_own', pull, pull2, pull1, pull0, idx_hit, gate, List.mem_cons, or_false, view0])
   ·have c4 : (p.id ≥ u.id) = True := by simp; omega
    have e : risU us = false := risU_us (ris_no hpu hu hlt1)
    rw [e]
    repeat' ((first | apply Run_seq | apply Run_skip | apply Run_block | apply Run_blk | refine Run_exit rfl ?_ | apply Run_ret | apply Run_nil | apply Run_condK | apply Run_ops mixed | apply Run_opsX mixed | with_reducible refine PostV_open ?_ | simp (disch := omega) only [w64] | ((first | refine GuardK_split ?_ ?_ | refine CondK_split ?_ ?_) <;> intro hc <;> (try simp only [hc]) <;> try simp at hc) | (with_reducible refine And.intro ?_ ?_; (focus ((repeat' (with_reducible refine And.intro ?_ ?_)) <;> first | exact trivial | assumption | (simp; done) | (simp only [List.length_map] at *; omega) | omega | (simp [D.cells, D.ok, D.one, D.pt, D.pt1]; done)))) | (with_reducible intro x hx) | omega) <;> (try simp only [rowsU_len, c1, c2, c3, c4, hr, hrp, Us.row, Nat.reduceBEq, reduceIte, Nat.reduceAdd, binD, binInt, binStr, pickD, faddrD, loadD, D.pt0, D.norm1, cond_true, view, view2, view1, view0, ofRes, fw]))
 ·have c1 : ((i : Int) < (us.length : Int)) = False := by simp; omega
  have e : risU us = true := by
   rw [List.take_of_length_le (by omega)] at hp hall
   exact risU_iff.2 ⟨hp, hall⟩
  rw [e]
  repeat' ((first | apply Run_seq | apply Run_skip | apply Run_block | apply Run_blk | refine Run_exit rfl ?_ | apply Run_ret | apply Run_nil | apply Run_condK | apply Run_ops mixed | apply Run_opsX mixed | with_reducible refine PostV_open ?_ | simp (disch := omega) only [w64, wu64, wu32, wu16, wu8, Int.tdiv_eq_ediv_of_nonneg, Int.tmod_eq_emod_of_nonneg] | ((first | refine GuardK_split ?_ ?_ | refine CondK_split ?_ ?_) <;> intro hc <;> (try simp only [hc]) <;> try simp at hc) | (with_reducible refine And.intro ?_ ?_; (focus ((repeat' (with_reducible refine And.intro ?_ ?_)) <;> first | exact trivial | assumption | (simp; done) | (simp only [List.length_map] at *; omega) | omega | (simp [D.cells, D.ok, D.one, D.pt, D.pt1]; done)))) | (with_reducible intro x hx) | omega) <;> (try simp only [c1, Nat.reduceBEq, reduceIte, binD, binInt, D.pt0, D.norm1, view, view2, view1, view0, ofRes, fw]))
end Go.Proofs.Ytoleaiaeghbffaa

namespace Go.Proofs.Ytoleaiaeghbffaa
open Go Go.Vi

abbrev sh1 (b : Nat) (k : IntKind) : Sh := .slice b [.int k]
abbrev sh2 (b : Nat) (k m : IntKind) : Sh := .slice b [.int k, .int m]
abbrev sh3 : Sh := .slice 24 [.int .i64, .int .i64, .int .i64]
def shEv : List Sh := [.int .i64, .int .i64, .bool, .bool, .int .i64, .int .i64, .int .i64, .int .i64, sh1 8 .i64, sh1 8 .i64, sh2 16 .i64 .i64, sh1 8 .i64, .int .i64, sh1 8 .i64, sh1 8 .i64, sh3]
def shEn : List Sh := [.int .u32, .int .i64, .int .i64, .bool, .bool, .int .i64, .int .i64, .int .i64, .int .i64, sh1 8 .i64, sh1 8 .i64, sh2 16 .i64 .i64, sh1 8 .i64, .int .i64, sh1 8 .i64, sh1 8 .i64, sh3]
def shUs : List Sh := [.int .u32, .int .i64, sh2 16 .i64 .i64, sh3, sh1 8 .i64, .int .i64, .int .i64, .int .u64, .slice 240 shEn]
def shPo : List Sh := [.int .u32, .int .u32, .int .i64, .int .i64, .int .i64, .int .i64, sh1 4 .u32, sh2 16 .u32 .i64, .int .i64, sh2 8 .u32 .u32, sh3, sh1 8 .i64, sh2 16 .u32 .i64, .int .i64, .int .i64, .int .i64]
def shDn : List Sh := [.int .u32, .int .u64, .int .u64]
def shSt : List Sh := [.int .i64, .slice 136 shUs, .slice 216 shPo, .slice 24 shDn]
theorem rows_map {α : Type} {f : α → List D} {shs : List Sh} {Q : α → Prop} (hd : ∀ ds, FitsAll shs ds → ∃ x, ds = f x ∧ Q x) : ∀ rows : List (List D), (∀ r ∈ rows, FitsAll shs r) → ∃ l : List α, rows = l.map f ∧ ∀ x ∈ l, Q x
 | [], _ => ⟨[], rfl, by simp⟩
 | r :: rows, h => by
  obtain ⟨l, hl, hq⟩ := rows_map hd rows fun r hr => h r (by simp [hr])
  obtain ⟨x, hx, qx⟩ := hd r (h r (by simp))
  refine ⟨x :: l, by rw [hx, hl]; rfl, fun y hy => ?_⟩
  rcases List.mem_cons.1 hy with rfl | h
  ·exact qx
  ·exact hq y h
theorem fitL {α : Type} {f : α → List D} {shs : List Sh} {Q : α → Prop} {b : Nat} {d : D} (hd : ∀ ds, FitsAll shs ds → ∃ x, ds = f x ∧ Q x) (h : Fits (.slice b shs) d) : ∃ l : List α, d = L (l.map f) ∧ l.length * b ≤ 140737488351232 ∧ ∀ x ∈ l, Q x := by
 simp only [Fits] at h
 obtain ⟨rows, rfl, hl, hr⟩ := h
 obtain ⟨l, rfl, hq⟩ := rows_map hd rows hr
 exact ⟨l, rfl, by simpa using hl, hq⟩
theorem fit1 {b : Nat} {k : IntKind} {d : D} (hb : 0 < b) (h : Fits (sh1 b k) d) : ∃ l : List Int, d = L (row1 k l) ∧ l.length ≤ 140737488351232 := by
 obtain ⟨l, h1, h2, _⟩ := fitL (f := fun x : Int => [D.int k x]) (Q := fun _ => True) (fun ds h => by
  simp only [FitsAll, Fits] at h
  obtain ⟨_, _, rfl, ⟨n, rfl, _⟩, rfl⟩ := h
  exact ⟨n, rfl, trivial⟩) h
 exact ⟨l, h1, Nat.le_trans (Nat.le_mul_of_pos_right _ hb) h2⟩
theorem fit2 {b : Nat} {k m : IntKind} {d : D} (hb : 0 < b) (h : Fits (sh2 b k m) d) : ∃ l : List (Int × Int), d = L (row2 k m l) ∧ l.length ≤ 140737488351232 := by
 obtain ⟨l, h1, h2, _⟩ := fitL (f := fun x : Int × Int => [D.int k x.1, D.int m x.2]) (Q := fun _ => True) (fun ds h => by
  simp only [FitsAll, Fits] at h
  obtain ⟨_, _, rfl, ⟨n, rfl, _⟩, _, _, rfl, ⟨n', rfl, _⟩, rfl⟩ := h
  exact ⟨(n, n'), rfl, trivial⟩) h
 exact ⟨l, h1, Nat.le_trans (Nat.le_mul_of_pos_right _ hb) h2⟩
theorem fit3 {d : D} (h : Fits sh3 d) : ∃ l : List (Int × Int × Int), d = L (row3 l) ∧ l.length ≤ 140737488351232 := by
 obtain ⟨l, h1, h2, _⟩ := fitL (f := fun x : Int × Int × Int => [D.int .i64 x.1, D.int .i64 x.2.1, D.int .i64 x.2.2]) (Q := fun _ => True) (fun ds h => by
  simp only [FitsAll, Fits] at h
  obtain ⟨_, _, rfl, ⟨n, rfl, _⟩, _, _, rfl, ⟨n', rfl, _⟩, _, _, rfl, ⟨n'', rfl, _⟩, rfl⟩ := h
  exact ⟨(n, n', n''), rfl, trivial⟩) h
 exact ⟨l, h1, by omega⟩
theorem fitI {k : IntKind} {d : D} (h : Fits (.int k) d) : ∃ n, d = .int k n := by simp only [Fits] at h; obtain ⟨n, h, _⟩ := h; exact ⟨n, h⟩
theorem fitB {d : D} (h : Fits .bool d) : ∃ n, d = .bool n := by simp only [Fits] at h; exact h
theorem fitS {d : D} (h : Fits .str d) : ∃ s : ByteArray, d = .str s ∧ s.size ≤ 140737488351232 := by simp only [Fits] at h; exact h
theorem decEv (ds : List D) (h : FitsAll shEv ds) : ∃ s : Ev, ds = s.cells ∧ s.fits := by
 simp only [shEv, FitsAll] at h
 obtain ⟨_, _, rfl, h1, _, _, rfl, h2, _, _, rfl, h3, _, _, rfl, h4, _, _, rfl, h5, _, _, rfl, h6, _, _, rfl, h7, _, _, rfl, h8, _, _, rfl, h9, _, _, rfl, h10, _, _, rfl, h11, _, _, rfl, h12, _, _, rfl, h13, _, _, rfl, h14, _, _, rfl, h15, _, _, rfl, h16, rfl⟩ := h
 obtain ⟨n1, rfl⟩ := fitI h1
 obtain ⟨n2, rfl⟩ := fitI h2
 obtain ⟨n3, rfl⟩ := fitB h3
 obtain ⟨n4, rfl⟩ := fitB h4
 obtain ⟨n5, rfl⟩ := fitI h5
 obtain ⟨n6, rfl⟩ := fitI h6
 obtain ⟨n7, rfl⟩ := fitI h7
 obtain ⟨n8, rfl⟩ := fitI h8
 obtain ⟨l9, rfl, g9⟩ := fit1 (by decide) h9
 obtain ⟨l10, rfl, g10⟩ := fit1 (by decide) h10
 obtain ⟨l11, rfl, g11⟩ := fit2 (by decide) h11
 obtain ⟨l12, rfl, g12⟩ := fit1 (by decide) h12
 obtain ⟨n13, rfl⟩ := fitI h13
 obtain ⟨l14, rfl, g14⟩ := fit1 (by decide) h14
 obtain ⟨l15, rfl, g15⟩ := fit1 (by decide) h15
 obtain ⟨l16, rfl, g16⟩ := fit3 h16
 exact ⟨⟨n1, n2, n3, n4, ⟨n5, n6, n7, n8, l9, l10, l11, l12, n13⟩, l14, l15, l16⟩, rfl, ⟨g9, g10, g11, g12⟩, g14, g15, g16⟩
theorem decEn (ds : List D) (h : FitsAll shEn ds) : ∃ e : En, ds = e.row ∧ e.ev.fits := by
 simp only [shEn, FitsAll] at h
 obtain ⟨d0, r0, rfl, h0, h⟩ := h
 obtain ⟨n0, rfl⟩ := fitI h0
 obtain ⟨e, rfl, he⟩ := decEv r0 (by simp only [shEv, FitsAll]; exact h)
 exact ⟨⟨n0, e⟩, rfl, he⟩
theorem decUs (ds : List D) (h : FitsAll shUs ds) : ∃ u : Us, ds = u.row ∧ u.fit := by
 simp only [shUs, FitsAll] at h
 obtain ⟨_, _, rfl, h0, _, _, rfl, h1, _, _, rfl, h2, _, _, rfl, h3, _, _, rfl, h4, _, _, rfl, h5, _, _, rfl, h6, _, _, rfl, h7, _, _, rfl, h8, rfl⟩ := h
 obtain ⟨n0, rfl⟩ := fitI h0
 obtain ⟨n1, rfl⟩ := fitI h1
 obtain ⟨l2, rfl, g2⟩ := fit2 (by decide) h2
 obtain ⟨l3, rfl, g3⟩ := fit3 h3
 obtain ⟨l4, rfl, g4⟩ := fit1 (by decide) h4
 obtain ⟨n5, rfl⟩ := fitI h5
 obtain ⟨n6, rfl⟩ := fitI h6
 obtain ⟨n7, rfl⟩ := fitI h7
 obtain ⟨l8, rfl, g8, q8⟩ := fitL decEn h8
 exact ⟨⟨n0, ⟨n1, l2, l3, l4, n5, n6⟩, n7, l8⟩, rfl, ⟨g2, g3, g4⟩, by show l8.length ≤ _; omega, q8⟩
theorem decPo (ds : List D) (h : FitsAll shPo ds) : ∃ p : Po, ds = p.row ∧ p.fits := by
 simp only [shPo, FitsAll] at h
 obtain ⟨_, _, rfl, ha, _, _, rfl, hb, _, _, rfl, h0, _, _, rfl, h1, _, _, rfl, h2, _, _, rfl, h3, _, _, rfl, h4, _, _, rfl, h5, _, _, rfl, h6, _, _, rfl, h7, _, _, rfl, h8, _, _, rfl, h9, _, _, rfl, h10, _, _, rfl, h11, _, _, rfl, h12, _, _, rfl, h13, rfl⟩ := h
 obtain ⟨na, rfl⟩ := fitI ha
 obtain ⟨nb, rfl⟩ := fitI hb
 obtain ⟨n0, rfl⟩ := fitI h0
 obtain ⟨n1, rfl⟩ := fitI h1
 obtain ⟨n2, rfl⟩ := fitI h2
 obtain ⟨n3, rfl⟩ := fitI h3
 obtain ⟨l4, rfl, g4⟩ := fit1 (by decide) h4
 obtain ⟨l5, rfl, g5⟩ := fit2 (by decide) h5
 obtain ⟨n6, rfl⟩ := fitI h6
 obtain ⟨l7, rfl, g7⟩ := fit2 (by decide) h7
 obtain ⟨l8, rfl, g8⟩ := fit3 h8
 obtain ⟨l9, rfl, g9⟩ := fit1 (by decide) h9
 obtain ⟨l10, rfl, g10⟩ := fit2 (by decide) h10
 obtain ⟨n11, rfl⟩ := fitI h11
 obtain ⟨n12, rfl⟩ := fitI h12
 obtain ⟨n13, rfl⟩ := fitI h13
 exact ⟨⟨na, nb, ⟨n0, n1, n2, n3, l4, l5, n6, l7, l8⟩, l9, l10, n11, n12, n13⟩, rfl, ⟨g4, g5, g7, g8⟩, g9, g10⟩
theorem decDn (ds : List D) (h : FitsAll shDn ds) : ∃ d : Dn, ds = d.row ∧ True := by
 simp only [shDn, FitsAll] at h
 obtain ⟨_, _, rfl, h0, _, _, rfl, h1, _, _, rfl, h2, rfl⟩ := h
 obtain ⟨n0, rfl⟩ := fitI h0
 obtain ⟨n1, rfl⟩ := fitI h1
 obtain ⟨n2, rfl⟩ := fitI h2
 exact ⟨⟨n0, n1, n2⟩, rfl, trivial⟩
theorem decSt (ds : List D) (h : FitsAll shSt ds) : ∃ s : Sta, ds = s.cells ∧ s.fits := by
 simp only [shSt, FitsAll] at h
 obtain ⟨_, _, rfl, h0, _, _, rfl, h1, _, _, rfl, h2, _, _, rfl, h3, rfl⟩ := h
 obtain ⟨n0, rfl⟩ := fitI h0
 obtain ⟨us, rfl, g1, q1⟩ := fitL decUs h1
 obtain ⟨ps, rfl, g2, q2⟩ := fitL decPo h2
 obtain ⟨dn, rfl, g3, _⟩ := fitL decDn h3
 exact ⟨⟨n0, us, ps, dn⟩, rfl, by show us.length ≤ _; omega, by show ps.length ≤ _; omega, by show dn.length ≤ _; omega, q1, q2⟩
end Go.Proofs.Ytoleaiaeghbffaa

namespace Go.Proofs.Ytoleaiaeghbffaa
open Go Go.Vi


theorem isNaN_p (a : Int) : PureD Try.prog 66 [.int .u32 a] (.bool false) := by
 refine pureV Try.func66 low66 (by simp [c66]) ?_
 simp only [c66]
 have h : (a != a) = false := by simp
 repeat' ((first | apply Run_seq | apply Run_ret | apply Run_nil | apply Run_ops mixed | with_reducible refine PostV_open ?_ | (with_reducible refine And.intro ?_ ?_; (focus ((repeat' (with_reducible refine And.intro ?_ ?_)) <;> first | exact trivial | assumption | (simp; done) | (simp only [List.length_map] at *; omega) | omega | (simp [D.cells, D.ok, D.one, D.pt, D.pt1]; done)))) | (with_reducible intro x hx) | omega) <;> (try simp only [h, Nat.reduceBEq, argEnv, reduceIte, binD, binInt, D.pt0, D.norm1, view, view2, view1, view0, ofRes, fw]))
def cmp (a b : Int) : Int := if a < b then -1 else if b < a then 1 else 0
theorem cmp_p (a b : Int) : PureD Try.prog 35 [.int .u32 a, .int .u32 b] (.int .i64 (cmp a b)) := by
 refine pureV Try.func35 low35 (by simp [c35]) ?_
 simp only [c35]
 unfold cmp
 repeat' ((first | apply Run_seq | apply Run_skip | apply Run_ret | apply Run_nil | apply Run_condK | apply Run_ops mixed | with_reducible refine PostV_open ?_ | with_reducible refine ro_callV ?_ | refine CallV_pure (isNaN_p _) ?_ ?_ | (refine CondK_split ?_ ?_ <;> intro hc <;> (try simp only [hc]) <;> try simp at hc) | (with_reducible refine And.intro ?_ ?_; (focus ((repeat' (with_reducible refine And.intro ?_ ?_)) <;> first | exact trivial | assumption | (simp; done) | (simp only [List.length_map] at *; omega) | omega | (simp [D.cells, D.ok, D.one, D.pt, D.pt1]; done)))) | (with_reducible intro x hx) | omega) <;> (try simp only [Nat.reduceBEq, argEnv, reduceIte, binD, binInt, D.pt, D.pt1, D.pt0, D.norm1, Int.reduceNeg, view, view2, view1, view0, mapO, D.sc, D.sc1, D.sc2, ofRes, fw]))
theorem cmp_neg {a b : Int} : cmp a b < 0 ↔ a < b := by unfold cmp; (repeat' split) <;> omega
theorem cmp_zero {a b : Int} : cmp a b = 0 ↔ a = b := by unfold cmp; (repeat' split) <;> omega
/-- Where a number stands in a rising row. -/
def lowB {α : Type} (f : α → Int) : List α → Int → Nat
 | [], _ => 0
 | x :: l, id => if f x < id then lowB f l id + 1 else 0
theorem lowB_le {α : Type} (f : α → Int) : ∀ (l : List α) (id : Int), lowB f l id ≤ l.length
 | [], _ => Nat.le_refl _
 | x :: l, id => by
  have := lowB_le f l id
  unfold lowB; split <;> simp <;> omega
theorem lowB_spec {α : Type} (f : α → Int) : ∀ (l : List α) (id : Int), (l.Pairwise fun a b => f a < f b) → ∀ (h : Nat) (e : α), l[h]? = some e → (f e < id ↔ h < lowB f l id)
 | [], _, _, h, e, he => by simp at he
 | x :: l, id, hs, h, e, he => by
  obtain ⟨h1, h2⟩ := List.pairwise_cons.1 hs
  unfold lowB
  split
  ·rename_i hx
   cases h with
   | zero => simp at he; subst he; simp [hx]
   | succ h => rw [lowB_spec f l id h2 h e (by simpa using he)]; omega
  ·rename_i hx
   cases h with
   | zero => simp at he; subst he; simp; omega
   | succ h =>
    have := h1 e (List.mem_of_getElem? (by simpa using he))
    simp; omega
def isAtB {α : Type} (f : α → Int) (l : List α) (k : Nat) (id : Int) : Bool := match l[k]? with | some d => f d == id | none => false
theorem place1U_p (d : Us) (id : Int) : PureD Try.prog 69 [.agg d.row, .int .u32 id] (.int .i64 (cmp d.id id)) := by
 refine pureV Try.func69 low69 (by simp [c69]) ?_
 simp only [c69, Us.row]
 repeat' ((first | apply Run_seq | apply Run_ret | apply Run_nil | apply Run_ops mixed | with_reducible refine PostV_open ?_ | with_reducible refine ro_callV ?_ | refine CallV_pure (cmp_p _ _) ?_ ?_ | (with_reducible refine And.intro ?_ ?_; (focus ((repeat' (with_reducible refine And.intro ?_ ?_)) <;> first | exact trivial | assumption | (simp; done) | (simp only [List.length_map] at *; omega) | omega | (simp [D.cells, D.ok, D.one, D.pt, D.pt1]; done)))) | (with_reducible intro x hx) | omega) <;> (try simp only [Nat.reduceBEq, argEnv, reduceIte, Nat.reduceAdd, reduceCtorEq, faddrD, loadD, D.cells, D.ok, D.one, D.pt, D.pt1, D.pt0, D.norm1, ne_eq, view, view2, view1, view0, mapO, D.sc, D.sc1, D.sc2, ofRes, fw]))
theorem binU_p (l : List Us) (id : Int) (k : Nat) (hl : l.length ≤ 140737488351232) (hk : k ≤ l.length) (hs : ∀ (h : Nat) (d : Us), l[h]? = some d → (d.id < id ↔ h < k)) :
  PureD Try.prog 68 [L (rowsU l), .int .u32 id, .fn 69 []] (.tup [.int .i64 k, .bool (isAtB Us.id l k id)]) := by
 refine pureV Try.func68 low68 (by simp [c68]) ?_
 simp only [c68]
 repeat' ((first | apply Run_seq | apply Run_skip | apply Run_block | apply Run_blk | refine Run_exit rfl ?_ | apply Run_ret | apply Run_nil | apply Run_condK | apply Run_ops mixed | with_reducible refine PostV_open ?_ | with_reducible refine ro_callV ?_ | simp (disch := omega) only [w64, wu64, wu32, wu16, wu8, Int.tdiv_eq_ediv_of_nonneg, Int.tmod_eq_emod_of_nonneg] | ((first | refine GuardK_split ?_ ?_ | refine CondK_split ?_ ?_) <;> intro hc <;> (try simp only [hc]) <;> try simp at hc) | (with_reducible refine And.intro ?_ ?_; (focus ((repeat' (with_reducible refine And.intro ?_ ?_)) <;> first | exact trivial | assumption | (simp; done) | (simp only [List.length_map] at *; omega) | omega | (simp [D.cells, D.ok, D.one, D.pt, D.pt1]; done)))) | (with_reducible intro x hx) | omega) <;> (try simp only [rowsU_len, Nat.reduceBEq, argEnv, Nat.reduceAdd, lenD, fw]))
 refine Run_loop (ι := {p : Nat × Nat // p.1 ≤ k ∧ k ≤ p.2 ∧ p.2 ≤ l.length}) (fun p => ([(0, L (rowsU l)), (1, .int .u32 id), (2, .fn 69 []), (8, .int .i64 l.length), (9, .int .i64 p.1.1), (10, .int .i64 p.1.2)], [])) (fun p => p.1.2 - p.1.1) ⟨(0, l.length), by simp, hk, by simp⟩ ?_ ?_
 ·refine Ent_gc [] (by rfl) (by simp) (by simp [keptW]) (by simp [lk_hit, lk_miss, D.pt0, viewS_own', pull, pull2, pull1, pull0, idx_nil, gate, List.mem_cons, or_false, view0, mapO])
 rintro ⟨⟨i, j⟩, h1, h2, h3⟩ hk'
 dsimp only at h1 h2 h3 hk' ⊢
 by_cases hij : i < j
 ·have c1 : ((i : Int) < (j : Int)) = True := by simp; omega
  obtain ⟨h, hh⟩ : ∃ h : Nat, h = (i + j) / 2 := ⟨_, rfl⟩
  have e2 : ((i : Int) + (j : Int)) / 2 = (h : Int) := by omega
  obtain ⟨d, hd⟩ : ∃ d, l[h]? = some d := ⟨_, List.getElem?_eq_getElem (by omega)⟩
  have hsd := hs h d hd
  have hd' := rowsU_get hd
  have pl := place1U_p d id
  simp only [Us.row] at pl
  by_cases hlt : h < k
  ·have c2 : (cmp d.id id < 0) = True := by simp; exact cmp_neg.2 (hsd.2 hlt)
   repeat' ((first | apply Run_seq | apply Run_skip | apply Run_block | apply Run_blk | refine Run_exit rfl ?_ | apply Run_ret | apply Run_nil | apply Run_condK | apply Run_ops mixed | with_reducible refine PostV_open ?_ | with_reducible refine ro_callV ?_ | refine CallV_pure (pl) ?_ ?_ | simp (disch := omega) only [w64, wu64] | ((first | refine GuardK_split ?_ ?_ | refine CondK_split ?_ ?_) <;> intro hc <;> (try simp only [hc]) <;> try simp at hc) | (with_reducible refine And.intro ?_ ?_; (focus ((repeat' (with_reducible refine And.intro ?_ ?_)) <;> first | exact trivial | assumption | (simp; done) | (simp only [List.length_map] at *; omega) | omega | (simp [D.cells, D.ok, D.one, D.pt, D.pt1]; done)))) | (with_reducible intro x hx) | omega) <;> (try simp only [rowsU_len, c1, e2, hd', c2, Us.row, Nat.reduceBEq, reduceIte, Nat.reduceAdd, Nat.reduceLeDiff, binD, binInt, convD, loadD, D.pt, D.pt1, D.pt0, D.norm1, Int.reduceToNat, Int.reduceLE, IntKind.bits, Int.reducePow, view, view2, view1, view0, mapO, D.sc, D.sc1, D.sc2, fw]))
   refine hk' ⟨(h + 1, j), by omega, by omega, by omega⟩ _ _ (by dsimp only; omega) ?_
   dsimp only
   refine Ent_gc [] (by rfl) (by simp) (by simp [keptW]) (by simp [lk_hit, lk_miss, D.pt0, viewS_own', pull, pull2, pull1, pull0, idx_nil, gate, List.mem_cons, or_false, view0, mapO])
  ·have c2 : (cmp d.id id < 0) = False := by simp; have := mt hsd.1 hlt; have := mt cmp_neg.1 this; omega
   repeat' ((first | apply Run_seq | apply Run_skip | apply Run_block | apply Run_blk | refine Run_exit rfl ?_ | apply Run_ret | apply Run_nil | apply Run_condK | apply Run_ops mixed | with_reducible refine PostV_open ?_ | with_reducible refine ro_callV ?_ | refine CallV_pure (pl) ?_ ?_ | simp (disch := omega) only [w64, wu64] | ((first | refine GuardK_split ?_ ?_ | refine CondK_split ?_ ?_) <;> intro hc <;> (try simp only [hc]) <;> try simp at hc) | (with_reducible refine And.intro ?_ ?_; (focus ((repeat' (with_reducible refine And.intro ?_ ?_)) <;> first | exact trivial | assumption | (simp; done) | (simp only [List.length_map] at *; omega) | omega | (simp [D.cells, D.ok, D.one, D.pt, D.pt1]; done)))) | (with_reducible intro x hx) | omega) <;> (try simp only [rowsU_len, c1, e2, hd', c2, Us.row, Nat.reduceBEq, reduceIte, Nat.reduceAdd, Nat.reduceLeDiff, binD, binInt, convD, loadD, D.pt, D.pt1, D.pt0, D.norm1, Int.reduceToNat, Int.reduceLE, IntKind.bits, Int.reducePow, view, view2, view1, view0, mapO, D.sc, D.sc1, D.sc2, fw]))
   refine hk' ⟨(i, h), by omega, by omega, by omega⟩ _ _ (by dsimp only; omega) ?_
   dsimp only
   refine Ent_gc [] (by rfl) (by simp) (by simp [keptW]) (by simp [lk_hit, lk_miss, D.pt0, viewS_own', pull, pull2, pull1, pull0, idx_nil, gate, List.mem_cons, or_false, view0, mapO])
 ·have c1 : ((i : Int) < (j : Int)) = False := by simp; omega
  obtain rfl : i = k := by omega
  by_cases hkl : i < l.length
  ·have c2 : ((i : Int) < (l.length : Int)) = True := by simp; omega
   obtain ⟨d, hd⟩ : ∃ d, l[i]? = some d := ⟨_, List.getElem?_eq_getElem (by omega)⟩
   have hd' := rowsU_get hd
   have pl := place1U_p d id
   simp only [Us.row] at pl
   have e : isAtB Us.id l i id = (cmp d.id id == 0) := by
    unfold isAtB; rw [hd, Bool.eq_iff_iff]; simp [cmp_zero]
   rw [e]
   repeat' ((first | apply Run_seq | apply Run_skip | apply Run_block | apply Run_blk | refine Run_exit rfl ?_ | apply Run_ret | apply Run_nil | apply Run_condK | apply Run_ops mixed | with_reducible refine PostV_open ?_ | with_reducible refine ro_callV ?_ | refine CallV_pure (pl) ?_ ?_ | simp (disch := omega) only [w64, wu64, wu32, wu16, wu8, Int.tdiv_eq_ediv_of_nonneg, Int.tmod_eq_emod_of_nonneg] | ((first | refine GuardK_split ?_ ?_ | refine CondK_split ?_ ?_) <;> intro hc <;> (try simp only [hc]) <;> try simp at hc) | (with_reducible refine And.intro ?_ ?_; (focus ((repeat' (with_reducible refine And.intro ?_ ?_)) <;> first | exact trivial | assumption | (simp; done) | (simp only [List.length_map] at *; omega) | omega | (simp [D.cells, D.ok, D.one, D.pt, D.pt1]; done)))) | (with_reducible intro x hx) | omega) <;> (try simp only [rowsU_len, c1, c2, hd', Us.row, Nat.reduceBEq, reduceIte, Nat.reduceAdd, binD, binInt, pickD, loadD, D.pt, D.pt1, D.pt0, D.norm1, cond_true, view, view2, view1, view0, mapO, D.sc, D.sc1, D.sc2, ofRes, fw]))
  ·have c2 : ((i : Int) < (l.length : Int)) = False := by simp; omega
   have e : isAtB Us.id l i id = false := by unfold isAtB; rw [List.getElem?_eq_none (by omega)]
   rw [e]
   repeat' ((first | apply Run_seq | apply Run_skip | apply Run_block | apply Run_blk | refine Run_exit rfl ?_ | apply Run_ret | apply Run_nil | apply Run_condK | apply Run_ops mixed | with_reducible refine PostV_open ?_ | with_reducible refine ro_callV ?_ | simp (disch := omega) only [w64, wu64, wu32, wu16, wu8, Int.tdiv_eq_ediv_of_nonneg, Int.tmod_eq_emod_of_nonneg] | ((first | refine GuardK_split ?_ ?_ | refine CondK_split ?_ ?_) <;> intro hc <;> (try simp only [hc]) <;> try simp at hc) | (with_reducible refine And.intro ?_ ?_; (focus ((repeat' (with_reducible refine And.intro ?_ ?_)) <;> first | exact trivial | assumption | (simp; done) | (simp only [List.length_map] at *; omega) | omega | (simp [D.cells, D.ok, D.one, D.pt, D.pt1]; done)))) | (with_reducible intro x hx) | omega) <;> (try simp only [c1, c2, Nat.reduceBEq, reduceIte, binD, binInt, pickD, D.pt0, D.norm1, cond_false, view, view2, view1, view0, mapO, ofRes, fw]))
theorem placeU_p (t : Int) (us : List Us) (ps : List Po) (ds : List Dn) (id : Int) (hl : us.length ≤ 140737488351232) (hs : us.Pairwise fun a b => a.id < b.id) :
  PureD Try.prog 44 [St t us ps ds, .int .u32 id] (.tup [.int .i64 (lowB Us.id us id), .bool (isAtB Us.id us (lowB Us.id us id) id)]) := by
 refine pureV Try.func44 low44 (by simp [c44]) ?_
 simp only [c44, St]
 repeat' ((first | apply Run_seq | apply Run_ret | apply Run_nil | apply Run_ops mixed | with_reducible refine PostV_open ?_ | with_reducible refine ro_callV ?_ | refine CallV_pure (binU_p us id _ hl (lowB_le Us.id us id) (lowB_spec Us.id us id hs)) ?_ ?_ | (with_reducible refine And.intro ?_ ?_; (focus ((repeat' (with_reducible refine And.intro ?_ ?_)) <;> first | exact trivial | assumption | (simp; done) | (simp only [List.length_map] at *; omega) | omega | (simp [D.cells, D.ok, D.one, D.pt, D.pt1]; done)))) | (with_reducible intro x hx) | omega) <;> (try simp only [Nat.reduceBEq, argEnv, reduceIte, Nat.reduceAdd, reduceCtorEq, faddrD, extD, loadD, D.cells, D.ok, D.one, D.pt, D.pt1, D.pt0, D.norm1, ne_eq, view, view2, view1, view0, mapO, D.sc, D.sc1, D.sc2, ofRes, fw]))
end Go.Proofs.Ytoleaiaeghbffaa

namespace Go.Proofs.Ytoleaiaeghbffaa
open Go Go.Vi


def zU : Us := ⟨0, ⟨0, [], [], [], 0, 0⟩, 0, []⟩
def findU (us : List Us) (id : Int) : Option Us := us.find? fun u => u.id == id
theorem findB_low {α : Type} (f : α → Int) : ∀ (l : List α) (id : Int), (l.Pairwise fun a b => f a < f b) → (l.find? fun u => f u == id) = if isAtB f l (lowB f l id) id = true then l[lowB f l id]? else none
 | [], id, _ => by simp [isAtB, lowB]
 | x :: l, id, hs => by
  obtain ⟨h1, h2⟩ := List.pairwise_cons.1 hs
  have ih := findB_low f l id h2
  unfold lowB
  split
  ·rename_i hx
   have hne : (f x == id) = false := by simp; omega
   have e : isAtB f (x :: l) (lowB f l id + 1) id = isAtB f l (lowB f l id) id := by simp [isAtB]
   rw [List.find?_cons, hne, e, ih]
   simp
  ·rename_i hx
   have e : isAtB f (x :: l) 0 id = (f x == id) := by simp [isAtB]
   rw [e, List.find?_cons]
   by_cases h : f x = id
   ·have : (f x == id) = true := by simpa using h
    simp [this]
   ·have : (f x == id) = false := by simpa using h
    rw [this]
    simp only [Bool.false_eq_true, if_false]
    rw [List.find?_eq_none]
    intro y hy
    have := h1 y hy
    simp; omega
def findUR (us : List Us) (id : Int) : D := .tup [.agg ((findU us id).getD zU).row, .bool (findU us id).isSome]
set_option maxHeartbeats 1000000 in
theorem refFind_p (t : Int) (us : List Us) (ps : List Po) (ds : List Dn) (id : Int) (hl : us.length ≤ 140737488351232) : PureD Try.prog 57 [St t us ps ds, .int .u32 id] (findUR us id) := by
 refine pureV Try.func57 low57 (by simp [c57]) ?_
 simp only [c57, St]
 repeat' ((first | apply Run_seq | apply Run_skip | apply Run_block | apply Run_blk | refine Run_exit rfl ?_ | apply Run_ret | apply Run_nil | apply Run_condK | apply Run_ops mixed | with_reducible refine PostV_open ?_ | simp (disch := omega) only [w64, wu64, wu32, wu16, wu8, Int.tdiv_eq_ediv_of_nonneg, Int.tmod_eq_emod_of_nonneg] | (refine CondK_split ?_ ?_ <;> intro hc <;> (try simp only [hc]) <;> try simp at hc) | (with_reducible refine And.intro ?_ ?_; (focus ((repeat' (with_reducible refine And.intro ?_ ?_)) <;> first | exact trivial | assumption | (simp; done) | (simp only [List.length_map] at *; omega) | omega | (simp [D.cells, D.ok, D.one, D.pt, D.pt1]; done)))) | (with_reducible intro x hx) | omega) <;> (try simp only [rowsU_len, Nat.reduceBEq, argEnv, Nat.reduceAdd, reduceCtorEq, faddrD, lenD, loadD, D.cells, D.ok, D.one, D.pt1, ne_eq, fw]))
 refine Run_loop (ι := {i : Nat // i ≤ us.length ∧ findU us id = findU (us.drop i) id}) (fun i => ([(1, .int .u32 id), (2, .ptr 0 0 0 1), (4, .ptr 1 0 0 1), (9, .int .i64 us.length), (10, .int .i64 i.1)], [⟨true, false, true, false, 4, [[.int .i64 t, L (rowsU us), L (rowsP ps), L (rowsD ds)]], some 0⟩, ⟨true, false, true, false, 9, [[.int .u32 0, .int .i64 0, .list (some true) true [], .list (some true) true [], .list (some true) true [], .int .i64 0, .int .i64 0, .int .u64 0, .list (some true) true []]], some 0⟩])) (fun i => us.length - i.1) ⟨0, by simp, by simp⟩ ?_ ?_
 ·refine Ent_gc [0, 1] (by rfl) (by simp) (by simp [keptW, ObKW, ObW, imp_self, pullOb, or_false]) (by simp [lk_hit, lk_miss, D.pt0, viewS_own', pull, pull2, pull1, pull0, idx_hit, idx_miss, sucO_some, gate, List.mem_cons, or_false, view0])
 rintro ⟨i, hi, hf⟩ hk
 dsimp only at hk ⊢
 by_cases hlt : i < us.length
 ·have c1 : ((i : Int) < (us.length : Int)) = True := by simp; omega
  obtain ⟨d, hd⟩ : ∃ d, us[i]? = some d := ⟨_, List.getElem?_eq_getElem hlt⟩
  have hr := rowsU_get hd
  have hdr : us.drop i = d :: us.drop (i + 1) := by
   rw [List.getElem?_eq_getElem hlt] at hd; cases hd; exact List.drop_eq_getElem_cons hlt
  by_cases hc : d.id = id
  ·have c2 : (d.id == id) = true := by simpa using hc
   have e : findU us id = some d := by rw [hf, hdr]; simp [findU, c2]
   unfold findUR
   rw [e]
   simp only [Option.getD_some, Option.isSome_some, Us.row]
   repeat' ((first | apply Run_seq | apply Run_skip | apply Run_block | apply Run_blk | refine Run_exit rfl ?_ | apply Run_ret | apply Run_nil | apply Run_condK | apply Run_ops mixed | with_reducible refine PostV_open ?_ | simp (disch := omega) only [w64, wu64, wu32, wu16, wu8, Int.tdiv_eq_ediv_of_nonneg, Int.tmod_eq_emod_of_nonneg] | (refine CondK_split ?_ ?_ <;> intro hc <;> (try simp only [hc]) <;> try simp at hc) | (with_reducible refine And.intro ?_ ?_; (focus ((repeat' (with_reducible refine And.intro ?_ ?_)) <;> first | exact trivial | assumption | (simp; done) | (simp only [List.length_map] at *; omega) | omega | (simp [D.cells, D.ok, D.one, D.pt, D.pt1]; done)))) | (with_reducible intro x hx) | omega) <;> (try simp only [rowsU_len, c1, hr, c2, Us.row, Nat.reduceBEq, reduceIte, Nat.reduceAdd, binD, binInt, faddrD, loadD, splice, D.cells, D.ok, D.one, D.pt1, D.pt0, D.norm1, view, view2, view1, view0, mapO, ofRes, fw]))
  ·have c2 : (d.id == id) = false := by simpa using hc
   repeat' ((first | apply Run_seq | apply Run_skip | apply Run_block | apply Run_blk | refine Run_exit rfl ?_ | apply Run_ret | apply Run_nil | apply Run_condK | apply Run_ops mixed | with_reducible refine PostV_open ?_ | simp (disch := omega) only [w64] | (refine CondK_split ?_ ?_ <;> intro hc <;> (try simp only [hc]) <;> try simp at hc) | (with_reducible refine And.intro ?_ ?_; (focus ((repeat' (with_reducible refine And.intro ?_ ?_)) <;> first | exact trivial | assumption | (simp; done) | (simp only [List.length_map] at *; omega) | omega | (simp [D.cells, D.ok, D.one, D.pt, D.pt1]; done)))) | (with_reducible intro x hx) | omega) <;> (try simp only [rowsU_len, c1, hr, c2, Us.row, Nat.reduceBEq, reduceIte, Nat.reduceAdd, binD, binInt, faddrD, loadD, fw]))
   refine hk ⟨i + 1, by omega, ?_⟩ _ _ (by dsimp only; omega) ?_
   ·rw [hf, hdr]; simp [findU, c2]
   dsimp only
   refine Ent_gc [0, 1] (by rfl) (by simp) (by simp [keptW, ObKW, ObW, imp_self, pullOb, or_false]) (by simp [lk_hit, lk_miss, D.pt0, viewS_own', pull, pull2, pull1, pull0, idx_hit, idx_miss, sucO_some, gate, List.mem_cons, or_false, view0])
 ·have c1 : ((i : Int) < (us.length : Int)) = False := by simp; omega
  have e : findU us id = none := by rw [hf, List.drop_eq_nil_of_le (by omega)]; rfl
  unfold findUR
  rw [e]
  simp only [Option.getD_none, Option.isSome_none, zU, Us.row, row1, row2, row3, rowsE, List.map_nil]
  repeat' ((first | apply Run_seq | apply Run_skip | apply Run_block | apply Run_blk | refine Run_exit rfl ?_ | apply Run_ret | apply Run_nil | apply Run_condK | apply Run_ops mixed | with_reducible refine PostV_open ?_ | simp (disch := omega) only [w64, wu64, wu32, wu16, wu8, Int.tdiv_eq_ediv_of_nonneg, Int.tmod_eq_emod_of_nonneg] | (refine CondK_split ?_ ?_ <;> intro hc <;> (try simp only [hc]) <;> try simp at hc) | (with_reducible refine And.intro ?_ ?_; (focus ((repeat' (with_reducible refine And.intro ?_ ?_)) <;> first | exact trivial | assumption | (simp; done) | (simp only [List.length_map] at *; omega) | omega | (simp [D.cells, D.ok, D.one, D.pt, D.pt1]; done)))) | (with_reducible intro x hx) | omega) <;> (try simp only [c1, Nat.reduceBEq, reduceIte, Nat.reduceAdd, binD, binInt, aggD, loadD, fillD, splice, D.cells, D.ok, D.one, D.pt1, D.pt0, D.norm1, view, view2, view1, view0, mapO, ofRes, fw]))
end Go.Proofs.Ytoleaiaeghbffaa

namespace Go.Proofs.Ytoleaiaeghbffaa
open Go Go.Vi
theorem acc_b' {sz : Nat} {pu : Bool} {rows : List (List D)} (h : rows.isEmpty = false) : acc false sz pu rows = acc true sz pu rows := by simp [acc, h]
theorem acc_ne' {b pu : Bool} {sz : Nat} {rows : List (List D)} (h : rows.isEmpty = false) : acc b sz pu rows = ⟨true, false, pu, false, sz, rows, none⟩ := by simp [acc, h]
theorem ins_eqA {α : Type} {A B : List α} {z r : α} {k n : Nat} (hA : A.length = k) (hk : k < n) :
  List.take (k + 1) (List.take k (A ++ List.replicate (n + 1 - k) z) ++ List.take (n + 1 - k) [r] ++ List.drop (k + 1) (A ++ List.replicate (n + 1 - k) z)) ++ B ++
   List.drop (k + 1 + (n - k)) (List.take k (A ++ List.replicate (n + 1 - k) z) ++ List.take (n + 1 - k) [r] ++ List.drop (k + 1) (A ++ List.replicate (n + 1 - k) z)) = A ++ r :: B := by
 have h1 : List.take k (A ++ List.replicate (n + 1 - k) z) = A := List.take_left' hA
 have h2 : List.take (n + 1 - k) [r] = [r] := List.take_of_length_le (by simp; omega)
 rw [h1, h2, List.take_left' (by simp [hA]), List.drop_eq_nil_of_le (by simp; omega)]
 simp
theorem ins_eqB {α : Type} {L U : List α} {r : α} {k n : Nat} (hL : L.length = n) (hU : U.length = 1) (hk : k < n) :
  List.take k (List.take (k + 1) (L ++ U) ++ List.drop k L ++ List.drop (k + 1 + (n - k)) (L ++ U)) ++ List.take (n + 1 - k) [r] ++
   List.drop (k + min 1 (n + 1 - k)) (List.take (k + 1) (L ++ U) ++ List.drop k L ++ List.drop (k + 1 + (n - k)) (L ++ U)) = List.take k L ++ r :: List.drop k L := by
 have h1 : List.drop (k + 1 + (n - k)) (L ++ U) = [] := List.drop_eq_nil_of_le (by simp; omega)
 have h2 : List.take (n + 1 - k) [r] = [r] := List.take_of_length_le (by simp; omega)
 have h3 : k + min 1 (n + 1 - k) = k + 1 := by omega
 have h4 : (List.take (k + 1) (L ++ U)).length = k + 1 := by simp; omega
 rw [h1, h2, h3, List.append_nil, List.drop_left' h4, List.take_append_of_le_length (by omega), List.take_take, Nat.min_eq_left (by omega), List.take_append_of_le_length (by omega)]
 simp
theorem ins_isE {α : Type} {l : List α} {k : Nat} {d : α} : (l.take k ++ d :: l.drop k).isEmpty = false := by simp

theorem clU_ne (tg : Bool) (l : List (List D)) (hne : l ≠ []) (hsz : ∀ r ∈ l, r.length = 9) (hl : l.length ≤ 400000000000) : CallG Try.prog 48 [.list none tg l] [] (.own 0 0 l.length l.length 9 none) [acc true 9 true l] := by
 refine callG Try.func48 low48 (by simp [c48]) ?_
 simp only [c48]
 refine Run_nils 0 rfl fun b hb => ?_
 obtain rfl : b = false := by
  cases b with
  | false => rfl
  | true => exact absurd (hb rfl) hne
 repeat' ((first | apply Run_seq | apply Run_skip | apply Run_ret | apply Run_nil | apply Run_condK | apply Run_ops mixed | with_reducible refine PostG_open ?_ | (refine CondK_split ?_ ?_ <;> intro hc <;> (try simp only [hc]) <;> try simp at hc) | (with_reducible refine And.intro ?_ ?_; (focus ((repeat' (with_reducible refine And.intro ?_ ?_)) <;> first | exact trivial | assumption | (simp; done) | (simp only [List.length_map] at *; omega) | omega | (simp [D.cells, D.ok, D.one, D.pt, D.pt1]; done)))) | (with_reducible intro x hx) | omega) <;> (try simp only [Nat.reduceBEq, argEnv, eqD, eqN, boolD, D.cells, D.ok, D.one, cond_false, implies_true, ofRes, fw]))
 rw [acc_b' (by simpa using hne)]
 refine GcTo_own [0] (by rfl) (by simp) (by simp [keptW, ObKW, ObW, imp_self, acc_real, acc_nl, acc_pure, acc_fz, acc_sz, acc_rows, acc_spare, pull, pull2, pull1, pull0, idx_hit, pullOb])
theorem clU_nil (tg : Bool) : CallG Try.prog 48 [.list (some true) tg []] [] (.list (some true) true []) [] := by
 refine callG Try.func48 low48 (by simp [c48]) ?_
 simp only [c48]
 repeat' ((first | apply Run_seq | apply Run_skip | apply Run_ret | apply Run_nil | apply Run_condK | apply Run_ops mixed | with_reducible refine PostG_open ?_ | (refine CondK_split ?_ ?_ <;> intro hc <;> (try simp only [hc]) <;> try simp at hc) | (with_reducible refine And.intro ?_ ?_; (focus ((repeat' (with_reducible refine And.intro ?_ ?_)) <;> first | exact trivial | assumption | (simp; done) | (simp only [List.length_map] at *; omega) | omega | (simp [D.cells, D.ok, D.one, D.pt, D.pt1]; done)))) | (with_reducible intro x hx) | omega) <;> (try simp only [Nat.reduceBEq, argEnv, eqD, eqN, boolD, cond_false, ofRes, fw]))
 refine GcTo_own [] (by rfl) (by simp) (by simp [keptW, D.pt0, pull, pull2, pull1, pull0])
theorem clU_emp (tg : Bool) : CallG Try.prog 48 [.list (some false) tg []] [] (.own 0 0 0 0 9 none) [acc false 9 true []] := by
 refine callG Try.func48 low48 (by simp [c48]) ?_
 simp only [c48]
 repeat' ((first | apply Run_seq | apply Run_skip | apply Run_ret | apply Run_nil | apply Run_condK | apply Run_ops mixed | with_reducible refine PostG_open ?_ | (refine CondK_split ?_ ?_ <;> intro hc <;> (try simp only [hc]) <;> try simp at hc) | (with_reducible refine And.intro ?_ ?_; (focus ((repeat' (with_reducible refine And.intro ?_ ?_)) <;> first | exact trivial | assumption | (simp; done) | (simp only [List.length_map] at *; omega) | omega | (simp [D.cells, D.ok, D.one, D.pt, D.pt1]; done)))) | (with_reducible intro x hx) | omega) <;> (try simp only [Nat.reduceBEq, argEnv, Nat.reduceMul, Nat.reduceLeDiff, eqD, eqN, boolD, D.cells, D.ok, D.one, cond_false, implies_true, ofRes, fw]))
 refine GcTo_own [0] (by rfl) (by simp) (by simp [keptW, ObKW, ObW, imp_self, acc_real, acc_nl, acc_pure, acc_fz, acc_sz, acc_rows, acc_spare, pull, pull2, pull1, pull0, idx_hit, pullOb])
theorem inU_emp (d : List D) (hd : d.length = 9) (tg : Bool) (nl : Option Bool) : CallG Try.prog 72 [.own 0 0 0 0 9 none, .int .i64 0, .list nl tg [d]] [acc false 9 true []]
  (.own 0 0 1 1 9 none) [acc true 9 true [d]] := by
 refine callG Try.func72 low72 (by simp [c72]) ?_
 simp only [c72]
 repeat' ((first | apply Run_seq | apply Run_skip | apply Run_ret | apply Run_nil | apply Run_condK | apply Run_ops mixed | apply Run_opsX mixed | with_reducible refine PostG_open ?_ | with_reducible refine ro_callV ?_ | simp (disch := omega) only [w64, wu64, wu32, wu16, wu8, Int.tdiv_eq_ediv_of_nonneg, Int.tmod_eq_emod_of_nonneg] | (with_reducible refine SliceK_own rfl rfl ?_ ?_; (focus ((try simp only [Int.natCast_nonneg, Int.le_refl]) <;> ((repeat' (with_reducible refine And.intro ?_ ?_)) <;> first | exact trivial | assumption | (simp; done) | (simp only [List.length_map] at *; omega) | omega | (simp [D.cells, D.ok, D.one, D.pt, D.pt1]; done))))) | (refine CondK_split ?_ ?_ <;> intro hc <;> (try simp only [hc]) <;> try simp at hc) | (with_reducible refine And.intro ?_ ?_; (focus ((repeat' (with_reducible refine And.intro ?_ ?_)) <;> first | exact trivial | assumption | (simp; done) | (simp only [List.length_map] at *; omega) | omega | (simp [D.cells, D.ok, D.one, D.pt, D.pt1]; done)))) | (with_reducible intro x hx) | omega) <;> (try simp only [hd, forall_eq, Nat.reduceBEq, argEnv, reduceIte, Nat.reduceAdd, Nat.reduceMul, Nat.reduceLeDiff, binD, binInt, lenD, Int.reduceToNat, ofRes, fw]))
 refine GcTo_own [0] (by rfl) (by simp) (by simp [keptW, ObKW, ObW, imp_self, acc_real, acc_nl, acc_pure, acc_fz, acc_sz, acc_rows, acc_spare, pull, pull2, pull1, pull0, idx_hit, pullOb])
theorem inU_nil (b : Bool) (d : List D) (hd : d.length = 9) (tg : Bool) (nl : Option Bool) : CallG Try.prog 72 [.list (some b) true [], .int .i64 0, .list nl tg [d]] []
  (.own 0 0 1 1 9 none) [acc true 9 true [d]] := by
 refine callG Try.func72 low72 (by simp [c72]) ?_
 simp only [c72]
 repeat' ((first | apply Run_seq | apply Run_skip | apply Run_ret | apply Run_nil | apply Run_condK | apply Run_ops mixed | apply Run_opsX mixed | with_reducible refine PostG_open ?_ | with_reducible refine ro_callV ?_ | simp (disch := omega) only [w64, wu64, wu32, wu16, wu8, Int.tdiv_eq_ediv_of_nonneg, Int.tmod_eq_emod_of_nonneg] | (with_reducible refine SliceK_own rfl rfl ?_ ?_; (focus ((try simp only [reduceIte, Nat.sub_zero, fw]) <;> ((repeat' (with_reducible refine And.intro ?_ ?_)) <;> first | exact trivial | assumption | (simp; done) | (simp only [List.length_map] at *; omega) | omega | (simp [D.cells, D.ok, D.one, D.pt, D.pt1]; done))))) | (refine CondK_split ?_ ?_ <;> intro hc <;> (try simp only [hc]) <;> try simp at hc) | (with_reducible refine And.intro ?_ ?_; (focus ((repeat' (with_reducible refine And.intro ?_ ?_)) <;> first | exact trivial | assumption | (simp; done) | (simp only [List.length_map] at *; omega) | omega | (simp [D.cells, D.ok, D.one, D.pt, D.pt1]; done)))) | (with_reducible intro x hx) | omega) <;> (try simp only [hd, forall_eq, Nat.reduceBEq, argEnv, reduceIte, Nat.reduceAdd, Nat.reduceMul, Nat.reduceLeDiff, binD, binInt, lenD, sliceD, bndD, implies_true, Int.reduceToNat, ofRes, fw]))
 refine GcTo_own [0] (by rfl) (by simp) (by simp [keptW, ObKW, ObW, imp_self, acc_real, acc_nl, acc_pure, acc_fz, acc_sz, acc_rows, acc_spare, pull, pull2, pull1, pull0, idx_hit, pullOb])
set_option maxHeartbeats 1000000 in
theorem inU_p (l : List (List D)) (k : Nat) (d : List D) (tg : Bool) (nl : Option Bool) (hne : l ≠ []) (hsz : ∀ r ∈ l, r.length = 9) (hd : d.length = 9) (hp : (l.all fun r => r.all D.pt1) = true) (hpd : (d.all D.pt1) = true) (hl : l.length ≤ 400000000000) (hk : k ≤ l.length) : CallG Try.prog 72 [.own 0 0 l.length l.length 9 none, .int .i64 k, .list nl tg [d]] [acc true 9 true l]
  (.own 0 0 (l.length + 1) (l.length + 1) 9 none) [acc true 9 true (l.take k ++ d :: l.drop k)] := by
 refine callG Try.func72 low72 (by simp [c72]) ?_
 simp only [c72]
 have hne' : l.isEmpty = false := by simpa using hne
 have hdn : (d = []) = False := by
  rw [eq_iff_iff]
  refine ⟨fun h => ?_, False.elim⟩
  rw [h] at hd
  cases hd
 have hszd : ∀ r ∈ l.drop k, r.length = 9 := fun r hr => hsz r (List.mem_of_mem_drop hr)
 by_cases hkl : k = l.length
 ·subst hkl
  have c2 : ((l.length : Int) == (l.length : Int)) = true := by simp
  repeat' ((first | apply Run_seq | apply Run_skip | apply Run_ret | apply Run_nil | apply Run_condK | apply Run_ops mixed | apply Run_opsX mixed | with_reducible refine PostG_open ?_ | with_reducible refine ro_callV ?_ | simp (disch := omega) only [w64, wu64, wu32, wu16, wu8, Int.tdiv_eq_ediv_of_nonneg, Int.tmod_eq_emod_of_nonneg] | (with_reducible refine SliceK_own rfl rfl ?_ ?_; (focus ((try simp only [Int.natCast_nonneg, Int.le_refl]) <;> ((repeat' (with_reducible refine And.intro ?_ ?_)) <;> first | exact trivial | assumption | (simp; done) | (simp only [List.length_map] at *; omega) | omega | (simp [D.cells, D.ok, D.one, D.pt, D.pt1]; done))))) | (refine CondK_split ?_ ?_ <;> intro hc <;> (try simp only [hc]) <;> try simp at hc) | (with_reducible refine And.intro ?_ ?_; (focus ((repeat' (with_reducible refine And.intro ?_ ?_)) <;> first | exact trivial | assumption | (simp; done) | (simp only [List.length_map] at *; omega) | omega | (simp [D.cells, D.ok, D.one, D.pt, D.pt1]; done)))) | (with_reducible intro x hx) | omega) <;> (try simp only [c2, hd, forall_eq, Nat.reduceBEq, argEnv, reduceIte, Nat.reduceAdd, Nat.reduceLeDiff, binD, binInt, lenD, ofRes, fw]))
  have e : l.take l.length ++ d :: l.drop l.length = l ++ [d] := by simp
  rw [e]
  refine GcTo_own [0] (by rfl) (by simp) (by simp [keptW, ObKW, ObW, imp_self, acc_real, acc_nl, acc_pure, acc_fz, acc_sz, acc_rows, acc_spare, pull, pull2, pull1, pull0, idx_hit, pullOb])
 ·have c2 : ((k : Int) == (l.length : Int)) = false := by simp; omega
  have e3 : ((l.length : Int) + ((1 : Nat) : Int) - (k : Int)).toNat = l.length + 1 - k := by omega
  have c4 : ((k : Int) ≤ (l.length : Int)) = True := by simp; omega
  repeat' ((first | apply Run_seq | apply Run_skip | apply Run_ret | apply Run_nil | apply Run_condK | apply Run_ops mixed | apply Run_opsX mixed | with_reducible refine PostG_open ?_ | with_reducible refine ro_callV ?_ | simp (disch := omega) only [w64] | (with_reducible refine SliceK_own rfl rfl ?_ ?_; (focus ((try simp only [Int.natCast_nonneg, Int.le_refl]) <;> ((repeat' (with_reducible refine And.intro ?_ ?_)) <;> first | exact trivial | assumption | (simp; done) | (simp only [List.length_map] at *; omega) | omega | (simp []; done))))) | (refine CondK_split ?_ ?_ <;> intro hc <;> (try simp only [hc]) <;> try simp at hc) | (with_reducible refine And.intro ?_ ?_; (focus ((repeat' (with_reducible refine And.intro ?_ ?_)) <;> first | exact trivial | assumption | (simp; done) | (simp only [List.length_map] at *; omega) | omega | (simp [D.cells, D.ok, D.one, D.pt, D.pt1]; done)))) | (with_reducible intro x hx) | omega) <;> (try simp only [hne', c2, e3, CapO, Nat.reduceBEq, argEnv, reduceIte, Nat.reduceAdd, binD, binInt, lenD, D.pt1, fw]))
  ·refine AppO_over (c := x) (by omega) ⟨by simp, by simp only [List.length_replicate]; omega, by simp only [List.length_replicate]; omega⟩ ⟨by simp only [List.length_replicate]; omega, rfl, rfl, by simp only [List.length_replicate]; omega, rfl⟩ ?_
   have e4 : k - 0 + (l.length + 1 - k) = l.length + 1 := by omega
   have e5 : winD 0 (k - 0) l.length l = l.take k := by
    unfold winD
    simp [hkl]
   have e6 : min k l.length = k := by omega
   have e7 : min 1 (l.length + 1 - k) = 1 := by omega
   have e8 : winD k (l.length - k) l.length l = l.drop k := by
    unfold winD
    split
    ·rename_i h; rw [h.1]; rfl
    ·rw [List.take_of_length_le (by simp)]
   have e9 : ((k : Int) + ((1 : Nat) : Int)).toNat = k + 1 := by omega
   have e10 : min (l.length - k) (l.length + 1 - (k + 1)) = l.length - k := by omega
   simp only [e4, List.length_replicate, e5]
   repeat' ((first | apply Run_seq | apply Run_skip | apply Run_ret | apply Run_nil | apply Run_condK | apply Run_ops mixed | apply Run_opsX mixed | with_reducible refine PostG_open ?_ | with_reducible refine ro_callV ?_ | simp (disch := omega) only [w64] | (with_reducible refine SliceK_own rfl rfl ?_ ?_; (focus ((try simp only [Int.natCast_nonneg, Int.le_refl]) <;> ((repeat' (with_reducible refine And.intro ?_ ?_)) <;> first | exact trivial | assumption | (simp; done) | (simp only [List.length_map] at *; omega) | omega | (simp [D.cells, D.ok, D.one, D.pt, D.pt1]; done))))) | (refine CondK_split ?_ ?_ <;> intro hc <;> (try simp only [hc]) <;> try simp at hc) | (with_reducible refine And.intro ?_ ?_; (focus ((repeat' (with_reducible refine And.intro ?_ ?_)) <;> first | exact trivial | assumption | (simp; done) | (simp only [List.length_map] at *; omega) | omega | (simp [D.cells, D.ok, D.one, D.pt, D.pt1]; done)))) | (with_reducible intro x hx) | omega) <;> (try simp only [e6, e7, e8, e9, e10, hd, forall_eq, Nat.reduceBEq, reduceIte, binD, binInt, binStr, ofRes, fw]))
   have e11 : List.take (l.length + 1 - (k + 1)) (List.drop k l) = l.drop k := by rw [List.take_of_length_le (by simp)]
   rw [e11, ins_eqA (by rw [List.length_take]; omega) (by omega), acc_ne' ins_isE]
   refine GcTo_reb [1] (by first | (simp [preW, acc_sz, acc_rows]; done) | (simp [preW, acc_sz, acc_rows]; omega)) (by simp) (by simp [keptW, ObKW, ObW, imp_self, pull, pull2, pull1, pull0, idx_hit, pullOb])
  ·refine SliceK_spare (c := x) rfl rfl rfl ⟨rfl, by omega, by omega, by omega⟩ ⟨by simp, rfl, rfl, by omega, rfl, by omega⟩ ?_
   have e4 : ((l.length : Int) + ((1 : Nat) : Int)).toNat = l.length + 1 := by omega
   have e9 : ((k : Int) + ((1 : Nat) : Int)).toNat = k + 1 := by omega
   have f1 : l.length + 1 - l.length = 1 := by omega
   obtain ⟨u, hu⟩ : ∃ u, List.replicate 9 D.undef = u := ⟨_, rfl⟩
   obtain ⟨U, hU⟩ : ∃ U, List.replicate 1 u = U := ⟨_, rfl⟩
   have hUl : U.length = 1 := by rw [← hU]; rfl
   have f2 : winD k (l.length + 1 - k) (l.length + 1) (l ++ U) = l.drop k ++ U := by
    unfold winD
    split
    ·rename_i h; rw [h.1]; rfl
    ·rw [List.drop_append_of_le_length (by omega), List.take_of_length_le (by simp [hUl]; omega)]
   have f3 : List.take (l.length + 1 - (k + 1)) (l.drop k ++ U) = l.drop k := List.take_left' (by simp)
   have f6 : (∀ r ∈ l.drop k ++ U, r.length = 9) = True := by
    rw [eq_iff_iff]
    refine ⟨fun _ => trivial, fun _ r hr => ?_⟩
    rcases List.mem_append.1 hr with h | h
    ·exact hszd r h
    ·rw [← hU] at h; rw [List.eq_of_mem_replicate h, ← hu]; rfl
   have f4 : (l.drop k).all (fun r => r.all D.one) = true := by
    simp only [List.all_eq_true]
    intro r hr d hd
    exact pt1_one (List.all_eq_true.1 (List.all_eq_true.1 hp r (List.mem_of_mem_drop hr)) d hd)
   have f5 : min (l.length - k + 1) (l.length + 1 - (k + 1)) = l.length - k := by omega
   simp only [e4, Nat.sub_zero, hu]
   repeat' ((first | apply Run_seq | apply Run_skip | apply Run_nil | apply Run_condK | apply Run_ops mixed | apply Run_opsX mixed | with_reducible refine PostG_open ?_ | with_reducible refine ro_callV ?_ | simp (disch := omega) only [w64] | (with_reducible refine SliceK_own rfl rfl ?_ ?_; (focus ((try simp only [Int.natCast_nonneg, Int.le_refl]) <;> ((repeat' (with_reducible refine And.intro ?_ ?_)) <;> first | exact trivial | assumption | (simp; done) | (simp only [List.length_map] at *; omega) | omega | (simp [D.cells, D.ok, D.one, D.pt, D.pt1]; done))))) | (refine CondK_split ?_ ?_ <;> intro hc <;> (try simp only [hc]) <;> try simp at hc) | (with_reducible refine And.intro ?_ ?_; (focus ((repeat' (with_reducible refine And.intro ?_ ?_)) <;> first | exact trivial | assumption | (simp; done) | (simp only [List.length_map] at *; omega) | omega | (simp [D.cells, D.ok, D.one, D.pt, D.pt1]; done)))) | (with_reducible intro x hx) | omega) <;> (try simp only [e9, f1, f2, f3, f4, f5, f6, hUl, hU, Nat.sub_zero, hd, hdn, forall_eq, Nat.reduceBEq, reduceIte, binD, binInt, binStr, okD, unD, ne_eq, fw]))
   rw [ins_eqB rfl hUl (by omega), acc_ne' ins_isE]
   refine Run_ent (Ent_pure 0 rfl rfl (by
    show (l.take k ++ d :: l.drop k).all (fun r => r.all D.pt1) = true
    simp only [List.all_append, List.all_cons, Bool.and_eq_true]
    exact ⟨List.all_eq_true.2 fun r hr => List.all_eq_true.1 hp r (List.mem_of_mem_take hr), hpd, List.all_eq_true.2 fun r hr => List.all_eq_true.1 hp r (List.mem_of_mem_drop hr)⟩)) ?_
   repeat' ((first | apply Run_seq | apply Run_skip | apply Run_ret | apply Run_nil | apply Run_condK | apply Run_ops mixed | apply Run_opsX mixed | with_reducible refine PostG_open ?_ | with_reducible refine ro_callV ?_ | simp (disch := omega) only [w64, wu64, wu32, wu16, wu8, Int.tdiv_eq_ediv_of_nonneg, Int.tmod_eq_emod_of_nonneg] | (with_reducible refine SliceK_own rfl rfl ?_ ?_; (focus ((try simp only [reduceIte, Nat.sub_zero, fw]) <;> ((repeat' (with_reducible refine And.intro ?_ ?_)) <;> first | exact trivial | assumption | (simp; done) | (simp only [List.length_map] at *; omega) | omega | (simp [D.cells, D.ok, D.one, D.pt, D.pt1]; done))))) | (refine CondK_split ?_ ?_ <;> intro hc <;> (try simp only [hc]) <;> try simp at hc) | (with_reducible refine And.intro ?_ ?_; (focus ((repeat' (with_reducible refine And.intro ?_ ?_)) <;> first | exact trivial | assumption | (simp; done) | (simp only [List.length_map] at *; omega) | omega | (simp [D.cells, D.ok, D.one, D.pt, D.pt1]; done)))) | (with_reducible intro x hx) | omega) <;> (try simp only [ofRes, fw]))
   refine GcTo_own [0] (by rfl) (by simp) (by simp [keptW, ObKW, ObW, or_true, imp_self, pull, pull2, pull1, pull0, idx_hit, pullOb])
end Go.Proofs.Ytoleaiaeghbffaa

namespace Go.Proofs.Ytoleaiaeghbffaa
open Go Go.Vi


theorem get_mid' {α : Type} {xs ys : List α} {x y : α} {i : Nat} (h : i ≠ xs.length) : (xs ++ x :: ys)[i]? = (xs ++ y :: ys)[i]? := by
 by_cases hi : i < xs.length
 ·rw [List.getElem?_append_left hi, List.getElem?_append_left hi]
 ·rw [List.getElem?_append_right (by omega), List.getElem?_append_right (by omega)]
  obtain ⟨j, hj⟩ : ∃ j, i - xs.length = j + 1 := ⟨i - xs.length - 1, by omega⟩
  rw [hj]; simp
/-- A slice of which it isn't known whether it is nil, in a struct that is handed over: both ways. -/
theorem PureD_nils {P : Program} {f : FuncId} {pre post xs ys : List D} {tg : Bool} {rows : List (List D)} {r : D}
  (h : ∀ b, (b = true → rows = []) → PureD P f (pre ++ .agg (xs ++ .list (some b) tg rows :: ys) :: post) r) : PureD P f (pre ++ .agg (xs ++ .list none tg rows :: ys) :: post) r := by
 refine ⟨(h false (by simp)).enters, fun G w vs hG hl hr => ?_⟩
 have hlv : pre.length < vs.length := by rw [← hl]; simp
 have h1 := hr pre.length (.agg (xs ++ .list none tg rows :: ys)) vs[pre.length] (by simp) (List.getElem?_eq_getElem hlv)
 have key : ∃ b, (b = true → rows = []) ∧ PRep G w (.agg (xs ++ .list (some b) tg rows :: ys)) vs[pre.length] := by
  generalize vs[pre.length] = v at h1
  cases h1 with
  | agg _ us hlen hrep =>
   have hlu : xs.length < us.length := by rw [← hlen]; simp
   have h2 := hrep xs.length (.list none tg rows) us[xs.length] (by simp) (List.getElem?_eq_getElem hlu)
   have h3 : ∃ b, (b = true → rows = []) ∧ PRep G w (.list (some b) tg rows) us[xs.length] := by
    generalize us[xs.length] = u at h2
    cases h2 with
    | list nl tg rows A cap sz vf h1 h2 h3 h4 h5 h9 h6 h7 h8 =>
     refine ⟨A.isNone, fun hA => ?_, .list (some A.isNone) tg rows A cap sz vf (by simp) h2 h3 h4 h5 h9 h6 h7 h8⟩
     have : A = none := by simpa using hA
     exact List.eq_nil_of_length_eq_zero (by have := h2 this; omega)
   obtain ⟨b, hb, h3⟩ := h3
   refine ⟨b, hb, .agg _ us (by simpa using hlen) fun i d v hd hv => ?_⟩
   by_cases hi : i = xs.length
   ·subst hi
    simp only [List.getElem?_append_right (Nat.le_refl _), Nat.sub_self, List.getElem?_cons_zero, Option.some.injEq] at hd
    subst hd
    rw [List.getElem?_eq_getElem hlu] at hv
    cases hv
    exact h3
   ·exact hrep i d v (by rw [← hd]; exact get_mid' hi) hv
 obtain ⟨b, hb, key⟩ := key
 refine (h b hb).calls G w vs hG (by simpa using hl) fun i d v hd hv => ?_
 by_cases hi : i = pre.length
 ·subst hi
  simp only [List.getElem?_append_right (Nat.le_refl _), Nat.sub_self, List.getElem?_cons_zero, Option.some.injEq] at hd
  subst hd
  rw [List.getElem?_eq_getElem hlv] at hv
  cases hv
  exact key
 ·exact hr i d v (by rw [← hd]; exact get_mid' hi) hv
theorem with_0b (b : Bool) (t : Int) (u : Us) (ps : List Po) (ds : List Dn) : PureD Try.prog 46 [.agg [.int .i64 t, .list (some b) false [], L (rowsP ps), L (rowsD ds)], .int .i64 0, .bool false, .agg u.row] (St t [u] ps ds) := by
 refine pureV Try.func46 low46 (by simp [c46]) ?_
 simp only [c46, St]
 have hrow : rowsU [u] = [u.row] := rfl
 rw [hrow]
 cases b
 ·have ins := inU_emp u.row rfl true (some false)
  simp only [Us.row] at ins ⊢
  repeat' ((first | apply Run_seq | apply Run_ret | apply Run_nil | apply Run_condK | apply Run_ops mixed | with_reducible refine PostV_open ?_ | with_reducible refine ro_callA (f := .c (.fn 48 [])) ?_ | with_reducible refine ro_callA' (f := .c (.fn 48 [])) ?_ | with_reducible refine ro_callA (f := .c (.fn 72 [])) ?_ | with_reducible refine ro_callA' (f := .c (.fn 72 [])) ?_ | with_reducible refine ro_callV ?_ | with_reducible refine CallE_use (clU_emp _) (by simp) ?_ | with_reducible refine CallE_use (ins) (by simp) ?_ | (refine CondK_split ?_ ?_ <;> intro hc <;> (try simp only [hc]) <;> try simp at hc) | (with_reducible refine And.intro ?_ ?_; (focus ((repeat' (with_reducible refine And.intro ?_ ?_)) <;> first | exact trivial | assumption | (simp; done) | (simp only [List.length_map] at *; omega) | omega | (simp [D.one]; done)))) | (with_reducible intro x hx) | omega) <;> (try simp only [Nat.reduceBEq, argEnv, reduceIte, Nat.reduceAdd, Nat.reduceSub, Nat.reduceLeDiff, reduceCtorEq, faddrD, loadD, splice, D.cells, D.ok, D.one, D.pt, D.pt1, D.pt0, D.norm1, ne_eq, view, view2, view1, view0, mapO, pull, pull2, pull1, pull0, pullσ, pullOb, Go.Vi.freeze, capt, reachL, reachO, isin, merge, mset, renOb, fr, D.ren, D.renL, ofRes, fw]))
 ·have ins := inU_nil true u.row rfl true (some false)
  simp only [Us.row] at ins ⊢
  repeat' ((first | apply Run_seq | apply Run_ret | apply Run_nil | apply Run_condK | apply Run_ops mixed | with_reducible refine PostV_open ?_ | with_reducible refine ro_callA (f := .c (.fn 48 [])) ?_ | with_reducible refine ro_callA' (f := .c (.fn 48 [])) ?_ | with_reducible refine ro_callA (f := .c (.fn 72 [])) ?_ | with_reducible refine ro_callA' (f := .c (.fn 72 [])) ?_ | with_reducible refine ro_callV ?_ | with_reducible refine CallE_use (clU_nil _) (by simp) ?_ | with_reducible refine CallE_use (ins) (by simp) ?_ | (refine CondK_split ?_ ?_ <;> intro hc <;> (try simp only [hc]) <;> try simp at hc) | (with_reducible refine And.intro ?_ ?_; (focus ((repeat' (with_reducible refine And.intro ?_ ?_)) <;> first | exact trivial | assumption | (simp; done) | (simp only [List.length_map] at *; omega) | omega | (simp [D.one]; done)))) | (with_reducible intro x hx) | omega) <;> (try simp only [Nat.reduceBEq, argEnv, reduceIte, Nat.reduceAdd, Nat.reduceLeDiff, reduceCtorEq, faddrD, loadD, splice, D.cells, D.ok, D.one, D.pt, D.pt1, D.pt0, D.norm1, ne_eq, view, view2, view1, view0, mapO, pull, pull2, pull1, pull0, pullσ, Go.Vi.freeze, capt, reachL, merge, mset, renOb, fr, D.ren, D.renL, ofRes, fw]))
theorem with_0 (t : Int) (u : Us) (ps : List Po) (ds : List Dn) : PureD Try.prog 46 [.agg [.int .i64 t, L [], L (rowsP ps), L (rowsD ds)], .int .i64 0, .bool false, .agg u.row] (St t [u] ps ds) :=
 PureD_nils (pre := []) (xs := [.int .i64 t]) (ys := [L (rowsP ps), L (rowsD ds)]) (post := [.int .i64 0, .bool false, .agg u.row]) fun b _ => with_0b b t u ps ds
end Go.Proofs.Ytoleaiaeghbffaa

namespace Go.Proofs.Ytoleaiaeghbffaa
open Go Go.Vi


theorem rowsU_snoc {l : List Us} {x : Us} : rowsU l ++ [[D.int IntKind.u32 x.id, D.int IntKind.i64 x.se.base, L (row2 .i64 .i64 x.se.turns), L (row3 x.se.shifts), L (row1 .i64 x.se.off), .int .i64 x.se.before, .int .i64 x.se.after, .int .u64 x.ver, L (rowsE x.evs)]] = rowsU (l ++ [x]) := by simp [rowsU, Us.row]
theorem rowsU_nil : rowsU [] = [] := rfl
/-- A user put into users, as the document does it. -/
def withS (u : Us) (s : List Us × Bool) (x : Us) : List Us × Bool :=
 let a := if s.2 = false ∧ u.id ≤ x.id then (s.1 ++ [u], true) else s
 if x.id = u.id then a else (a.1 ++ [x], a.2)
def withG (u : Us) (l : List Us) : List Us × Bool := l.foldl (withS u) ([], false)
def withR (us : List Us) (u : Us) : List Us := if (withG u us).2 then (withG u us).1 else (withG u us).1 ++ [u]
theorem withG_snoc (u : Us) (l : List Us) (x : Us) : withG u (l ++ [x]) = withS u (withG u l) x := by simp [withG]
theorem withS_len (u : Us) (s : List Us × Bool) (x : Us) : (withS u s x).1.length ≤ s.1.length + 2 := by
 unfold withS
 dsimp only
 (repeat' split) <;> simp
theorem withG_len (u : Us) : ∀ l : List Us, (withG u l).1.length ≤ 2 * l.length := by
 have : ∀ (l : List Us) (s : List Us × Bool), (l.foldl (withS u) s).1.length ≤ s.1.length + 2 * l.length := by
  intro l
  induction l with
  | nil => intro s; simp
  | cons x l ih => intro s; have h1 := ih (withS u s x); have h2 := withS_len u s x; simp only [List.foldl_cons, List.length_cons]; omega
 intro l
 have := this l ([], false)
 simpa [withG] using this
set_option maxHeartbeats 1000000 in
theorem refWith_p (t : Int) (us : List Us) (ps : List Po) (ds : List Dn) (u : Us) (hl : us.length ≤ 1000000000) : PureD Try.prog 59 [St t us ps ds, .agg u.row] (St t (withR us u) ps ds) := by
 refine pureV Try.func59 low59 (by simp [c59]) ?_
 simp only [c59, St, Us.row]
 repeat' ((first | apply Run_seq | apply Run_skip | apply Run_block | apply Run_blk | refine Run_exit rfl ?_ | apply Run_ret | apply Run_nil | apply Run_condK | apply Run_ops mixed | apply Run_opsX mixed | with_reducible refine PostV_open ?_ | simp (disch := omega) only [w64, wu64, wu32, wu16, wu8, Int.tdiv_eq_ediv_of_nonneg, Int.tmod_eq_emod_of_nonneg] | ((first | refine GuardK_split ?_ ?_ | refine CondK_split ?_ ?_) <;> intro hc <;> (try simp only [hc]) <;> try simp at hc) | (with_reducible refine And.intro ?_ ?_; (focus ((repeat' (with_reducible refine And.intro ?_ ?_)) <;> first | exact trivial | assumption | (simp; done) | (simp only [List.length_map] at *; omega) | omega | (simp [D.cells, D.ok, D.one, D.pt, D.pt1]; done)))) | (with_reducible intro x hx) | omega) <;> (try simp only [rowsU_len, Nat.reduceBEq, argEnv, Nat.reduceAdd, reduceCtorEq, faddrD, lenD, loadD, D.cells, D.ok, D.one, D.pt1, implies_true, ne_eq, fw]))
 refine Run_ent (Ent_acc (t := 5) (b := false) 9 true (by decide) rfl) ?_
 refine Run_loop (ι := {i : Nat // i ≤ us.length}) (fun i => ([(2, .ptr 0 0 0 1), (3, .ptr 1 0 0 1), (4, .ptr 2 0 0 1), (5, .own 3 0 (withG u (us.take i.1)).1.length (withG u (us.take i.1)).1.length 9 none), (6, .bool (withG u (us.take i.1)).2), (11, .int .i64 us.length), (12, .int .i64 i.1)],
  [⟨true, false, true, false, 4, [[.int .i64 t, L (rowsU us), L (rowsP ps), L (rowsD ds)]], some 0⟩, ⟨true, false, true, false, 9, [u.row], some 0⟩, ⟨true, false, true, false, 4, [[.int .i64 0, .list (some true) true [], .list (some true) true [], .list (some true) true []]], some 0⟩, acc false 9 true (rowsU (withG u (us.take i.1)).1)])) (fun i => us.length - i.1) ⟨0, by simp⟩ ?_ ?_
 ·simp only [List.take_zero, show withG u [] = ([], false) from rfl, rowsU_nil, List.length_nil, Us.row]
  refine Ent_gc [0, 1, 2, 3] (by rfl) (by simp) (by simp [keptW, ObKW, ObW, imp_self, acc_real, acc_nl, acc_pure, acc_fz, acc_sz, acc_rows, acc_spare, pullOb, or_false]) (by simp [lk_hit, lk_miss, D.pt0, viewS_own', pull, pull2, pull1, pull0, idx_hit, idx_miss, sucO_some, gate, List.mem_cons, or_false, view0])
 rintro ⟨i, hi⟩ hk
 dsimp only at hk ⊢
 have hlen := withG_len u (us.take i)
 simp only [List.length_take] at hlen
 by_cases hlt : i < us.length
 ·have c1 : ((i : Int) < (us.length : Int)) = True := by simp; omega
  obtain ⟨x, hx⟩ : ∃ x, us[i]? = some x := ⟨_, List.getElem?_eq_getElem hlt⟩
  have hr := rowsU_get hx
  have ht : us.take (i + 1) = us.take i ++ [x] := by rw [List.take_add_one, hx]; rfl
  have hg := withG_snoc u (us.take i) x
  generalize withG u (us.take i) = g at hg hlen
  obtain ⟨o, p⟩ := g
  dsimp only at hlen ⊢
  have q1 : (x.id == u.id) = decide (x.id = u.id) := by rw [Bool.eq_iff_iff]; simp
  cases p with
  | false =>
   by_cases hle : u.id ≤ x.id
   ·have c2 : (x.id ≥ u.id) = True := by simp; omega
    by_cases hxu : x.id = u.id
    ·have c3 : (x.id == u.id) = true := by simpa using hxu
     have e : withS u (o, false) x = (o ++ [u], true) := by
      simp [withS, *]
     repeat' ((first | apply Run_seq | apply Run_skip | apply Run_block | apply Run_blk | refine Run_exit rfl ?_ | apply Run_ret | apply Run_nil | apply Run_condK | apply Run_ops mixed | apply Run_opsX mixed | with_reducible refine PostV_open ?_ | simp (disch := omega) only [w64] | ((first | refine GuardK_split ?_ ?_ | refine CondK_split ?_ ?_) <;> intro hc <;> (try simp only [hc]) <;> try simp at hc) | (with_reducible refine And.intro ?_ ?_; (focus ((repeat' (with_reducible refine And.intro ?_ ?_)) <;> first | exact trivial | assumption | (simp; done) | (simp only [List.length_map] at *; omega) | omega | (simp [D.one]; done)))) | (with_reducible intro x hx) | omega) <;> (try simp only [rowsU_len, rowsU_snoc, c1, hr, Us.row, c2, Nat.reduceBEq, reduceIte, Nat.reduceEqDiff, Nat.reduceAdd, Nat.reduceLeDiff, binD, binInt, binStr, okD, unD, pickD, faddrD, loadD, D.cells, D.ok, D.one, D.pt, D.pt1, D.norm1, cond_true, Int.reduceNeg, IntKind.bits, fw]))
     refine hk ⟨i + 1, by omega⟩ _ _ (by dsimp only; omega) ?_
     dsimp only [Us.row]
     rw [ht, hg, e]
     simp only [List.length_append, List.length_cons, List.length_nil]
     refine Ent_gc [0, 1, 2, 3] (by rfl) (by simp) (by simp [keptW, ObKW, ObW, imp_self, acc_real, acc_nl, acc_pure, acc_fz, acc_sz, acc_rows, acc_spare, pullOb, or_false]) (by simp [lk_hit, lk_miss, D.pt0, viewS_own', pull, pull2, pull1, pull0, idx_hit, idx_miss, sucO_some, gate, List.mem_cons, or_false, view0])
    ·have c3 : (x.id == u.id) = false := by simpa using hxu
     have e : withS u (o, false) x = (o ++ [u] ++ [x], true) := by
      simp [withS, *]
     repeat' ((first | apply Run_seq | apply Run_skip | apply Run_block | apply Run_blk | refine Run_exit rfl ?_ | apply Run_ret | apply Run_nil | apply Run_condK | apply Run_ops mixed | apply Run_opsX mixed | with_reducible refine PostV_open ?_ | simp (disch := omega) only [w64] | ((first | refine GuardK_split ?_ ?_ | refine CondK_split ?_ ?_) <;> intro hc <;> (try simp only [hc]) <;> try simp at hc) | (with_reducible refine And.intro ?_ ?_; (focus ((repeat' (with_reducible refine And.intro ?_ ?_)) <;> first | exact trivial | assumption | (simp; done) | (simp only [List.length_map] at *; omega) | omega | (simp [D.one]; done)))) | (with_reducible intro x hx) | omega) <;> (try simp only [rowsU_len, rowsU_snoc, c1, hr, Us.row, c2, Nat.reduceBEq, reduceIte, Nat.reduceAdd, Nat.reduceLeDiff, binD, binInt, binStr, okD, unD, pickD, faddrD, loadD, D.cells, D.ok, D.one, D.pt, D.pt1, D.norm1, cond_true, Int.reduceNeg, IntKind.bits, fw]))
     refine hk ⟨i + 1, by omega⟩ _ _ (by dsimp only; omega) ?_
     dsimp only [Us.row]
     rw [ht, hg, e]
     simp only [List.length_append, List.length_cons, List.length_nil]
     refine Ent_gc [0, 1, 2, 3] (by rfl) (by simp) (by simp [keptW, ObKW, ObW, imp_self, acc_real, acc_nl, acc_pure, acc_fz, acc_sz, acc_rows, acc_spare, pullOb, or_false]) (by simp [lk_hit, lk_miss, D.pt0, viewS_own', pull, pull2, pull1, pull0, idx_hit, idx_miss, sucO_some, gate, List.mem_cons, or_false, view0])
   ·have c2 : (x.id ≥ u.id) = False := by simp; omega
    have hxu : ¬ x.id = u.id := by omega
    have c3 : (x.id == u.id) = false := by simpa using hxu
    have e : withS u (o, false) x = (o ++ [x], false) := by
     simp [withS, *]
    repeat' ((first | apply Run_seq | apply Run_skip | apply Run_block | apply Run_blk | refine Run_exit rfl ?_ | apply Run_ret | apply Run_nil | apply Run_condK | apply Run_ops mixed | apply Run_opsX mixed | with_reducible refine PostV_open ?_ | simp (disch := omega) only [w64] | ((first | refine GuardK_split ?_ ?_ | refine CondK_split ?_ ?_) <;> intro hc <;> (try simp only [hc]) <;> try simp at hc) | (with_reducible refine And.intro ?_ ?_; (focus ((repeat' (with_reducible refine And.intro ?_ ?_)) <;> first | exact trivial | assumption | (simp; done) | (simp only [List.length_map] at *; omega) | omega | (simp [D.one]; done)))) | (with_reducible intro x hx) | omega) <;> (try simp only [rowsU_len, rowsU_snoc, c1, hr, Us.row, c2, Nat.reduceBEq, reduceIte, Nat.reduceAdd, Nat.reduceLeDiff, binD, binInt, binStr, okD, unD, pickD, faddrD, loadD, D.cells, D.ok, D.one, D.pt, D.pt1, D.norm1, cond_true, Int.reduceNeg, IntKind.bits, fw]))
    refine hk ⟨i + 1, by omega⟩ _ _ (by dsimp only; omega) ?_
    dsimp only [Us.row]
    rw [ht, hg, e]
    simp only [List.length_append, List.length_cons, List.length_nil]
    refine Ent_gc [0, 1, 2, 3] (by rfl) (by simp) (by simp [keptW, ObKW, ObW, imp_self, acc_real, acc_nl, acc_pure, acc_fz, acc_sz, acc_rows, acc_spare, pullOb, or_false]) (by simp [lk_hit, lk_miss, D.pt0, viewS_own', pull, pull2, pull1, pull0, idx_hit, idx_miss, sucO_some, gate, List.mem_cons, or_false, view0])
  | true =>
   by_cases hxu : x.id = u.id
   ·have c3 : (x.id == u.id) = true := by simpa using hxu
    have e : withS u (o, true) x = (o, true) := by
     simp [withS, *]
    repeat' ((first | apply Run_seq | apply Run_skip | apply Run_block | apply Run_blk | refine Run_exit rfl ?_ | apply Run_ret | apply Run_nil | apply Run_condK | apply Run_ops mixed | apply Run_opsX mixed | with_reducible refine PostV_open ?_ | simp (disch := omega) only [w64] | ((first | refine GuardK_split ?_ ?_ | refine CondK_split ?_ ?_) <;> intro hc <;> (try simp only [hc]) <;> try simp at hc) | (with_reducible refine And.intro ?_ ?_; (focus ((repeat' (with_reducible refine And.intro ?_ ?_)) <;> first | exact trivial | assumption | (simp; done) | (simp only [List.length_map] at *; omega) | omega | (simp [D.cells, D.ok, D.one, D.pt, D.pt1]; done)))) | (with_reducible intro x hx) | omega) <;> (try simp only [rowsU_len, rowsU_snoc, c1, hr, Us.row, Nat.reduceBEq, reduceIte, Nat.reduceEqDiff, Nat.reduceAdd, Nat.reduceLeDiff, binD, binInt, binStr, okD, unD, pickD, faddrD, loadD, D.cells, D.ok, D.one, D.pt, D.pt1, D.norm1, cond_false, Int.reduceNeg, IntKind.bits, fw]))
    refine hk ⟨i + 1, by omega⟩ _ _ (by dsimp only; omega) ?_
    dsimp only [Us.row]
    rw [ht, hg, e]
    simp only []
    refine Ent_gc [0, 1, 2, 3] (by rfl) (by simp) (by simp [keptW, ObKW, ObW, imp_self, acc_real, acc_nl, acc_pure, acc_fz, acc_sz, acc_rows, acc_spare, pullOb, or_false]) (by simp [lk_hit, lk_miss, D.pt0, viewS_own', pull, pull2, pull1, pull0, idx_hit, idx_miss, sucO_some, gate, List.mem_cons, or_false, view0])
   ·have c3 : (x.id == u.id) = false := by simpa using hxu
    have e : withS u (o, true) x = (o ++ [x], true) := by
     simp [withS, *]
    repeat' ((first | apply Run_seq | apply Run_skip | apply Run_block | apply Run_blk | refine Run_exit rfl ?_ | apply Run_ret | apply Run_nil | apply Run_condK | apply Run_ops mixed | apply Run_opsX mixed | with_reducible refine PostV_open ?_ | simp (disch := omega) only [w64] | ((first | refine GuardK_split ?_ ?_ | refine CondK_split ?_ ?_) <;> intro hc <;> (try simp only [hc]) <;> try simp at hc) | (with_reducible refine And.intro ?_ ?_; (focus ((repeat' (with_reducible refine And.intro ?_ ?_)) <;> first | exact trivial | assumption | (simp; done) | (simp only [List.length_map] at *; omega) | omega | (simp [D.one]; done)))) | (with_reducible intro x hx) | omega) <;> (try simp only [rowsU_len, rowsU_snoc, c1, hr, Us.row, Nat.reduceBEq, reduceIte, Nat.reduceAdd, Nat.reduceLeDiff, binD, binInt, binStr, okD, unD, pickD, faddrD, loadD, D.cells, D.ok, D.one, D.pt, D.pt1, D.norm1, cond_false, Int.reduceNeg, IntKind.bits, fw]))
    refine hk ⟨i + 1, by omega⟩ _ _ (by dsimp only; omega) ?_
    dsimp only [Us.row]
    rw [ht, hg, e]
    simp only [List.length_append, List.length_cons, List.length_nil]
    refine Ent_gc [0, 1, 2, 3] (by rfl) (by simp) (by simp [keptW, ObKW, ObW, imp_self, acc_real, acc_nl, acc_pure, acc_fz, acc_sz, acc_rows, acc_spare, pullOb, or_false]) (by simp [lk_hit, lk_miss, D.pt0, viewS_own', pull, pull2, pull1, pull0, idx_hit, idx_miss, sucO_some, gate, List.mem_cons, or_false, view0])
 ·have c1 : ((i : Int) < (us.length : Int)) = False := by simp; omega
  obtain rfl : i = us.length := by omega
  rw [List.take_length] at hlen ⊢
  have hR : withR us u = if (withG u us).2 then (withG u us).1 else (withG u us).1 ++ [u] := rfl
  generalize withG u us = g at hlen hR ⊢
  obtain ⟨o, p⟩ := g
  dsimp only at hlen hR ⊢
  rw [hR]
  cases p with
  | true =>
   simp only [if_true]
   repeat' ((first | apply Run_seq | apply Run_skip | apply Run_block | apply Run_blk | refine Run_exit rfl ?_ | apply Run_ret | apply Run_nil | apply Run_condK | apply Run_ops mixed | apply Run_opsX mixed | with_reducible refine PostV_open ?_ | simp (disch := omega) only [w64, wu64, wu32, wu16, wu8, Int.tdiv_eq_ediv_of_nonneg, Int.tmod_eq_emod_of_nonneg] | ((first | refine GuardK_split ?_ ?_ | refine CondK_split ?_ ?_) <;> intro hc <;> (try simp only [hc]) <;> try simp at hc) | (with_reducible refine And.intro ?_ ?_; (focus ((repeat' (with_reducible refine And.intro ?_ ?_)) <;> first | exact trivial | assumption | (simp; done) | (simp only [List.length_map] at *; omega) | omega | (simp [D.cells, D.ok, D.one, D.pt, D.pt1]; done)))) | (with_reducible intro x hx) | omega) <;> (try simp only [rowsU_len, c1, Us.row, Nat.reduceBEq, reduceIte, Nat.reduceAdd, Nat.reduceLeDiff, binD, binInt, okD, unD, faddrD, loadD, splice, D.cells, D.ok, D.one, D.pt1, D.pt0, D.norm1, view, view2, view1, view0, mapO, ofRes, fw]))
  | false =>
   simp only [Bool.false_eq_true, if_false]
   repeat' ((first | apply Run_seq | apply Run_skip | apply Run_block | apply Run_blk | refine Run_exit rfl ?_ | apply Run_ret | apply Run_nil | apply Run_condK | apply Run_ops mixed | apply Run_opsX mixed | with_reducible refine PostV_open ?_ | simp (disch := omega) only [w64, wu64, wu32, wu16, wu8, Int.tdiv_eq_ediv_of_nonneg, Int.tmod_eq_emod_of_nonneg] | ((first | refine GuardK_split ?_ ?_ | refine CondK_split ?_ ?_) <;> intro hc <;> (try simp only [hc]) <;> try simp at hc) | (with_reducible refine And.intro ?_ ?_; (focus ((repeat' (with_reducible refine And.intro ?_ ?_)) <;> first | exact trivial | assumption | (simp; done) | (simp only [List.length_map] at *; omega) | omega | (simp [D.one]; done)))) | (with_reducible intro x hx) | omega) <;> (try simp only [rowsU_len, rowsU_snoc, c1, Us.row, Nat.reduceBEq, reduceIte, Nat.reduceAdd, Nat.reduceLeDiff, binD, binInt, okD, unD, faddrD, loadD, splice, D.cells, D.ok, D.one, D.pt, D.pt1, D.pt0, D.norm1, view, view2, view1, view0, mapO, ofRes, fw]))
end Go.Proofs.Ytoleaiaeghbffaa

namespace Go.Proofs.Ytoleaiaeghbffaa
open Go Go.Vi
def rep (u x : Us) : Us := if x.id = u.id then u else x
theorem rep_id (u x : Us) : (rep u x).id = x.id := by unfold rep; split <;> simp [*]
theorem map_rep_none (u : Us) : ∀ l : List Us, (∀ x ∈ l, x.id ≠ u.id) → l.map (rep u) = l
 | [], _ => rfl
 | x :: l, h => by
  rw [List.map_cons, map_rep_none u l fun y hy => h y (by simp [hy])]
  have := h x (by simp)
  simp [rep, this]
theorem fold_true (u : Us) : ∀ (l acc : List Us), (∀ x ∈ l, x.id ≠ u.id) → l.foldl (withS u) (acc, true) = (acc ++ l, true)
 | [], acc, _ => by simp
 | x :: l, acc, h => by
  have hx := h x (by simp)
  have e : withS u (acc, true) x = (acc ++ [x], true) := by simp [withS, hx]
  rw [List.foldl_cons, e, fold_true u l _ fun y hy => h y (by simp [hy])]
  simp
theorem fold_false (u : Us) : ∀ (l acc : List Us), (l.Pairwise fun a b => a.id < b.id) → (∃ x ∈ l, x.id = u.id) → l.foldl (withS u) (acc, false) = (acc ++ l.map (rep u), true)
 | [], _, _, h => by simp at h
 | x :: l, acc, hs, h => by
  obtain ⟨h1, h2⟩ := List.pairwise_cons.1 hs
  by_cases hx : x.id = u.id
  ·have e : withS u (acc, false) x = (acc ++ [u], true) := by simp [withS, hx]
   have hn : ∀ y ∈ l, y.id ≠ u.id := fun y hy => by have := h1 y hy; omega
   rw [List.foldl_cons, e, fold_true u l _ hn, List.map_cons, map_rep_none u l hn]
   simp [rep, hx]
  ·obtain ⟨y, hy, hyu⟩ := h
   have hyl : y ∈ l := by
    rcases List.mem_cons.1 hy with rfl | h
    ·exact absurd hyu hx
    ·exact h
   have hlt := h1 y hyl
   have e : withS u (acc, false) x = (acc ++ [x], false) := by
    have : ¬ u.id ≤ x.id := by omega
    simp [withS, hx, this]
   rw [List.foldl_cons, e, fold_false u l _ h2 ⟨y, hyl, hyu⟩]
   simp [rep, hx]
theorem withR_map {us : List Us} {u : Us} (hs : us.Pairwise fun a b => a.id < b.id) (h : ∃ x ∈ us, x.id = u.id) : withR us u = us.map (rep u) := by
 have : withG u us = (us.map (rep u), true) := by
  have := fold_false u us [] hs h
  simpa [withG] using this
 simp [withR, this]
theorem findU_some {us : List Us} {id : Int} {u : Us} (h : findU us id = some u) : u ∈ us ∧ u.id = id := by
 unfold findU at h
 have h1 := List.find?_some h
 exact ⟨List.mem_of_find?_eq_some h, by simpa using h1⟩
end Go.Proofs.Ytoleaiaeghbffaa

namespace Go.Proofs.Ytoleaiaeghbffaa
open Go Go.Vi

def zrU : List D := [.int .u32 0, .int .i64 0, .list (some true) true [], .list (some true) true [], .list (some true) true [], .int .i64 0, .int .i64 0, .int .u64 0, .list (some true) true []]
set_option maxHeartbeats 1000000 in
theorem delU_p (l : List (List D)) (k : Nat) (hsz : ∀ r ∈ l, r.length = 9) (hp : (l.all fun r => r.all D.pt1) = true) (hl : l.length ≤ 400000000000) (hk : k < l.length) : CallG Try.prog 47 [.own 0 0 l.length l.length 9 none, .int .i64 k, .int .i64 (k + 1)] [acc true 9 true l]
  (.own 0 0 (l.length - 1) l.length 9 none) [acc true 9 true (l.take k ++ l.drop (k + 1) ++ [zrU])] := by
 refine callG Try.func47 low47 (by simp [c47]) ?_
 simp only [c47]
 have hne' : l.isEmpty = false := by
  cases l with
  | nil => simp at hk
  | cons => rfl
 have c2 : ((k : Int) == (k : Int) + 1) = false := by simp; omega
 have e1 : (1 : Int) + (k : Int) = (k : Int) + 1 := by omega
 have e2 : ((k : Int) + 1).toNat = k + 1 := by omega
 have e3 : winD (k + 1) (l.length - (k + 1)) l.length l = l.drop (k + 1) := by
  unfold winD
  rw [if_neg (by omega), List.take_of_length_le (by simp)]
 repeat' ((first | apply Run_seq | apply Run_skip | apply Run_ret | apply Run_nil | apply Run_condK | apply Run_ops mixed | apply Run_opsX mixed | with_reducible refine PostG_open ?_ | (with_reducible refine SliceK_own rfl rfl ?_ ?_; (focus ((try simp only [Int.natCast_nonneg, Int.le_refl]) <;> ((repeat' (with_reducible refine And.intro ?_ ?_)) <;> first | exact trivial | assumption | (simp; done) | (simp only [List.length_map] at *; omega) | omega | (simp [D.cells, D.ok, D.one, D.pt, D.pt1]; done))))) | (refine CondK_split ?_ ?_ <;> intro hc <;> (try simp only [hc]) <;> try simp at hc) | (with_reducible refine And.intro ?_ ?_; (focus ((repeat' (with_reducible refine And.intro ?_ ?_)) <;> first | exact trivial | assumption | (simp; done) | (simp only [List.length_map] at *; omega) | omega | (simp [D.cells, D.ok, D.one, D.pt, D.pt1]; done)))) | (with_reducible intro x hx) | omega) <;> (try simp only [c2, e2, e3, Nat.reduceBEq, argEnv, reduceIte, Nat.reduceAdd, binD, binInt, lenD, slice3D, bndD, fw]))
 refine ⟨fun r hr => hsz r (List.mem_of_mem_drop hr), ?_⟩
 have e4 : k + (l.length - (k + 1)) = l.length - 1 := by omega
 refine AppO_in (by omega) ⟨rfl, by simp only [List.length_drop]; omega, by simp only [List.length_drop]; omega⟩ ⟨rfl, by simp only [List.length_drop]; omega, by simp⟩ ?_
 simp only [Nat.sub_zero, Nat.zero_add, List.length_drop, e4]
 repeat' ((first | apply Run_seq | apply Run_skip | apply Run_ret | apply Run_nil | apply Run_condK | apply Run_ops mixed | apply Run_opsX mixed | with_reducible refine PostG_open ?_ | (with_reducible refine SliceK_own rfl rfl ?_ ?_; (focus ((try simp only [Int.natCast_nonneg]) <;> ((repeat' (with_reducible refine And.intro ?_ ?_)) <;> first | exact trivial | assumption | (simp; done) | (simp only [List.length_map] at *; omega) | omega | (simp []; done))))) | (refine CondK_split ?_ ?_ <;> intro hc <;> (try simp only [hc]) <;> try simp at hc) | (with_reducible refine And.intro ?_ ?_; (focus ((repeat' (with_reducible refine And.intro ?_ ?_)) <;> first | exact trivial | assumption | (simp; done) | (simp only [List.length_map] at *; omega) | omega | (simp [D.cells, D.ok, D.one, D.pt, D.pt1]; done)))) | (with_reducible intro x hx) | omega) <;> (try simp only [hne', Nat.reduceBEq, lenD, fw]))
 have e5 : (l.take k ++ l.drop (k + 1) ++ l.drop (l.length - 1)).length = l.length := by simp only [List.length_append, List.length_take, List.length_drop]; omega
 have e6 : List.take (l.length - 1) (l.take k ++ l.drop (k + 1) ++ l.drop (l.length - 1)) = l.take k ++ l.drop (k + 1) := List.take_left' (by simp only [List.length_append, List.length_take, List.length_drop]; omega)
 have e7 : List.drop (l.length - 1 + 1) (l.take k ++ l.drop (k + 1) ++ l.drop (l.length - 1)) = [] := List.drop_eq_nil_of_le (by rw [e5]; omega)
 generalize l.take k ++ l.drop (k + 1) ++ l.drop (l.length - 1) = m at e5 e6 e7 ⊢
 refine SliceK_more rfl rfl rfl ⟨rfl, by omega, by omega, by omega⟩ ⟨e5, rfl, by omega⟩ ?_
 have e8 : l.length - (l.length - 1) = 1 := by omega
 simp only [e5, e6, e7, e8, List.replicate_one, ro_nil, ro_clear, ClearK_own, ClearO_some, lk_hit, put_some, put_none, ev_t, Nat.reduceAdd, D.pt1, true_and, and_self, Bool.and_true, List.getElem?_cons_zero, List.length_cons, List.length_nil, List.append_nil, List.all_cons, List.all_nil, List.set_cons_zero, Nat.zero_add, Int.toNat_natCast]
 repeat' ((first | apply Run_seq | apply Run_skip | apply Run_ret | apply Run_nil | apply Run_condK | apply Run_ops mixed | apply Run_opsX mixed | with_reducible refine PostG_open ?_ | (with_reducible refine SliceK_own rfl rfl ?_ ?_; (focus ((try simp only [reduceIte, Nat.sub_zero, fw]) <;> ((repeat' (with_reducible refine And.intro ?_ ?_)) <;> first | exact trivial | assumption | (simp; done) | (simp only [List.length_map] at *; omega) | omega | (simp [D.cells, D.ok, D.one, D.pt, D.pt1]; done))))) | (refine CondK_split ?_ ?_ <;> intro hc <;> (try simp only [hc]) <;> try simp at hc) | (with_reducible refine And.intro ?_ ?_; (focus ((repeat' (with_reducible refine And.intro ?_ ?_)) <;> first | exact trivial | assumption | (simp; done) | (simp only [List.length_map] at *; omega) | omega | (simp [D.cells, D.ok, D.one, D.pt, D.pt1]; done)))) | (with_reducible intro x hx) | omega) <;> (try simp only [Nat.reduceBEq, ofRes, fw]))
 rw [acc_ne' (rows := l.take k ++ l.drop (k + 1) ++ [zrU]) (by simp)]
 unfold zrU
 refine GcTo_own [0] (by rfl) (by simp) (by simp [keptW, ObKW, ObW, imp_self, pull, pull2, pull1, pull0, idx_hit, pullOb])
end Go.Proofs.Ytoleaiaeghbffaa

namespace Go.Proofs.Ytoleaiaeghbffaa
open Go Go.Vi


theorem clP_ne (tg : Bool) (l : List (List D)) (hne : l ≠ []) (hsz : ∀ r ∈ l, r.length = 16) (hl : l.length ≤ 400000000000) : CallG Try.prog 50 [.list none tg l] [] (.own 0 0 l.length l.length 16 none) [acc true 16 true l] := by
 refine callG Try.func50 low50 (by simp [c50]) ?_
 simp only [c50]
 refine Run_nils 0 rfl fun b hb => ?_
 obtain rfl : b = false := by
  cases b with
  | false => rfl
  | true => exact absurd (hb rfl) hne
 repeat' ((first | apply Run_seq | apply Run_skip | apply Run_ret | apply Run_nil | apply Run_condK | apply Run_ops mixed | with_reducible refine PostG_open ?_ | (refine CondK_split ?_ ?_ <;> intro hc <;> (try simp only [hc]) <;> try simp at hc) | (with_reducible refine And.intro ?_ ?_; (focus ((repeat' (with_reducible refine And.intro ?_ ?_)) <;> first | exact trivial | assumption | (simp; done) | (simp only [List.length_map] at *; omega) | omega | (simp [D.cells, D.ok, D.one, D.pt, D.pt1]; done)))) | (with_reducible intro x hx) | omega) <;> (try simp only [Nat.reduceBEq, argEnv, eqD, eqN, boolD, D.cells, D.ok, D.one, cond_false, implies_true, ofRes, fw]))
 rw [acc_b' (by simpa using hne)]
 refine GcTo_own [0] (by rfl) (by simp) (by simp [keptW, ObKW, ObW, imp_self, acc_real, acc_nl, acc_pure, acc_fz, acc_sz, acc_rows, acc_spare, pull, pull2, pull1, pull0, idx_hit, pullOb])
theorem clP_nil (tg : Bool) : CallG Try.prog 50 [.list (some true) tg []] [] (.list (some true) true []) [] := by
 refine callG Try.func50 low50 (by simp [c50]) ?_
 simp only [c50]
 repeat' ((first | apply Run_seq | apply Run_skip | apply Run_ret | apply Run_nil | apply Run_condK | apply Run_ops mixed | with_reducible refine PostG_open ?_ | (refine CondK_split ?_ ?_ <;> intro hc <;> (try simp only [hc]) <;> try simp at hc) | (with_reducible refine And.intro ?_ ?_; (focus ((repeat' (with_reducible refine And.intro ?_ ?_)) <;> first | exact trivial | assumption | (simp; done) | (simp only [List.length_map] at *; omega) | omega | (simp [D.cells, D.ok, D.one, D.pt, D.pt1]; done)))) | (with_reducible intro x hx) | omega) <;> (try simp only [Nat.reduceBEq, argEnv, eqD, eqN, boolD, cond_false, ofRes, fw]))
 refine GcTo_own [] (by rfl) (by simp) (by simp [keptW, D.pt0, pull, pull2, pull1, pull0])
theorem clP_emp (tg : Bool) : CallG Try.prog 50 [.list (some false) tg []] [] (.own 0 0 0 0 16 none) [acc false 16 true []] := by
 refine callG Try.func50 low50 (by simp [c50]) ?_
 simp only [c50]
 repeat' ((first | apply Run_seq | apply Run_skip | apply Run_ret | apply Run_nil | apply Run_condK | apply Run_ops mixed | with_reducible refine PostG_open ?_ | (refine CondK_split ?_ ?_ <;> intro hc <;> (try simp only [hc]) <;> try simp at hc) | (with_reducible refine And.intro ?_ ?_; (focus ((repeat' (with_reducible refine And.intro ?_ ?_)) <;> first | exact trivial | assumption | (simp; done) | (simp only [List.length_map] at *; omega) | omega | (simp [D.cells, D.ok, D.one, D.pt, D.pt1]; done)))) | (with_reducible intro x hx) | omega) <;> (try simp only [Nat.reduceBEq, argEnv, Nat.reduceMul, Nat.reduceLeDiff, eqD, eqN, boolD, D.cells, D.ok, D.one, cond_false, implies_true, ofRes, fw]))
 refine GcTo_own [0] (by rfl) (by simp) (by simp [keptW, ObKW, ObW, imp_self, acc_real, acc_nl, acc_pure, acc_fz, acc_sz, acc_rows, acc_spare, pull, pull2, pull1, pull0, idx_hit, pullOb])
theorem lv1_p (p : Po) (user : Int) : PureD Try.prog 51 [.agg p.row, .elt [.int .u32 user] 0] (.bool (p.owner == user)) := by
 refine pureV Try.func51 low51 (by simp [c51]) ?_
 simp only [c51, Po.row]
 repeat' ((first | apply Run_seq | apply Run_ret | apply Run_nil | apply Run_ops mixed | with_reducible refine PostV_open ?_ | (with_reducible refine And.intro ?_ ?_; (focus ((repeat' (with_reducible refine And.intro ?_ ?_)) <;> first | exact trivial | assumption | (simp; done) | (simp only [List.length_map] at *; omega) | omega | (simp [D.cells, D.ok, D.one, D.pt, D.pt1]; done)))) | (with_reducible intro x hx) | omega) <;> (try simp only [Nat.reduceBEq, argEnv, reduceIte, Nat.reduceAdd, reduceCtorEq, binD, binInt, faddrD, loadD, D.cells, D.ok, D.one, D.pt1, D.pt0, D.norm1, ne_eq, view, view2, view1, view0, ofRes, fw]))
def idxP (user : Int) : List Po → Nat → Int
 | [], _ => -1
 | p :: l, n => if p.owner = user then n else idxP user l (n + 1)
theorem idxP_spec (user : Int) : ∀ (l : List Po) (n : Nat), (idxP user l n = -1 ∧ ∀ p ∈ l, p.owner ≠ user) ∨ ∃ i, idxP user l n = ((n + i : Nat) : Int) ∧ i < l.length ∧ (∃ p, l[i]? = some p ∧ p.owner = user) ∧ ∀ q ∈ l.take i, q.owner ≠ user
 | [], n => .inl ⟨rfl, by simp⟩
 | p :: l, n => by
  by_cases h : p.owner = user
  ·exact .inr ⟨0, by simp [idxP, h], by simp, ⟨p, by simp, h⟩, by simp⟩
  ·rcases idxP_spec user l (n + 1) with ⟨h1, h2⟩ | ⟨i, h1, h2, h3, h4⟩
   ·refine .inl ⟨by simp [idxP, h, h1], fun q hq => ?_⟩
    rcases List.mem_cons.1 hq with rfl | hq
    ·exact h
    ·exact h2 q hq
   ·refine .inr ⟨i + 1, ?_, by simp; omega, by simpa using h3, fun q hq => ?_⟩
    ·simp only [idxP, if_neg h, h1]; omega
    ·rw [List.take_succ_cons] at hq
     rcases List.mem_cons.1 hq with rfl | hq
     ·exact h
     ·exact h4 q hq
theorem ix_p (l : List Po) (user : Int) (hl : l.length ≤ 400000000000) : PureD Try.prog 73 [L (rowsP l), .fn 51 [.elt [.int .u32 user] 0]] (.int .i64 (idxP user l 0)) := by
 refine pureV Try.func73 low73 (by simp [c73]) ?_
 simp only [c73]
 repeat' ((first | apply Run_seq | apply Run_skip | apply Run_block | apply Run_blk | refine Run_exit rfl ?_ | apply Run_ret | apply Run_nil | apply Run_condK | apply Run_ops mixed | with_reducible refine PostV_open ?_ | with_reducible refine ro_callV ?_ | simp (disch := omega) only [w64, wu64, wu32, wu16, wu8, Int.tdiv_eq_ediv_of_nonneg, Int.tmod_eq_emod_of_nonneg] | (refine CondK_split ?_ ?_ <;> intro hc <;> (try simp only [hc]) <;> try simp at hc) | (with_reducible refine And.intro ?_ ?_; (focus ((repeat' (with_reducible refine And.intro ?_ ?_)) <;> first | exact trivial | assumption | (simp; done) | (simp only [List.length_map] at *; omega) | omega | (simp [D.cells, D.ok, D.one, D.pt, D.pt1]; done)))) | (with_reducible intro x hx) | omega) <;> (try simp only [rowsP_len, Nat.reduceBEq, argEnv, lenD, fw]))
 refine Run_loop (ι := {i : Nat // i ≤ l.length ∧ idxP user l 0 = idxP user (l.drop i) i}) (fun i => ([(0, L (rowsP l)), (1, .fn 51 [.elt [.int .u32 user] 0]), (7, .int .i64 l.length), (8, .int .i64 i.1)], [])) (fun i => l.length - i.1) ⟨0, by simp⟩ ?_ ?_
 ·refine Ent_gc [] (by rfl) (by simp) (by simp [keptW]) (by simp [lk_hit, lk_miss, D.pt0, viewS_own', pull, pull2, pull1, pull0, idx_nil, gate, List.mem_cons, or_false, view0, mapO])
 rintro ⟨i, hi, hx⟩ hk
 dsimp only at hk ⊢
 by_cases hlt : i < l.length
 ·have c1 : ((i : Int) < (l.length : Int)) = True := by simp; omega
  obtain ⟨p, hp⟩ : ∃ p, l[i]? = some p := ⟨_, List.getElem?_eq_getElem hlt⟩
  have hr := rowsP_get hp
  have hdr : l.drop i = p :: l.drop (i + 1) := by
   rw [List.getElem?_eq_getElem hlt] at hp; cases hp; exact List.drop_eq_getElem_cons hlt
  have lv := lv1_p p user
  simp only [Po.row] at lv
  by_cases hc : p.owner = user
  ·have c2 : (p.owner == user) = true := by simpa using hc
   rw [c2] at lv
   have e : idxP user l 0 = i := by rw [hx, hdr]; simp [idxP, hc]
   rw [e]
   repeat' ((first | apply Run_seq | apply Run_skip | apply Run_block | apply Run_blk | refine Run_exit rfl ?_ | apply Run_ret | apply Run_nil | apply Run_condK | apply Run_ops mixed | with_reducible refine PostV_open ?_ | with_reducible refine ro_callV ?_ | refine CallV_pure (lv) ?_ ?_ | simp (disch := omega) only [w64, wu64, wu32, wu16, wu8, Int.tdiv_eq_ediv_of_nonneg, Int.tmod_eq_emod_of_nonneg] | (refine CondK_split ?_ ?_ <;> intro hc <;> (try simp only [hc]) <;> try simp at hc) | (with_reducible refine And.intro ?_ ?_; (focus ((repeat' (with_reducible refine And.intro ?_ ?_)) <;> first | exact trivial | assumption | (simp; done) | (simp only [List.length_map] at *; omega) | omega | (simp [D.cells, D.ok, D.one, D.pt, D.pt1]; done)))) | (with_reducible intro x hx) | omega) <;> (try simp only [rowsP_len, c1, hr, Po.row, Nat.reduceBEq, reduceIte, Nat.reduceAdd, binD, binInt, loadD, D.pt, D.pt1, D.pt0, D.norm1, view, view2, view1, view0, mapO, D.sc, D.sc1, D.sc2, ofRes, fw]))
  ·have c2 : (p.owner == user) = false := by simpa using hc
   rw [c2] at lv
   have e : idxP user l 0 = idxP user (l.drop (i + 1)) (i + 1) := by rw [hx, hdr]; simp [idxP, hc]
   repeat' ((first | apply Run_seq | apply Run_skip | apply Run_block | apply Run_blk | refine Run_exit rfl ?_ | apply Run_ret | apply Run_nil | apply Run_condK | apply Run_ops mixed | with_reducible refine PostV_open ?_ | with_reducible refine ro_callV ?_ | refine CallV_pure (lv) ?_ ?_ | simp (disch := omega) only [w64] | (refine CondK_split ?_ ?_ <;> intro hc <;> (try simp only [hc]) <;> try simp at hc) | (with_reducible refine And.intro ?_ ?_; (focus ((repeat' (with_reducible refine And.intro ?_ ?_)) <;> first | exact trivial | assumption | (simp; done) | (simp only [List.length_map] at *; omega) | omega | (simp [D.cells, D.ok, D.one, D.pt, D.pt1]; done)))) | (with_reducible intro x hx) | omega) <;> (try simp only [rowsP_len, c1, hr, Po.row, Nat.reduceBEq, reduceIte, Nat.reduceAdd, binD, binInt, loadD, D.pt, D.pt1, D.pt0, D.norm1, view, view2, view1, view0, mapO, D.sc, D.sc1, D.sc2, fw]))
   refine hk ⟨i + 1, by omega, e⟩ _ _ (by dsimp only; omega) ?_
   dsimp only
   refine Ent_gc [] (by rfl) (by simp) (by simp [keptW]) (by simp [lk_hit, lk_miss, D.pt0, viewS_own', pull, pull2, pull1, pull0, idx_nil, gate, List.mem_cons, or_false, view0, mapO])
 ·have c1 : ((i : Int) < (l.length : Int)) = False := by simp; omega
  have e : idxP user l 0 = -1 := by rw [hx, List.drop_eq_nil_of_le (by omega)]; rfl
  rw [e]
  repeat' ((first | apply Run_seq | apply Run_skip | apply Run_block | apply Run_blk | refine Run_exit rfl ?_ | apply Run_ret | apply Run_nil | apply Run_condK | apply Run_ops mixed | with_reducible refine PostV_open ?_ | with_reducible refine ro_callV ?_ | simp (disch := omega) only [w64, wu64, wu32, wu16, wu8, Int.tdiv_eq_ediv_of_nonneg, Int.tmod_eq_emod_of_nonneg] | (refine CondK_split ?_ ?_ <;> intro hc <;> (try simp only [hc]) <;> try simp at hc) | (with_reducible refine And.intro ?_ ?_; (focus ((repeat' (with_reducible refine And.intro ?_ ?_)) <;> first | exact trivial | assumption | (simp; done) | (simp only [List.length_map] at *; omega) | omega | (simp [D.cells, D.ok, D.one, D.pt, D.pt1]; done)))) | (with_reducible intro x hx) | omega) <;> (try simp only [c1, Nat.reduceBEq, reduceIte, binD, binInt, D.pt0, D.norm1, Int.reduceNeg, view, view2, view1, view0, ofRes, fw]))
def keepP (user : Int) (l : List Po) : List Po := l.filter fun p => !(p.owner == user)
theorem dfnil_p (tg : Bool) (user : Int) : CallG Try.prog 49 [.list (some true) tg [], .fn 51 [.elt [.int .u32 user] 0]] [] (.list (some true) tg []) [] := by
 refine callG Try.func49 low49 (by simp [c49]) ?_
 simp only [c49]
 have ix := ix_p [] user (by simp)
 simp only [rowsP, List.map_nil, show idxP user [] 0 = -1 from rfl] at ix
 repeat' ((first | apply Run_seq | apply Run_skip | apply Run_block | apply Run_blk | refine Run_exit rfl ?_ | apply Run_ret | apply Run_nil | apply Run_condK | apply Run_ops mixed | with_reducible refine PostG_open ?_ | with_reducible refine ro_callV ?_ | refine CallV_pure (ix) ?_ ?_ | simp (disch := omega) only [w64, wu64, wu32, wu16, wu8, Int.tdiv_eq_ediv_of_nonneg, Int.tmod_eq_emod_of_nonneg] | (with_reducible refine SliceK_own rfl rfl ?_ ?_; (focus ((try simp only [row1_len, row2_len, row3_len, rowsE_len, rowsU_len, rowsP_len, rowsD_len, reduceIte, Nat.sub_zero, fw]) <;> ((repeat' (with_reducible refine And.intro ?_ ?_)) <;> first | exact trivial | assumption | (simp; done) | (simp only [List.length_map] at *; omega) | omega | (simp [D.cells, D.ok, D.one, D.pt, D.pt1]; done))))) | (refine CondK_split ?_ ?_ <;> intro hc <;> (try simp only [hc]) <;> try simp at hc) | (with_reducible refine And.intro ?_ ?_; (focus ((repeat' (with_reducible refine And.intro ?_ ?_)) <;> first | exact trivial | assumption | (simp; done) | (simp only [List.length_map] at *; omega) | omega | (simp [D.cells, D.ok, D.one, D.pt, D.pt1]; done)))) | (with_reducible intro x hx) | omega) <;> (try simp only [Nat.reduceBEq, argEnv, reduceIte, binD, binInt, D.pt, D.pt1, D.pt0, D.norm1, beq_self_eq_true, Int.reduceNeg, view, view2, view1, view0, mapO, D.sc, D.sc1, D.sc2, ofRes, fw]))
 refine GcTo_own [] (by rfl) (by simp) (by simp [keptW, D.pt0, pull, pull2, pull1, pull0])
theorem dfno_p (b : Bool) (l : List Po) (user : Int) (hl : l.length ≤ 400000000000) (hn : ∀ p ∈ l, p.owner ≠ user) : CallG Try.prog 49 [.own 0 0 l.length l.length 16 none, .fn 51 [.elt [.int .u32 user] 0]] [acc b 16 true (rowsP l)] (.own 0 0 l.length l.length 16 none) [acc b 16 true (rowsP l)] := by
 refine callG Try.func49 low49 (by simp [c49]) ?_
 simp only [c49]
 have e : idxP user l 0 = -1 := by
  rcases idxP_spec user l 0 with ⟨h, _⟩ | ⟨i, _, _, ⟨p, hp, ho⟩, _⟩
  ·exact h
  ·exact absurd ho (hn p (List.mem_of_getElem? hp))
 have ix := ix_p l user hl
 rw [e] at ix
 repeat' ((first | apply Run_seq | apply Run_skip | apply Run_block | apply Run_blk | refine Run_exit rfl ?_ | apply Run_ret | apply Run_nil | apply Run_condK | apply Run_ops mixed | with_reducible refine PostG_open ?_ | with_reducible refine ro_callV ?_ | refine CallV_pure (ix) ?_ ?_ | simp (disch := omega) only [w64, wu64, wu32, wu16, wu8, Int.tdiv_eq_ediv_of_nonneg, Int.tmod_eq_emod_of_nonneg] | (with_reducible refine SliceK_own rfl rfl ?_ ?_; (focus ((try simp only [row1_len, row2_len, row3_len, rowsE_len, rowsU_len, rowsP_len, rowsD_len, reduceIte, Nat.sub_zero, fw]) <;> ((repeat' (with_reducible refine And.intro ?_ ?_)) <;> first | exact trivial | assumption | (simp; done) | (simp only [List.length_map] at *; omega) | omega | (simp [D.cells, D.ok, D.one, D.pt, D.pt1]; done))))) | (refine CondK_split ?_ ?_ <;> intro hc <;> (try simp only [hc]) <;> try simp at hc) | (with_reducible refine And.intro ?_ ?_; (focus ((repeat' (with_reducible refine And.intro ?_ ?_)) <;> first | exact trivial | assumption | (simp; done) | (simp only [List.length_map] at *; omega) | omega | (simp [D.cells, D.ok, D.one, D.pt, D.pt1]; done)))) | (with_reducible intro x hx) | omega) <;> (try simp only [rowsP_len, Nat.reduceBEq, argEnv, reduceIte, binD, binInt, D.pt, D.pt1, D.pt0, D.norm1, beq_self_eq_true, Int.reduceNeg, view, view2, view1, view0, mapO, D.sc, D.sc1, D.sc2, ofRes, fw]))
 refine GcTo_own [0] (by rfl) (by simp) (by simp [keptW, ObKW, ObW, imp_self, acc_real, acc_nl, acc_pure, acc_fz, acc_sz, acc_rows, acc_spare, pull, pull2, pull1, pull0, idx_hit, pullOb])
def zrP : List D := [.int .u32 0, .int .u32 0, .int .i64 0, .int .i64 0, .int .i64 0, .int .i64 0, .list (some true) true [], .list (some true) true [], .int .i64 0, .list (some true) true [], .list (some true) true [], .list (some true) true [], .list (some true) true [], .int .i64 0, .int .i64 0, .int .i64 0]
theorem keepP_take {user : Int} {l : List Po} {j : Nat} {p : Po} (h : l[j]? = some p) : keepP user (l.take (j + 1)) = keepP user (l.take j) ++ if p.owner = user then [] else [p] := by
 have : l.take (j + 1) = l.take j ++ [p] := by rw [List.take_add_one, h]; rfl
 rw [this]
 unfold keepP
 rw [List.filter_append]
 congr 1
 by_cases hx : p.owner = user <;> simp [hx]
set_option maxHeartbeats 2000000 in
theorem df_p (l : List Po) (user : Int) (hl : l.length ≤ 400000000000) (hn : ∃ p ∈ l, p.owner = user) : CallG Try.prog 49 [.own 0 0 l.length l.length 16 none, .fn 51 [.elt [.int .u32 user] 0]] [acc true 16 true (rowsP l)] (.own 0 0 (keepP user l).length l.length 16 none)
  [acc true 16 true (rowsP (keepP user l) ++ List.replicate (l.length - (keepP user l).length) zrP)] := by
 refine callG Try.func49 low49 (by simp [c49]) ?_
 simp only [c49]
 obtain ⟨i, hi, hil, ⟨p, hp, ho⟩, hb⟩ : ∃ i : Nat, idxP user l 0 = (i : Int) ∧ i < l.length ∧ (∃ p, l[i]? = some p ∧ p.owner = user) ∧ ∀ q ∈ l.take i, q.owner ≠ user := by
  rcases idxP_spec user l 0 with ⟨_, h⟩ | ⟨i, h1, h2⟩
  ·obtain ⟨p, hp, ho⟩ := hn
   exact absurd ho (h p hp)
  ·exact ⟨i, by simpa using h1, h2⟩
 have hne : (rowsP l).isEmpty = false := by
  cases l with
  | nil => simp at hil
  | cons => rfl
 have ix := ix_p l user hl
 rw [hi] at ix
 have k0 : keepP user (l.take i) = l.take i := by
  unfold keepP
  rw [List.filter_eq_self]
  intro q hq
  simpa using hb q hq
 have c0 : ((i : Int) == -1) = false := by simp
 repeat' ((first | apply Run_seq | apply Run_skip | apply Run_block | apply Run_blk | refine Run_exit rfl ?_ | apply Run_ret | apply Run_nil | apply Run_condK | apply Run_ops mixed | with_reducible refine PostG_open ?_ | with_reducible refine ro_callV ?_ | refine CallV_pure (ix) ?_ ?_ | simp (disch := omega) only [w64] | (with_reducible refine SliceK_own rfl rfl ?_ ?_; (focus ((try simp only [row1_len, row2_len, row3_len, rowsE_len, rowsU_len, rowsP_len, rowsD_len, reduceIte, Nat.sub_zero, fw]) <;> ((repeat' (with_reducible refine And.intro ?_ ?_)) <;> first | exact trivial | assumption | (simp; done) | (simp only [List.length_map] at *; omega) | omega | (simp [D.cells, D.ok, D.one, D.pt, D.pt1]; done))))) | (refine CondK_split ?_ ?_ <;> intro hc <;> (try simp only [hc]) <;> try simp at hc) | (with_reducible refine And.intro ?_ ?_; (focus ((repeat' (with_reducible refine And.intro ?_ ?_)) <;> first | exact trivial | assumption | (simp; done) | (simp only [List.length_map] at *; omega) | omega | (simp [D.cells, D.ok, D.one, D.pt, D.pt1]; done)))) | (with_reducible intro x hx) | omega) <;> (try simp only [rowsP_len, c0, Nat.reduceBEq, argEnv, reduceIte, binD, binInt, D.pt, D.pt1, D.pt0, D.norm1, Int.reduceNeg, view, view2, view1, view0, mapO, D.sc, D.sc1, D.sc2, fw]))
 refine Run_loop (ι := {j : Nat × List Po // j.1 ≤ l.length ∧ j.2.length + (keepP user (l.take j.1)).length = j.1 ∧ 1 ≤ j.2.length}) (fun j => ([(0, .own 0 0 l.length l.length 16 none), (1, .fn 51 [.elt [.int .u32 user] 0]), (5, .int .i64 (keepP user (l.take j.1.1)).length), (6, .int .i64 j.1.1)],
  [⟨true, false, true, false, 16, rowsP (keepP user (l.take j.1.1) ++ (j.1.2 ++ l.drop j.1.1)), none⟩])) (fun j => l.length - j.1.1) ⟨(i + 1, [p]), by dsimp only; omega, by dsimp only; rw [keepP_take hp, if_pos ho, List.append_nil, k0, List.length_take]; simp only [List.length_cons, List.length_nil]; omega, by simp⟩ ?_ ?_
 ·have eK : keepP user (l.take (i + 1)) = l.take i := by rw [keepP_take hp, if_pos ho, List.append_nil, k0]
  have eL : l.take i ++ ([p] ++ l.drop (i + 1)) = l := by
   have h1 : l.drop i = p :: l.drop (i + 1) := by
    rw [List.getElem?_eq_getElem hil] at hp; cases hp; exact List.drop_eq_getElem_cons hil
   rw [List.singleton_append, ← h1, List.take_append_drop]
  have eN : (l.take i).length = i := by rw [List.length_take]; omega
  dsimp only
  rw [eK, eL, eN, acc_ne' hne]
  refine Ent_gc [0] (by rfl) (by simp) (by simp [keptW, ObKW, ObW, imp_self, pullOb]) (by simp [lk_hit, lk_miss, D.pt0, viewS_own', pull, pull2, pull1, pull0, idx_hit, gate, List.mem_cons, or_false, view0, mapO])
 rintro ⟨⟨j, X⟩, hj, hX, hX1⟩ hk
 dsimp only at hk hj hX hX1 ⊢
 obtain ⟨x, X', rfl⟩ : ∃ x X', X = x :: X' := by
  cases X with
  | nil => simp at hX1
  | cons x X' => exact ⟨x, X', rfl⟩
 by_cases hlt : j < l.length
 ·have c1 : ((j : Int) < (l.length : Int)) = True := by simp; omega
  obtain ⟨q, hq⟩ : ∃ q, l[j]? = some q := ⟨_, List.getElem?_eq_getElem hlt⟩
  have hdr : l.drop j = q :: l.drop (j + 1) := by
   rw [List.getElem?_eq_getElem hlt] at hq; cases hq; exact List.drop_eq_getElem_cons hlt
  have hkt := keepP_take (user := user) hq
  have lv := lv1_p q user
  simp only [Po.row] at lv
  rw [hdr]
  generalize keepP user (l.take j) = F at hX hkt ⊢
  have hr : (F ++ (x :: X' ++ q :: l.drop (j + 1)))[j]? = some q := by
   rw [← List.append_assoc, List.getElem?_append_right (by simp only [List.length_append]; omega)]
   have : j - (F ++ x :: X').length = 0 := by simp only [List.length_append]; omega
   rw [this]; rfl
  have hr2 : (F ++ (x :: X' ++ q :: l.drop (j + 1)))[F.length]? = some x := by
   rw [List.getElem?_append_right (Nat.le_refl _), Nat.sub_self]; rfl
  have hm1 : (F ++ (x :: X' ++ q :: l.drop (j + 1))).length = l.length := by
   simp only [List.length_append, List.length_cons, List.length_drop] at hX ⊢
   omega
  by_cases hc : q.owner = user
  ·have c2 : (q.owner == user) = true := by simpa using hc
   rw [c2] at lv
   rw [if_pos hc, List.append_nil] at hkt
   have hm : F ++ (x :: X' ++ q :: l.drop (j + 1)) = F ++ (x :: (X' ++ [q]) ++ l.drop (j + 1)) := by simp
   generalize F ++ (x :: X' ++ q :: l.drop (j + 1)) = m at hr hm hm1 ⊢
   have hr' := rowsP_get hr
   repeat' ((first | apply Run_seq | apply Run_skip | apply Run_block | apply Run_blk | refine Run_exit rfl ?_ | apply Run_ret | apply Run_nil | apply Run_condK | apply Run_ops mixed | with_reducible refine PostG_open ?_ | with_reducible refine ro_callV ?_ | refine CallV_pure (lv) ?_ ?_ | simp (disch := omega) only [w64] | (with_reducible refine SliceK_own rfl rfl ?_ ?_; (focus ((try simp only [row1_len, row2_len, row3_len, rowsE_len, rowsU_len, rowsP_len, rowsD_len, reduceIte, Nat.sub_zero, fw]) <;> ((repeat' (with_reducible refine And.intro ?_ ?_)) <;> first | exact trivial | assumption | (simp; done) | (simp only [List.length_map] at *; omega) | omega | (simp [D.cells, D.ok, D.one, D.pt, D.pt1]; done))))) | (refine CondK_split ?_ ?_ <;> intro hc <;> (try simp only [hc]) <;> try simp at hc) | (with_reducible refine And.intro ?_ ?_; (focus ((repeat' (with_reducible refine And.intro ?_ ?_)) <;> first | exact trivial | assumption | (simp; done) | (simp only [List.length_map] at *; omega) | omega | (simp [D.cells, D.ok, D.one, D.pt, D.pt1]; done)))) | (with_reducible intro x hx) | omega) <;> (try simp only [rowsP_len, c1, hr', hm1, Po.row, Nat.reduceBEq, reduceIte, Nat.reduceAdd, reduceCtorEq, binD, binInt, okD, unD, lenD, loadD, splice, D.cells, D.ok, D.one, D.pt, D.pt1, D.pt0, D.norm1, ne_eq, view, view2, view1, view0, mapO, D.sc, D.sc1, D.sc2, fw]))
   refine hk ⟨(j + 1, x :: (X' ++ [q])), by dsimp only; omega, by dsimp only; rw [hkt]; simp only [List.length_append, List.length_cons, List.length_nil] at hX ⊢; omega, by simp⟩ _ _ (by dsimp only; omega) ?_
   dsimp only
   rw [hkt, ← hm]
   refine Ent_gc [0] (by rfl) (by simp) (by simp [keptW, ObKW, ObW, imp_self, pullOb]) (by simp [lk_hit, lk_miss, D.pt0, viewS_own', pull, pull2, pull1, pull0, idx_hit, gate, List.mem_cons, or_false, view0, mapO])
  ·have c2 : (q.owner == user) = false := by simpa using hc
   rw [c2] at lv
   rw [if_neg hc] at hkt
   have hm : (F ++ (x :: X' ++ q :: l.drop (j + 1))).set F.length q = F ++ [q] ++ (X' ++ [q] ++ l.drop (j + 1)) := by
    rw [List.set_append_right _ _ (Nat.le_refl _), Nat.sub_self]; simp
   have hFl : F.length < l.length := by simp only [List.length_cons] at hX; omega
   generalize F ++ (x :: X' ++ q :: l.drop (j + 1)) = m at hr hr2 hm hm1 ⊢
   have hr' := rowsP_get hr
   have hr2' := rowsP_get hr2
   have hs : (rowsP m).set F.length q.row = rowsP (m.set F.length q) := by simp [rowsP, List.map_set]
   rw [hm] at hs
   simp only [Po.row] at hs
   repeat' ((first | apply Run_seq | apply Run_skip | apply Run_block | apply Run_blk | refine Run_exit rfl ?_ | apply Run_ret | apply Run_nil | apply Run_condK | apply Run_ops mixed | with_reducible refine PostG_open ?_ | with_reducible refine ro_callV ?_ | refine CallV_pure (lv) ?_ ?_ | simp (disch := omega) only [w64] | (with_reducible refine SliceK_own rfl rfl ?_ ?_; (focus ((try simp only [row1_len, row2_len, row3_len, rowsE_len, rowsU_len, rowsP_len, rowsD_len, reduceIte, Nat.sub_zero, fw]) <;> ((repeat' (with_reducible refine And.intro ?_ ?_)) <;> first | exact trivial | assumption | (simp; done) | (simp only [List.length_map] at *; omega) | omega | (simp [D.cells, D.ok, D.one, D.pt, D.pt1]; done))))) | (refine CondK_split ?_ ?_ <;> intro hc <;> (try simp only [hc]) <;> try simp at hc) | (with_reducible refine And.intro ?_ ?_; (focus ((repeat' (with_reducible refine And.intro ?_ ?_)) <;> first | exact trivial | assumption | (simp; done) | (simp only [List.length_map] at *; omega) | omega | (simp [D.cells, D.ok, D.one, D.pt, D.pt1]; done)))) | (with_reducible intro x hx) | omega) <;> (try simp only [rowsP_len, c1, hr', hr2', hm1, hs, Po.row, Nat.reduceBEq, reduceIte, Nat.reduceAdd, reduceCtorEq, binD, binInt, okD, unD, lenD, loadD, splice, D.cells, D.ok, D.one, D.pt, D.pt1, D.pt0, D.norm1, ne_eq, view, view2, view1, view0, mapO, D.sc, D.sc1, D.sc2, fw]))
   refine hk ⟨(j + 1, X' ++ [q]), by dsimp only; omega, by dsimp only; rw [hkt]; simp only [List.length_append, List.length_cons, List.length_nil] at hX ⊢; omega, by simp⟩ _ _ (by dsimp only; omega) ?_
   dsimp only
   rw [hkt]
   simp only [List.length_append, List.length_cons, List.length_nil]
   refine Ent_gc [0] (by rfl) (by simp) (by simp [keptW, ObKW, ObW, imp_self, pullOb]) (by simp [lk_hit, lk_miss, D.pt0, viewS_own', pull, pull2, pull1, pull0, idx_hit, gate, List.mem_cons, or_false, view0, mapO])
 ·have c1 : ((j : Int) < (l.length : Int)) = False := by simp; omega
  obtain rfl : j = l.length := by omega
  rw [List.take_length] at hX ⊢
  rw [List.drop_length, List.append_nil]
  generalize keepP user l = F at hX ⊢
  have hm1 : (F ++ x :: X').length = l.length := by simp only [List.length_append]; omega
  have hm2 : List.take F.length (rowsP (F ++ x :: X')) = rowsP F := by simp [rowsP]
  have hm3 : List.drop (F.length + (l.length - F.length)) (rowsP (F ++ x :: X')) = [] := List.drop_eq_nil_of_le (by rw [rowsP_len]; omega)
  generalize F ++ x :: X' = m at hm1 hm2 hm3 ⊢
  repeat' ((first | apply Run_seq | apply Run_skip | apply Run_block | apply Run_blk | refine Run_exit rfl ?_ | apply Run_ret | apply Run_nil | apply Run_condK | apply Run_ops mixed | with_reducible refine PostG_open ?_ | with_reducible refine ro_callV ?_ | simp (disch := omega) only [w64, wu64, wu32, wu16, wu8, Int.tdiv_eq_ediv_of_nonneg, Int.tmod_eq_emod_of_nonneg] | (with_reducible refine SliceK_own rfl rfl ?_ ?_; (focus ((try simp only [Int.natCast_nonneg, Int.le_refl]) <;> ((repeat' (with_reducible refine And.intro ?_ ?_)) <;> first | exact trivial | assumption | (simp; done) | (simp only [List.length_map] at *; omega) | omega | (simp [D.cells, D.ok, D.one, D.pt, D.pt1]; done))))) | (refine CondK_split ?_ ?_ <;> intro hc <;> (try simp only [hc]) <;> try simp at hc) | (with_reducible refine And.intro ?_ ?_; (focus ((repeat' (with_reducible refine And.intro ?_ ?_)) <;> first | exact trivial | assumption | (simp; done) | (simp only [List.length_map] at *; omega) | omega | (simp [D.cells, D.ok, D.one, D.pt, D.pt1]; done)))) | (with_reducible intro x hx) | omega) <;> (try simp only [rowsP_len, c1, hm1, hm2, hm3, Nat.reduceBEq, reduceIte, Nat.reduceAdd, binD, binInt, lenD, D.pt1, ofRes, fw]))
  rw [Nat.sub_zero, acc_ne' (rows := rowsP F ++ List.replicate (l.length - F.length) zrP) (by
   obtain ⟨n, hn⟩ : ∃ n, l.length - F.length = n + 1 := ⟨l.length - F.length - 1, by simp only [List.length_cons] at hX; omega⟩
   rw [hn]; simp [List.replicate_succ])]
  unfold zrP
  refine GcTo_own [0] (by rfl) (by simp) (by simp [keptW, ObKW, ObW, imp_self, pull, pull2, pull1, pull0, idx_hit, pullOb])
end Go.Proofs.Ytoleaiaeghbffaa

namespace Go.Proofs.Ytoleaiaeghbffaa
open Go Go.Vi


def outU (user : Int) (l : List Us) : List Us := l.filter fun u => !(u.id == user)
theorem outU_at : ∀ (l : List Us) (k : Nat) (u : Us), (l.Pairwise fun a b => a.id < b.id) → l[k]? = some u → outU u.id l = l.take k ++ l.drop (k + 1)
 | [], k, u, _, h => by simp at h
 | x :: l, 0, u, hs, h => by
  obtain ⟨h1, h2⟩ := List.pairwise_cons.1 hs
  simp at h; subst h
  have e : outU x.id l = l := by
   unfold outU
   rw [List.filter_eq_self]
   intro y hy
   have := h1 y hy
   simp; omega
  have e2 : outU x.id (x :: l) = outU x.id l := by simp [outU]
  rw [e2, e]; simp
 | x :: l, k + 1, u, hs, h => by
  obtain ⟨h1, h2⟩ := List.pairwise_cons.1 hs
  have hm : l[k]? = some u := by simpa using h
  have hx := h1 u (List.mem_of_getElem? hm)
  have hn : (x.id == u.id) = false := by simp; omega
  have e2 : outU u.id (x :: l) = x :: outU u.id l := by simp [outU, hn]
  rw [e2, outU_at l k u h2 hm]; simp
theorem isAt_some {us : List Us} {k : Nat} {id : Int} (h : isAtB Us.id us k id = true) : ∃ u, us[k]? = some u ∧ u.id = id := by
 unfold isAtB at h
 split at h
 ·rename_i x hx
  exact ⟨x, hx, by simpa using h⟩
 ·cases h
theorem pt_rows (us : List Us) : ((rowsU us).all fun r => r.all D.pt1) = true := by simp [rowsU, Us.row, D.pt1]
theorem sz_rows (us : List Us) : ∀ r ∈ rowsU us, r.length = 9 := by simp [rowsU, Us.row]
theorem szP_rows (l : List Po) : ∀ r ∈ rowsP l, r.length = 16 := by simp [rowsP, Po.row]
theorem out_win (us : List Us) (k : Nat) (z : List D) (hk : k < us.length) : winD 0 (us.length - 1) us.length (List.take k (rowsU us) ++ List.drop (k + 1) (rowsU us) ++ [z]) = rowsU (us.take k ++ us.drop (k + 1)) := by
 unfold winD
 rw [if_neg (by omega), List.drop_zero, List.take_left' (by simp only [List.length_append, List.length_take, List.length_drop, rowsU_len]; omega)]
 simp [rowsU, List.map_take, List.map_drop]
theorem keep_win (l : List Po) (user : Int) (z : List D) : winD 0 (keepP user l).length l.length (rowsP (keepP user l) ++ List.replicate (l.length - (keepP user l).length) z) = rowsP (keepP user l) := by
 have hle : (keepP user l).length ≤ l.length := List.length_filter_le ..
 unfold winD
 split
 ·rename_i h
  rw [h.2, Nat.sub_self]; simp
 ·rw [List.drop_zero, List.take_left' (by rw [rowsP_len])]
set_option maxHeartbeats 2000000 in
theorem leave_p (t : Int) (us : List Us) (ps : List Po) (ds : List Dn) (user : Int) (hl : us.length ≤ 400000000000) (hlp : ps.length ≤ 400000000000) (hs : us.Pairwise fun a b => a.id < b.id) :
  PureD Try.prog 24 [St t us ps ds, .int .u32 user] (if (findU us user).isSome then .tup [St t (outU user us) (keepP user ps) ds, .int .i64 0] else .tup [St t us ps ds, .int .i64 4]) := by
 have pl := placeU_p t us ps ds user (by omega) hs
 have hf := findB_low Us.id us user hs
 have hff : findU us user = us.find? fun u => u.id == user := rfl
 rw [← hff] at hf
 by_cases hat : isAtB Us.id us (lowB Us.id us user) user = true
 ·obtain ⟨u, hu, hid⟩ := isAt_some hat
  rw [hat] at pl
  rw [if_pos hat, hu] at hf
  rw [hf]
  have hlt := (List.getElem?_eq_some_iff.1 hu).1
  generalize lowB Us.id us user = k at pl hu hlt
  have ho := outU_at us k u hs hu
  rw [hid] at ho
  rw [ho]
  simp only [Option.isSome_some, if_true]
  have hune : rowsU us ≠ [] := by
   cases us with
   | nil => simp at hlt
   | cons => simp [rowsU]
  have cu := clU_ne false (rowsU us) hune (sz_rows us) (by rw [rowsU_len]; omega)
  have du := delU_p (rowsU us) k (sz_rows us) (pt_rows us) (by rw [rowsU_len]; omega) (by rw [rowsU_len]; omega)
  have ow := out_win us k zrU hlt
  have oe : (List.take k (rowsU us) ++ List.drop (k + 1) (rowsU us) ++ [zrU]).length = us.length := by simp only [List.length_append, List.length_take, List.length_drop, rowsU_len, List.length_cons, List.length_nil]; omega
  rw [rowsU_len] at cu du
  generalize List.take k (rowsU us) ++ List.drop (k + 1) (rowsU us) ++ [zrU] = M at du ow oe
  generalize us.take k ++ us.drop (k + 1) = us' at ow
  by_cases hp : ps = []
  ·subst hp
   rw [show keepP user [] = [] from rfl]
   refine PureD_nils (pre := []) (xs := [.int .i64 t, L (rowsU us)]) (ys := [L (rowsD ds)]) (post := [.int .u32 user]) fun b _ => ?_
   refine pureV Try.func24 low24 (by simp [c24]) ?_
   simp only [c24, St, rowsP, List.map_nil, List.nil_append, List.cons_append] at pl ⊢
   cases b
   ·have df := dfno_p false [] user (by simp) (by simp)
    simp only [List.length_nil, rowsP, List.map_nil] at df
    repeat' ((first | apply Run_seq | apply Run_skip | apply Run_ret | apply Run_nil | apply Run_condK | apply Run_ops mixed | with_reducible refine PostV_open ?_ | with_reducible refine ro_callA (f := .c (.fn 48 [])) ?_ | with_reducible refine ro_callA' (f := .c (.fn 48 [])) ?_ | with_reducible refine ro_callA (f := .c (.fn 47 [])) ?_ | with_reducible refine ro_callA' (f := .c (.fn 47 [])) ?_ | with_reducible refine ro_callA (f := .c (.fn 50 [])) ?_ | with_reducible refine ro_callA' (f := .c (.fn 50 [])) ?_ | with_reducible refine ro_callA (f := .c (.fn 49 [])) ?_ | with_reducible refine ro_callA' (f := .c (.fn 49 [])) ?_ | with_reducible refine ro_callV ?_ | refine CallV_pure (pl) ?_ ?_ | with_reducible refine CallE_use (cu) (by simp) ?_ | with_reducible refine CallE_use (du) (by simp) ?_ | with_reducible refine CallE_use (clP_emp _) (by simp) ?_ | with_reducible refine CallE_use (df) (by simp) ?_ | simp (disch := omega) only [w64] | (refine CondK_split ?_ ?_ <;> intro hc <;> (try simp only [hc]) <;> try simp at hc) | (with_reducible refine And.intro ?_ ?_; (focus ((repeat' (with_reducible refine And.intro ?_ ?_)) <;> first | exact trivial | assumption | (simp; done) | (simp only [List.length_map] at *; omega) | omega | (simp [D.cells, D.ok, D.one, D.pt, D.pt1]; done)))) | (with_reducible intro x hx) | omega) <;> (try simp only [oe, ow, Nat.reduceBEq, argEnv, reduceIte, Nat.reduceEqDiff, Nat.reduceAdd, Nat.reduceSub, Nat.reduceLeDiff, reduceCtorEq, binD, binInt, okD, unD, faddrD, extD, loadD, splice, D.cells, D.ok, D.one, D.pt, D.pt1, D.pt0, D.norm1, ne_eq, view, view2, view1, view0, mapO, D.sc, D.sc1, D.sc2, pull, pull2, pull1, pull0, gate, pullσ, pullOb, Go.Vi.freeze, Go.Vi.freeze1, capt, capt.captL, reachL, reachO, isin, merge, mset, renOb, fr, D.ren, ofRes, fw]))
   ·repeat' ((first | apply Run_seq | apply Run_skip | apply Run_ret | apply Run_nil | apply Run_condK | apply Run_ops mixed | with_reducible refine PostV_open ?_ | with_reducible refine ro_callA (f := .c (.fn 48 [])) ?_ | with_reducible refine ro_callA' (f := .c (.fn 48 [])) ?_ | with_reducible refine ro_callA (f := .c (.fn 47 [])) ?_ | with_reducible refine ro_callA' (f := .c (.fn 47 [])) ?_ | with_reducible refine ro_callA (f := .c (.fn 50 [])) ?_ | with_reducible refine ro_callA' (f := .c (.fn 50 [])) ?_ | with_reducible refine ro_callA (f := .c (.fn 49 [])) ?_ | with_reducible refine ro_callA' (f := .c (.fn 49 [])) ?_ | with_reducible refine ro_callV ?_ | refine CallV_pure (pl) ?_ ?_ | with_reducible refine CallE_use (cu) (by simp) ?_ | with_reducible refine CallE_use (du) (by simp) ?_ | with_reducible refine CallE_use (clP_nil _) (by simp) ?_ | with_reducible refine CallE_use (dfnil_p _ _) (by simp) ?_ | simp (disch := omega) only [w64] | (refine CondK_split ?_ ?_ <;> intro hc <;> (try simp only [hc]) <;> try simp at hc) | (with_reducible refine And.intro ?_ ?_; (focus ((repeat' (with_reducible refine And.intro ?_ ?_)) <;> first | exact trivial | assumption | (simp; done) | (simp only [List.length_map] at *; omega) | omega | (simp [D.cells, D.ok, D.one, D.pt, D.pt1]; done)))) | (with_reducible intro x hx) | omega) <;> (try simp only [oe, ow, Nat.reduceBEq, argEnv, reduceIte, Nat.reduceAdd, Nat.reduceSub, Nat.reduceLeDiff, reduceCtorEq, binD, binInt, okD, unD, faddrD, extD, loadD, splice, D.cells, D.ok, D.one, D.pt, D.pt1, D.pt0, D.norm1, ne_eq, view, view2, view1, view0, mapO, D.sc, D.sc1, D.sc2, pull, pull2, pull1, pull0, gate, pullσ, pullOb, Go.Vi.freeze, Go.Vi.freeze1, capt, capt.captL, reachL, reachO, isin, merge, mset, renOb, fr, D.ren, ofRes, fw]))
  ·have hpne : rowsP ps ≠ [] := by
    cases ps with
    | nil => exact absurd rfl hp
    | cons => simp [rowsP]
   have cp := clP_ne false (rowsP ps) hpne (szP_rows ps) (by rw [rowsP_len]; omega)
   rw [rowsP_len] at cp
   refine pureV Try.func24 low24 (by simp [c24]) ?_
   simp only [c24, St] at pl ⊢
   by_cases hn : ∃ p ∈ ps, p.owner = user
   ·have df := df_p ps user (by omega) hn
    have kw := keep_win ps user zrP
    have ke : (rowsP (keepP user ps) ++ List.replicate (ps.length - (keepP user ps).length) zrP).length = ps.length := by
     have hle : (keepP user ps).length ≤ ps.length := List.length_filter_le ..
     simp only [List.length_append, rowsP_len, List.length_replicate]; omega
    generalize rowsP (keepP user ps) ++ List.replicate (ps.length - (keepP user ps).length) zrP = N at df kw ke
    generalize keepP user ps = F at df kw
    repeat' ((first | apply Run_seq | apply Run_skip | apply Run_ret | apply Run_nil | apply Run_condK | apply Run_ops mixed | with_reducible refine PostV_open ?_ | with_reducible refine ro_callA (f := .c (.fn 48 [])) ?_ | with_reducible refine ro_callA' (f := .c (.fn 48 [])) ?_ | with_reducible refine ro_callA (f := .c (.fn 47 [])) ?_ | with_reducible refine ro_callA' (f := .c (.fn 47 [])) ?_ | with_reducible refine ro_callA (f := .c (.fn 50 [])) ?_ | with_reducible refine ro_callA' (f := .c (.fn 50 [])) ?_ | with_reducible refine ro_callA (f := .c (.fn 49 [])) ?_ | with_reducible refine ro_callA' (f := .c (.fn 49 [])) ?_ | with_reducible refine ro_callV ?_ | refine CallV_pure (pl) ?_ ?_ | with_reducible refine CallE_use (cu) (by simp) ?_ | with_reducible refine CallE_use (du) (by simp) ?_ | with_reducible refine CallE_use (cp) (by simp) ?_ | with_reducible refine CallE_use (df) (by simp) ?_ | simp (disch := omega) only [w64] | (refine CondK_split ?_ ?_ <;> intro hc <;> (try simp only [hc]) <;> try simp at hc) | (with_reducible refine And.intro ?_ ?_; (focus ((repeat' (with_reducible refine And.intro ?_ ?_)) <;> first | exact trivial | assumption | (simp; done) | (simp only [List.length_map] at *; omega) | omega | (simp [D.cells, D.ok, D.one, D.pt, D.pt1]; done)))) | (with_reducible intro x hx) | omega) <;> (try simp only [oe, ke, ow, kw, Nat.reduceBEq, argEnv, reduceIte, Nat.reduceEqDiff, Nat.reduceAdd, Nat.reduceSub, Nat.reduceLeDiff, reduceCtorEq, binD, binInt, okD, unD, faddrD, extD, loadD, splice, D.cells, D.ok, D.one, D.pt, D.pt1, D.pt0, D.norm1, ne_eq, view, view2, view1, view0, mapO, D.sc, D.sc1, D.sc2, pull, pull2, pull1, pull0, gate, pullσ, pullOb, Go.Vi.freeze, Go.Vi.freeze1, capt, capt.captL, reachL, reachO, isin, merge, mset, renOb, fr, D.ren, ofRes, fw]))
   ·have hn' : ∀ p ∈ ps, p.owner ≠ user := fun p hp h => hn ⟨p, hp, h⟩
    have df := dfno_p true ps user (by omega) hn'
    have kk : keepP user ps = ps := by
     unfold keepP
     rw [List.filter_eq_self]
     intro q hq
     simpa using hn' q hq
    rw [kk]
    repeat' ((first | apply Run_seq | apply Run_skip | apply Run_ret | apply Run_nil | apply Run_condK | apply Run_ops mixed | with_reducible refine PostV_open ?_ | with_reducible refine ro_callA (f := .c (.fn 48 [])) ?_ | with_reducible refine ro_callA' (f := .c (.fn 48 [])) ?_ | with_reducible refine ro_callA (f := .c (.fn 47 [])) ?_ | with_reducible refine ro_callA' (f := .c (.fn 47 [])) ?_ | with_reducible refine ro_callA (f := .c (.fn 50 [])) ?_ | with_reducible refine ro_callA' (f := .c (.fn 50 [])) ?_ | with_reducible refine ro_callA (f := .c (.fn 49 [])) ?_ | with_reducible refine ro_callA' (f := .c (.fn 49 [])) ?_ | with_reducible refine ro_callV ?_ | refine CallV_pure (pl) ?_ ?_ | with_reducible refine CallE_use (cu) (by simp) ?_ | with_reducible refine CallE_use (du) (by simp) ?_ | with_reducible refine CallE_use (cp) (by simp) ?_ | with_reducible refine CallE_use (df) (by simp) ?_ | simp (disch := omega) only [w64] | (refine CondK_split ?_ ?_ <;> intro hc <;> (try simp only [hc]) <;> try simp at hc) | (with_reducible refine And.intro ?_ ?_; (focus ((repeat' (with_reducible refine And.intro ?_ ?_)) <;> first | exact trivial | assumption | (simp; done) | (simp only [List.length_map] at *; omega) | omega | (simp [D.cells, D.ok, D.one, D.pt, D.pt1]; done)))) | (with_reducible intro x hx) | omega) <;> (try simp only [rowsP_len, oe, ow, rowsP_len, Nat.reduceBEq, argEnv, reduceIte, Nat.reduceEqDiff, Nat.reduceAdd, Nat.reduceSub, Nat.reduceLeDiff, reduceCtorEq, binD, binInt, okD, unD, faddrD, extD, loadD, splice, D.cells, D.ok, D.one, D.pt, D.pt1, D.pt0, D.norm1, ne_eq, view, view2, view1, view0, mapO, D.sc, D.sc1, D.sc2, pull, pull2, pull1, pull0, gate, pullσ, pullOb, Go.Vi.freeze, Go.Vi.freeze1, capt, capt.captL, reachL, reachO, isin, merge, mset, renOb, fr, D.ren, ofRes, fw]))
 ·have hat' : isAtB Us.id us (lowB Us.id us user) user = false := by simpa using hat
  rw [hat'] at pl
  rw [if_neg hat] at hf
  rw [hf]
  refine pureV Try.func24 low24 (by simp [c24]) ?_
  simp only [c24, St, Option.isSome_none, Bool.false_eq_true, if_false] at pl ⊢
  repeat' ((first | apply Run_seq | apply Run_skip | apply Run_ret | apply Run_nil | apply Run_condK | apply Run_ops mixed | with_reducible refine PostV_open ?_ | with_reducible refine ro_callV ?_ | refine CallV_pure (pl) ?_ ?_ | simp (disch := omega) only [w64, wu64, wu32, wu16, wu8, Int.tdiv_eq_ediv_of_nonneg, Int.tmod_eq_emod_of_nonneg] | (refine CondK_split ?_ ?_ <;> intro hc <;> (try simp only [hc]) <;> try simp at hc) | (with_reducible refine And.intro ?_ ?_; (focus ((repeat' (with_reducible refine And.intro ?_ ?_)) <;> first | exact trivial | assumption | (simp; done) | (simp only [List.length_map] at *; omega) | omega | (simp [D.cells, D.ok, D.one, D.pt, D.pt1]; done)))) | (with_reducible intro x hx) | omega) <;> (try simp only [Nat.reduceBEq, argEnv, reduceIte, Nat.reduceAdd, reduceCtorEq, okD, unD, extD, loadD, splice, D.cells, D.ok, D.one, D.pt, D.pt1, D.pt0, D.norm1, ne_eq, view, view2, view1, view0, mapO, D.sc, D.sc1, D.sc2, ofRes, fw]))
end Go.Proofs.Ytoleaiaeghbffaa
