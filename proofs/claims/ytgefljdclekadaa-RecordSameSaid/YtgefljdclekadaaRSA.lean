import Derived.Test.YtgefljdclekadaaRME
import Derived.Test.YtgefljdclekadaaVi25
import Derived.Test.YtgefljdclekadaaRSM
import Derived.Test.YtgefljdclekadaaRMC
set_option linter.unusedVariables false
set_option linter.unusedSimpArgs false
set_option linter.unnecessarySimpa false
namespace Go.Proofs.Ytgefljdclekadaa
open Go Go.Vi


deriving instance DecidableEq for As
theorem str_self (s : ByteArray) : (s == s) = true := by rw [str_beq]; simp
structure Re where
 err : Int
 ver : Int
 slots : List (Int × Int × Int)
 cursor : ByteArray
 po : Po
 deriving DecidableEq
def Re.cells (r : Re) : List D := [.int .i64 r.err, .int .u64 r.ver, L (row3 r.slots), .str r.cursor, .int .u32 r.po.id, .int .u32 r.po.owner, .int .i64 r.po.qu.a, .int .i64 r.po.qu.b, .int .i64 r.po.qu.long, .int .i64 r.po.qu.grid, L (row1 .u32 r.po.qu.must), L (row2 .u32 .i64 r.po.qu.may), .int .i64 r.po.qu.seats, L (row2 .u32 .u32 r.po.qu.apart), L (row3 r.po.qu.prefer), L (row1 .i64 r.po.slots), L (row2 .u32 .i64 r.po.votes), .int .i64 r.po.til, .int .i64 r.po.state, .int .i64 r.po.winner]
def As.fits (a : As) : Prop := a.se.fits ∧ a.ev.fits ∧ a.qu.fits
def Re.fits (a : Re) : Prop := a.slots.length ≤ 140737488351232 ∧ a.po.fits
def As.great (a : As) : Bool := a.se.great || a.ev.great || a.qu.great || decide (200 < a.cursor.size)
theorem greatAs_p (a : As) : PureD Try.prog 5 [.agg a.cells] (.bool a.great) := by
 refine pureV Try.func5 low5 (by simp [c5]) ?_
 simp only [c5, As.cells]
 have h1 := greatSe_p a.se
 have h2 := greatEv_p a.ev
 have h3 := greatQu_p a.qu
 simp only [Se.cells, Ev.cells, Qu.cells] at h1 h2 h3
 repeat' ((first | apply Run_seq | apply Run_ret | apply Run_nil | apply Run_ops mixed | with_reducible refine PostV_open ?_ | with_reducible refine ro_callV ?_ | refine CallV_pure (h1) ?_ ?_ | refine CallV_pure (h2) ?_ ?_ | refine CallV_pure (h3) ?_ ?_ | (refine GuardK_split ?_ ?_ <;> intro hc <;> (try simp only [hc]) <;> try simp at hc) | (with_reducible refine And.intro ?_ ?_; (focus ((repeat' (with_reducible refine And.intro ?_ ?_)) <;> first | exact trivial | assumption | (simp; done) | (simp only [List.length_map] at *; omega) | omega | (simp [D.cells, D.ok, D.one, D.pt, D.pt1]; done)))) | (with_reducible intro x hx) | omega) <;> (try simp only [Nat.reduceBEq, argEnv, reduceIte, Nat.reduceAdd, Nat.reduceLeDiff, reduceCtorEq, binD, binInt, pickD, faddrD, lenD, loadD, D.cells, D.ok, D.one, D.pt, D.pt1, D.pt0, D.norm1, cond_true, cond_false, ne_eq, view, view2, view1, view0, mapO, D.sc, D.sc1, D.sc2, ofRes, fw]))
 all_goals (unfold As.great; rw [Bool.eq_iff_iff]; simp [*]; try omega)
def Re.great (a : Re) : Bool := decide (150 < a.slots.length) || decide (200 < a.cursor.size) || a.po.great
theorem greatRe_p (a : Re) : PureD Try.prog 10 [.agg a.cells] (.bool a.great) := by
 refine pureV Try.func10 low10 (by simp [c10]) ?_
 simp only [c10, Re.cells]
 have h1 := greatPo_p a.po
 simp only [Po.row] at h1
 repeat' ((first | apply Run_seq | apply Run_ret | apply Run_nil | apply Run_ops mixed | with_reducible refine PostV_open ?_ | with_reducible refine ro_callV ?_ | refine CallV_pure (h1) ?_ ?_ | (refine GuardK_split ?_ ?_ <;> intro hc <;> (try simp only [hc]) <;> try simp at hc) | (with_reducible refine And.intro ?_ ?_; (focus ((repeat' (with_reducible refine And.intro ?_ ?_)) <;> first | exact trivial | assumption | (simp; done) | (simp only [List.length_map] at *; omega) | omega | (simp [D.cells, D.ok, D.one, D.pt, D.pt1]; done)))) | (with_reducible intro x hx) | omega) <;> (try simp only [row3_len, Nat.reduceBEq, argEnv, reduceIte, Nat.reduceAdd, reduceCtorEq, binD, binInt, pickD, faddrD, lenD, loadD, D.cells, D.ok, D.one, D.pt, D.pt1, D.pt0, D.norm1, cond_true, cond_false, ne_eq, view, view2, view1, view0, mapO, D.sc, D.sc1, D.sc2, ofRes, fw]))
 all_goals (unfold Re.great; rw [Bool.eq_iff_iff]; simp [*]; try omega)
set_option maxHeartbeats 2000000 in
theorem recAs_p (a b : As) (ha : a.fits) (hb : b.fits) : PureD Try.prog 11 [.agg a.cells, .agg b.cells] (.bool (decide (a = b))) := by
 obtain ⟨f1, f2, f3⟩ := ha
 obtain ⟨g1, g2, g3⟩ := hb
 refine pureV Try.func11 low11 (by simp [c11]) ?_
 have h5 := recSe_p a.se b.se f1 g1
 have h6 := recEv_p a.ev b.ev f2 g2
 have h7 := recQu_p a.qu b.qu f3 g3
 obtain ⟨a0, a1, a2, a3, a4, a5, a6, a7, a8, a9, a10, a11, a12, a13⟩ := a
 obtain ⟨b0, b1, b2, b3, b4, b5, b6, b7, b8, b9, b10, b11, b12, b13⟩ := b
 dsimp only at h5 h6 h7
 have e : decide (As.mk a0 a1 a2 a3 a4 a5 a6 a7 a8 a9 a10 a11 a12 a13 = As.mk b0 b1 b2 b3 b4 b5 b6 b7 b8 b9 b10 b11 b12 b13) = ((a0 == b0) && ((a1 == b1) && ((a2 == b2) && ((a3 == b3) && ((a4 == b4) && (decide (a5 = b5) && (decide (a6 = b6) && (decide (a7 = b7) && ((a8 == b8) && ((a9 == b9) && ((a10 == b10) && ((a11 == b11) && ((a12 == b12) && (a13 == b13)))))))))))))) := by
  rw [Bool.eq_iff_iff]
  simp only [Bool.and_eq_true, str_beq, beq_iff_eq, decide_eq_true_eq, As.mk.injEq]
 rw [e]
 clear e
 generalize decide (a5 = b5) = x5 at h5 ⊢
 generalize decide (a6 = b6) = x6 at h6 ⊢
 generalize decide (a7 = b7) = x7 at h7 ⊢
 simp only [c11, As.cells]
 simp only [Se.cells, Ev.cells, Qu.cells] at h5 h6 h7
 repeat' ((first | apply Run_seq | apply Run_ret | apply Run_nil | apply Run_ops mixed | with_reducible refine PostV_open ?_ | with_reducible refine ro_callV ?_ | refine CallV_pure (h5) ?_ ?_ | refine CallV_pure (h6) ?_ ?_ | refine CallV_pure (h7) ?_ ?_ | (refine GuardK_split ?_ ?_ <;> intro hc <;> (try simp only [hc]) <;> try simp at hc) | (with_reducible refine And.intro ?_ ?_; (focus ((repeat' (with_reducible refine And.intro ?_ ?_)) <;> first | exact trivial | assumption | (simp; done) | (simp only [List.length_map] at *; omega) | omega | (simp [D.cells, D.ok, D.one, D.pt, D.pt1]; done)))) | (with_reducible intro x hx) | omega) <;> (try simp only [Nat.reduceBEq, argEnv, reduceIte, Nat.reduceAdd, Nat.reduceLeDiff, reduceCtorEq, binD, binInt, binStr, eqD, eqN, boolD, pickD, faddrD, loadD, D.cells, D.ok, D.one, D.pt, D.pt1, D.pt0, D.norm1, cond_true, cond_false, ne_eq, view, view2, view1, view0, mapO, D.sc, D.sc1, D.sc2, ofRes, fw]))
 all_goals (rw [Bool.eq_iff_iff]; simp [*, str_beq]; try (exact fun h1 h2 => absurd h2 (hc h1)))
set_option maxHeartbeats 2000000 in
theorem refAs_p (a b : As) (ha : a.fits) (hb : b.fits) : PureD Try.prog 8 [.agg a.cells, .agg b.cells] (.bool (decide (a = b))) := by
 obtain ⟨f1, f2, f3⟩ := ha
 obtain ⟨g1, g2, g3⟩ := hb
 refine pureV Try.func8 low8 (by simp [c8]) ?_
 have h5 := sameSe_p a.se b.se f1 g1
 have h6 := sameEv_p a.ev b.ev f2 g2
 have h7 := sameQu_p a.qu b.qu f3 g3
 obtain ⟨a0, a1, a2, a3, a4, a5, a6, a7, a8, a9, a10, a11, a12, a13⟩ := a
 obtain ⟨b0, b1, b2, b3, b4, b5, b6, b7, b8, b9, b10, b11, b12, b13⟩ := b
 dsimp only at h5 h6 h7
 have e : decide (As.mk a0 a1 a2 a3 a4 a5 a6 a7 a8 a9 a10 a11 a12 a13 = As.mk b0 b1 b2 b3 b4 b5 b6 b7 b8 b9 b10 b11 b12 b13) = ((a0 == b0) && ((a1 == b1) && ((a2 == b2) && ((a3 == b3) && ((a4 == b4) && (decide (a5 = b5) && (decide (a6 = b6) && (decide (a7 = b7) && ((a8 == b8) && ((a9 == b9) && ((a10 == b10) && ((a11 == b11) && ((a12 == b12) && (a13 == b13)))))))))))))) := by
  rw [Bool.eq_iff_iff]
  simp only [Bool.and_eq_true, str_beq, beq_iff_eq, decide_eq_true_eq, As.mk.injEq]
 rw [e]
 clear e
 generalize decide (a5 = b5) = x5 at h5 ⊢
 generalize decide (a6 = b6) = x6 at h6 ⊢
 generalize decide (a7 = b7) = x7 at h7 ⊢
 simp only [c8, As.cells]
 simp only [Se.cells, Ev.cells, Qu.cells] at h5 h6 h7
 repeat' ((first | apply Run_seq | apply Run_ret | apply Run_nil | apply Run_ops mixed | with_reducible refine PostV_open ?_ | with_reducible refine ro_callV ?_ | refine CallV_pure (h5) ?_ ?_ | refine CallV_pure (h6) ?_ ?_ | refine CallV_pure (h7) ?_ ?_ | (refine GuardK_split ?_ ?_ <;> intro hc <;> (try simp only [hc]) <;> try simp at hc) | (with_reducible refine And.intro ?_ ?_; (focus ((repeat' (with_reducible refine And.intro ?_ ?_)) <;> first | exact trivial | assumption | (simp; done) | (simp only [List.length_map] at *; omega) | omega | (simp [D.cells, D.ok, D.one, D.pt, D.pt1]; done)))) | (with_reducible intro x hx) | omega) <;> (try simp only [Nat.reduceBEq, argEnv, reduceIte, Nat.reduceAdd, Nat.reduceLeDiff, reduceCtorEq, binD, binInt, binStr, eqD, eqN, boolD, pickD, faddrD, loadD, D.cells, D.ok, D.one, D.pt, D.pt1, D.pt0, D.norm1, cond_true, cond_false, ne_eq, view, view2, view1, view0, mapO, D.sc, D.sc1, D.sc2, ofRes, fw]))
 all_goals (rw [Bool.eq_iff_iff]; simp [*, str_beq]; try (exact fun h1 h2 => absurd h2 (hc h1)))
theorem recRe_p (a b : Re) (ha : a.fits) (hb : b.fits) : PureD Try.prog 12 [.agg a.cells, .agg b.cells] (.bool (decide (a = b))) := by
 obtain ⟨f1, f2⟩ := ha
 obtain ⟨g1, g2⟩ := hb
 refine pureV Try.func12 low12 (by simp [c12]) ?_
 have h2 := eqSlot_p a.slots b.slots f1 g1
 have h4 := recPo_p a.po b.po f2 g2
 obtain ⟨a0, a1, a2, a3, a4⟩ := a
 obtain ⟨b0, b1, b2, b3, b4⟩ := b
 dsimp only at h2 h4
 have e : decide (Re.mk a0 a1 a2 a3 a4 = Re.mk b0 b1 b2 b3 b4) = ((a0 == b0) && ((a1 == b1) && (decide (a2 = b2) && ((a3 == b3) && decide (a4 = b4))))) := by
  rw [Bool.eq_iff_iff]
  simp only [Bool.and_eq_true, str_beq, beq_iff_eq, decide_eq_true_eq, Re.mk.injEq]
 rw [e]
 clear e
 generalize decide (a2 = b2) = x2 at h2 ⊢
 generalize decide (a4 = b4) = x4 at h4 ⊢
 simp only [c12, Re.cells]
 simp only [Po.row] at h4
 repeat' ((first | apply Run_seq | apply Run_ret | apply Run_nil | apply Run_ops mixed | with_reducible refine PostV_open ?_ | with_reducible refine ro_callV ?_ | refine CallV_pure (h2) ?_ ?_ | refine CallV_pure (h4) ?_ ?_ | (refine GuardK_split ?_ ?_ <;> intro hc <;> (try simp only [hc]) <;> try simp at hc) | (with_reducible refine And.intro ?_ ?_; (focus ((repeat' (with_reducible refine And.intro ?_ ?_)) <;> first | exact trivial | assumption | (simp; done) | (simp only [List.length_map] at *; omega) | omega | (simp [D.cells, D.ok, D.one, D.pt, D.pt1]; done)))) | (with_reducible intro x hx) | omega) <;> (try simp only [Nat.reduceBEq, argEnv, reduceIte, Nat.reduceAdd, reduceCtorEq, binD, binInt, binStr, pickD, faddrD, loadD, D.cells, D.ok, D.one, D.pt, D.pt1, D.pt0, D.norm1, cond_true, cond_false, ne_eq, view, view2, view1, view0, mapO, D.sc, D.sc1, D.sc2, ofRes, fw]))
 all_goals (rw [Bool.eq_iff_iff]; simp [*, str_beq]; try (exact fun h1 h2 => absurd h2 (hc h1)))
theorem Re.eq_iff {a b : Re} : a = b ↔ (a.err = b.err ∧ a.ver = b.ver ∧ a.slots = b.slots ∧ a.cursor = b.cursor ∧ a.po = b.po) := by
 cases a; cases b; simp only [Re.mk.injEq]
set_option maxHeartbeats 4000000 in
theorem refRe_p (a b : Re) (fa : a.fits) (fb : b.fits) : PureD Try.prog 13 [.agg a.cells, .agg b.cells] (.bool (decide (a = b))) := by
 refine pureV Try.func13 low13 (by simp [c13]) ?_
 simp only [c13, Re.cells]
 obtain ⟨a1, a2⟩ := fa
 obtain ⟨b1, b2'⟩ := fb
 by_cases h : ¬ (b.err = a.err ∧ b.ver = a.ver ∧ b.cursor = a.cursor ∧ a.slots.length = b.slots.length)
 ·have e : decide (a = b) = false := by
   simp only [decide_eq_false_iff_not]
   rintro rfl
   exact h ⟨rfl, rfl, rfl, rfl⟩
  rw [e]
  repeat' ((first | apply Run_seq | apply Run_skip | apply Run_block | apply Run_blk | refine Run_exit rfl ?_ | apply Run_ret | apply Run_nil | apply Run_condK | apply Run_ops mixed | apply Run_opsX mixed | with_reducible refine PostV_open ?_ | with_reducible refine ro_callV ?_ | simp (disch := omega) only [w64, wu64, wu32, wu16, wu8, Int.tdiv_eq_ediv_of_nonneg, Int.tmod_eq_emod_of_nonneg] | ((first | refine GuardK_split ?_ ?_ | refine CondK_split ?_ ?_) <;> intro hc <;> (try simp only [hc]) <;> try simp at hc) | (with_reducible refine And.intro ?_ ?_; (focus ((repeat' (with_reducible refine And.intro ?_ ?_)) <;> first | exact trivial | assumption | (simp; done) | (simp only [List.length_map] at *; omega) | omega | (simp [D.cells, D.ok, D.one, D.pt, D.pt1]; done)))) | (with_reducible intro x hx) | omega) <;> (try simp only [row3_len, Nat.reduceBEq, argEnv, reduceIte, Nat.reduceAdd, reduceCtorEq, binD, binInt, binStr, pickD, faddrD, lenD, loadD, D.cells, D.ok, D.one, D.pt1, D.pt0, D.norm1, cond_true, cond_false, ne_eq, view, view2, view1, view0, ofRes, fw]))
  all_goals (first | (exfalso; simp_all [str_beq]; done) | (exfalso; apply h; simp_all [str_beq]; done) | (exfalso; rename_i x1 x2 x3; rw [str_beq, decide_eq_true_eq] at x3; exact h ⟨x1.symm, x2.symm, x3.symm, by omega⟩))
 obtain ⟨e0, e1, e2, hl0⟩ : (b.err = a.err ∧ b.ver = a.ver ∧ b.cursor = a.cursor ∧ a.slots.length = b.slots.length) := by simpa using h
 have cl0 : ((a.slots.length : Int) == (b.slots.length : Int)) = true := by simp [hl0]
 repeat' ((first | apply Run_seq | apply Run_skip | apply Run_block | apply Run_blk | refine Run_exit rfl ?_ | apply Run_ret | apply Run_nil | apply Run_condK | apply Run_ops mixed | apply Run_opsX mixed | with_reducible refine PostV_open ?_ | with_reducible refine ro_callV ?_ | simp (disch := omega) only [w64, wu64, wu32, wu16, wu8, Int.tdiv_eq_ediv_of_nonneg, Int.tmod_eq_emod_of_nonneg] | ((first | refine GuardK_split ?_ ?_ | refine CondK_split ?_ ?_) <;> intro hc <;> (try simp only [hc]) <;> try simp at hc) | (with_reducible refine And.intro ?_ ?_; (focus ((repeat' (with_reducible refine And.intro ?_ ?_)) <;> first | exact trivial | assumption | (simp; done) | (simp only [List.length_map] at *; omega) | omega | (simp [D.cells, D.ok, D.one, D.pt, D.pt1]; done)))) | (with_reducible intro x hx) | omega) <;> (try simp only [row3_len, str_self, e0, e1, e2, Nat.reduceBEq, argEnv, reduceIte, Nat.reduceAdd, reduceCtorEq, binD, binInt, binStr, pickD, faddrD, lenD, loadD, D.cells, D.ok, D.one, D.pt1, D.pt0, D.norm1, cond_false, ne_eq, view, view2, view1, view0, ofRes, fw]))
 refine Run_loop (ι := {i : Nat // i ≤ a.slots.length ∧ a.slots.take i = b.slots.take i}) (fun i => ([(2, .ptr 0 0 0 1), (3, .ptr 1 0 0 1), (36, .int .i64 a.slots.length), (37, .int .i64 i.1)], [⟨true, false, true, false, 20, [a.cells], some 0⟩, ⟨true, false, true, false, 20, [b.cells], some 0⟩])) (fun i => a.slots.length - i.1) ⟨0, by simp⟩ ?_ ?_
 ·simp only [Re.cells, e0, e1, e2]
  refine Ent_gc [0, 1] (by rfl) (by simp) (by simp [keptW, ObKW, ObW, imp_self, pullOb, or_false]) (by simp [lk_hit, lk_miss, D.pt0, viewS_own', pull, pull2, pull1, pull0, idx_hit, idx_miss, sucO_some, gate, List.mem_cons, or_false, view0])
 rintro ⟨i, hi, ht⟩ hk
 dsimp only at hk ⊢
 by_cases hlt : i < a.slots.length
 ·have c2 : ((i : Int) < (a.slots.length : Int)) = True := by simp; omega
  obtain ⟨x, hx⟩ : ∃ x, a.slots[i]? = some x := ⟨_, List.getElem?_eq_getElem hlt⟩
  obtain ⟨y, hy⟩ : ∃ y, b.slots[i]? = some y := ⟨_, List.getElem?_eq_getElem (by omega)⟩
  have rx := row3_get hx
  have ry := row3_get hy
  have q2 := b3 (x := x) (y := y)
  by_cases hxy : x = y
  ·have c3 : decide (x = y) = true := by simpa using hxy
   repeat' ((first | apply Run_seq | apply Run_skip | apply Run_block | apply Run_blk | refine Run_exit rfl ?_ | apply Run_ret | apply Run_nil | apply Run_condK | apply Run_ops mixed | apply Run_opsX mixed | with_reducible refine PostV_open ?_ | with_reducible refine ro_callV ?_ | simp (disch := omega) only [w64] | ((first | refine GuardK_split ?_ ?_ | refine CondK_split ?_ ?_) <;> intro hc <;> (try simp only [hc]) <;> try simp at hc) | (with_reducible refine And.intro ?_ ?_; (focus ((repeat' (with_reducible refine And.intro ?_ ?_)) <;> first | exact trivial | assumption | (simp; done) | (simp only [List.length_map] at *; omega) | omega | (simp [D.cells, D.ok, D.one, D.pt, D.pt1]; done)))) | (with_reducible intro x hx) | omega) <;> (try simp only [row3_len, c2, q2, c3, rx, ry, Re.cells, Nat.reduceBEq, reduceIte, Nat.reduceAdd, binD, binInt, eqD, eqCell, eqCells, eqN, boolD, faddrD, loadD, cond_true, fw]))
   refine hk ⟨i + 1, by omega, eq_step ht hx hy hxy⟩ _ _ (by dsimp only; omega) ?_
   dsimp only [Re.cells]
   refine Ent_gc [0, 1] (by rfl) (by simp) (by simp [keptW, ObKW, ObW, imp_self, pullOb, or_false]) (by simp [lk_hit, lk_miss, D.pt0, viewS_own', pull, pull2, pull1, pull0, idx_hit, idx_miss, sucO_some, gate, List.mem_cons, or_false, view0])
  ·have c3 : decide (x = y) = false := by simpa using hxy
   have e : decide (a = b) = false := by
    have := eq_no hx hy hxy
    simp only [decide_eq_false_iff_not] at this ⊢
    exact fun h => this (by rw [h])
   rw [e]
   repeat' ((first | apply Run_seq | apply Run_skip | apply Run_block | apply Run_blk | refine Run_exit rfl ?_ | apply Run_ret | apply Run_nil | apply Run_condK | apply Run_ops mixed | apply Run_opsX mixed | with_reducible refine PostV_open ?_ | with_reducible refine ro_callV ?_ | simp (disch := omega) only [w64, wu64, wu32, wu16, wu8, Int.tdiv_eq_ediv_of_nonneg, Int.tmod_eq_emod_of_nonneg] | ((first | refine GuardK_split ?_ ?_ | refine CondK_split ?_ ?_) <;> intro hc <;> (try simp only [hc]) <;> try simp at hc) | (with_reducible refine And.intro ?_ ?_; (focus ((repeat' (with_reducible refine And.intro ?_ ?_)) <;> first | exact trivial | assumption | (simp; done) | (simp only [List.length_map] at *; omega) | omega | (simp [D.cells, D.ok, D.one, D.pt, D.pt1]; done)))) | (with_reducible intro x hx) | omega) <;> (try simp only [row3_len, c2, q2, c3, rx, ry, Re.cells, Nat.reduceBEq, reduceIte, Nat.reduceAdd, binD, binInt, eqD, eqCell, eqCells, eqN, boolD, faddrD, loadD, D.pt0, D.norm1, cond_true, view, view2, view1, view0, ofRes, fw]))
 ·have c2 : ((i : Int) < (a.slots.length : Int)) = False := by simp; omega
  have q_slots : a.slots = b.slots := by simpa using eq_end ht hlt hl0
  clear hk ht hlt hi
  have e6 : decide (a = b) = decide (a.po = b.po) := by
   rw [Bool.eq_iff_iff]; simp [Re.eq_iff, e0, e1, e2, q_slots]
  rw [e6]
  have w_po := samePo_p a.po b.po a2 b2'
  simp only [Po.row] at w_po
  repeat' ((first | apply Run_seq | apply Run_skip | apply Run_block | apply Run_blk | refine Run_exit rfl ?_ | apply Run_ret | apply Run_nil | apply Run_condK | apply Run_ops mixed | apply Run_opsX mixed | with_reducible refine PostV_open ?_ | with_reducible refine ro_callV ?_ | refine CallV_pure (w_po) ?_ ?_ | simp (disch := omega) only [w64, wu64, wu32, wu16, wu8, Int.tdiv_eq_ediv_of_nonneg, Int.tmod_eq_emod_of_nonneg] | ((first | refine GuardK_split ?_ ?_ | refine CondK_split ?_ ?_) <;> intro hc <;> (try simp only [hc]) <;> try simp at hc) | (with_reducible refine And.intro ?_ ?_; (focus ((repeat' (with_reducible refine And.intro ?_ ?_)) <;> first | exact trivial | assumption | (simp; done) | (simp only [List.length_map] at *; omega) | omega | (simp [D.cells, D.ok, D.one, D.pt, D.pt1]; done)))) | (with_reducible intro x hx) | omega) <;> (try simp only [c2, Re.cells, Nat.reduceBEq, reduceIte, Nat.reduceAdd, binD, binInt, faddrD, loadD, D.pt, D.pt1, D.pt0, D.norm1, view, view2, view1, view0, mapO, D.sc, D.sc1, D.sc2, ofRes, fw]))
end Go.Proofs.Ytgefljdclekadaa
