import Derived.Test.YtoleaiaeghbffaaCME
import Derived.Test.YtoleaiaeghbffaaVi25
set_option linter.unusedVariables false
set_option linter.unusedSimpArgs false
set_option linter.unnecessarySimpa false
namespace Go.Proofs.Ytoleaiaeghbffaa
open Go Go.Vi


theorem rstamp_p (n : Int) : PureD Try.prog 85 [.int .i64 n] (.bool (stampB n)) := by
 refine pureV Try.func85 low85 (by simp [c85]) ?_
 simp only [c85]
 repeat' ((first | apply Run_seq | apply Run_ret | apply Run_nil | apply Run_ops mixed | with_reducible refine PostV_open ?_ | (refine GuardK_split ?_ ?_ <;> intro hc <;> (try simp only [hc]) <;> try simp at hc) | (with_reducible refine And.intro ?_ ?_; (focus ((repeat' (with_reducible refine And.intro ?_ ?_)) <;> first | exact trivial | assumption | (simp; done) | (simp only [List.length_map] at *; omega) | omega | (simp [D.cells, D.ok, D.one, D.pt, D.pt1]; done)))) | (with_reducible intro x hx) | omega) <;> (try simp only [Nat.reduceBEq, argEnv, reduceIte, binD, binInt, pickD, D.pt0, D.norm1, cond_true, cond_false, view, view2, view1, view0, ofRes, fw]))
 all_goals (unfold stampB; simp; omega)
theorem refRow_p (l : List Int) (hl : l.length ≤ 140737488351232) : PureD Try.prog 87 [L (row1 .i64 l)] (.bool (rowB l)) := by
 refine pureV Try.func87 low87 (by simp [c87]) ?_
 simp only [c87]
 repeat' ((first | apply Run_seq | apply Run_skip | apply Run_block | apply Run_blk | refine Run_exit rfl ?_ | apply Run_ret | apply Run_nil | apply Run_condK | apply Run_ops mixed | apply Run_opsX mixed | with_reducible refine PostV_open ?_ | with_reducible refine ro_callVX ?_ | simp (disch := omega) only [w64, wu64, wu32, wu16, wu8, Int.tdiv_eq_ediv_of_nonneg, Int.tmod_eq_emod_of_nonneg] | ((first | refine GuardK_split ?_ ?_ | refine CondK_split ?_ ?_) <;> intro hc <;> (try simp only [hc]) <;> try simp at hc) | (with_reducible refine And.intro ?_ ?_; (focus ((repeat' (with_reducible refine And.intro ?_ ?_)) <;> first | exact trivial | assumption | (simp; done) | (simp only [List.length_map] at *; omega) | omega | (simp [D.cells, D.ok, D.one, D.pt, D.pt1]; done)))) | (with_reducible intro x hx) | omega) <;> (try simp only [row1_len, Nat.reduceBEq, argEnv, lenD, fw]))
 refine Run_loop (ι := {i : Nat // i ≤ l.length ∧ (l.take i).all stampB = true ∧ (l.take i).Pairwise fun a b => a < b}) (fun i => ([(0, L (row1 .i64 l)), (5, .int .i64 l.length), (6, .int .i64 i.1)], [])) (fun i => l.length - i.1) ⟨0, by simp⟩ ?_ ?_
 ·refine Ent_gc [] (by rfl) (by simp) (by simp [keptW]) (by simp [lk_hit, lk_miss, D.pt0, viewS_own', pull, pull2, pull1, pull0, idx_nil, gate, List.mem_cons, or_false, view0])
 rintro ⟨i, hi, ha, hp⟩ hk
 dsimp only at hk ⊢
 by_cases hlt : i < l.length
 ·have c2 : ((i : Int) < (l.length : Int)) = True := by simp; omega
  obtain ⟨x, hx⟩ : ∃ x, l[i]? = some x := ⟨_, List.getElem?_eq_getElem hlt⟩
  have rx := row1_get (k := .i64) hx
  have st := rstamp_p x
  by_cases hs : stampB x = true
  ·rw [hs] at st
   cases i with
   | zero =>
    repeat' ((first | apply Run_seq | apply Run_skip | apply Run_block | apply Run_blk | refine Run_exit rfl ?_ | apply Run_ret | apply Run_nil | apply Run_condK | apply Run_ops mixed | apply Run_opsX mixed | with_reducible refine PostV_open ?_ | with_reducible refine ro_callVX ?_ | refine CallV_pure (st) ?_ ?_ | simp (disch := omega) only [w64] | ((first | refine GuardK_split ?_ ?_ | refine CondK_split ?_ ?_) <;> intro hc <;> (try simp only [hc]) <;> try simp at hc) | (with_reducible refine And.intro ?_ ?_; (focus ((repeat' (with_reducible refine And.intro ?_ ?_)) <;> first | exact trivial | assumption | (simp; done) | (simp only [List.length_map] at *; omega) | omega | (simp [D.cells, D.ok, D.one, D.pt, D.pt1]; done)))) | (with_reducible intro x hx) | omega) <;> (try simp only [row1_len, c2, rx, Nat.reduceBEq, reduceIte, binD, binInt, okD, unD, pickD, loadD, D.pt, D.pt1, D.pt0, D.norm1, cond_false, Int.reduceNeg, IntKind.bits, view, view2, view1, view0, mapO, D.sc, D.sc1, D.sc2, fw]))
    refine hk ⟨1, by omega, all_step ha hx hs, by rw [List.take_add_one, hx]; simp⟩ _ _ (by dsimp only; omega) ?_
    dsimp only
    refine Ent_gc [] (by rfl) (by simp) (by simp [keptW]) (by simp [lk_hit, lk_miss, D.pt0, viewS_own', pull, pull2, pull1, pull0, idx_nil, gate, List.mem_cons, or_false, view0])
   | succ i =>
    obtain ⟨y, hy⟩ : ∃ y, l[i]? = some y := ⟨_, List.getElem?_eq_getElem (by omega)⟩
    have ry := row1_get (k := .i64) hy
    have c7 : (((i + 1 : Nat) : Int) > 0) = True := by rw [eq_iff_iff]; exact ⟨fun _ => trivial, fun _ => by omega⟩
    have c8 : (((i + 1 : Nat) : Int) - 1) = (i : Int) := by omega
    by_cases hyx : y < x
    ·have c9 : (y ≥ x) = False := by simp; omega
     repeat' ((first | apply Run_seq | apply Run_skip | apply Run_block | apply Run_blk | refine Run_exit rfl ?_ | apply Run_ret | apply Run_nil | apply Run_condK | apply Run_ops mixed | apply Run_opsX mixed | with_reducible refine PostV_open ?_ | with_reducible refine ro_callVX ?_ | refine CallV_pure (st) ?_ ?_ | simp (disch := omega) only [w64] | ((first | refine GuardK_split ?_ ?_ | refine CondK_split ?_ ?_) <;> intro hc <;> (try simp only [hc]) <;> try simp at hc) | (with_reducible refine And.intro ?_ ?_; (focus ((repeat' (with_reducible refine And.intro ?_ ?_)) <;> first | exact trivial | assumption | (simp; done) | (simp only [List.length_map] at *; omega) | omega | (simp [D.cells, D.ok, D.one, D.pt, D.pt1]; done)))) | (with_reducible intro x hx) | omega) <;> (try simp only [row1_len, c2, c7, c8, c9, rx, ry, Nat.reduceBEq, reduceIte, binD, binInt, okD, unD, pickD, loadD, D.pt, D.pt1, D.pt0, D.norm1, cond_true, cond_false, Int.reduceNeg, IntKind.bits, view, view2, view1, view0, mapO, D.sc, D.sc1, D.sc2, fw]))
     refine hk ⟨i + 1 + 1, by omega, all_step ha hx hs, pw_step (R := fun a b : Int => a < b) (fun _ _ _ => Int.lt_trans) hp hy hx hyx⟩ _ _ (by dsimp only; omega) ?_
     dsimp only
     refine Ent_gc [] (by rfl) (by simp) (by simp [keptW]) (by simp [lk_hit, lk_miss, D.pt0, viewS_own', pull, pull2, pull1, pull0, idx_nil, gate, List.mem_cons, or_false, view0])
    ·have c9 : (y ≥ x) = True := by simp; omega
     have e : rowB l = false := by
      have : risB l = false := by simpa [risB] using pw_no hy hx hyx
      simp [rowB, this]
     rw [e]
     repeat' ((first | apply Run_seq | apply Run_skip | apply Run_block | apply Run_blk | refine Run_exit rfl ?_ | apply Run_ret | apply Run_nil | apply Run_condK | apply Run_ops mixed | apply Run_opsX mixed | with_reducible refine PostV_open ?_ | with_reducible refine ro_callVX ?_ | refine CallV_pure (st) ?_ ?_ | simp (disch := omega) only [w64] | ((first | refine GuardK_split ?_ ?_ | refine CondK_split ?_ ?_) <;> intro hc <;> (try simp only [hc]) <;> try simp at hc) | (with_reducible refine And.intro ?_ ?_; (focus ((repeat' (with_reducible refine And.intro ?_ ?_)) <;> first | exact trivial | assumption | (simp; done) | (simp only [List.length_map] at *; omega) | omega | (simp [D.cells, D.ok, D.one, D.pt, D.pt1]; done)))) | (with_reducible intro x hx) | omega) <;> (try simp only [row1_len, c2, c7, c8, c9, rx, ry, Nat.reduceBEq, reduceIte, binD, binInt, okD, unD, pickD, loadD, D.pt, D.pt1, D.pt0, D.norm1, cond_true, cond_false, Int.reduceNeg, IntKind.bits, view, view2, view1, view0, mapO, D.sc, D.sc1, D.sc2, ofRes, fw]))
  ·have hs' : stampB x = false := by simpa using hs
   rw [hs'] at st
   have e : rowB l = false := by simp only [rowB, all_no hx hs', Bool.false_and]
   rw [e]
   repeat' ((first | apply Run_seq | apply Run_skip | apply Run_block | apply Run_blk | refine Run_exit rfl ?_ | apply Run_ret | apply Run_nil | apply Run_condK | apply Run_ops mixed | apply Run_opsX mixed | with_reducible refine PostV_open ?_ | with_reducible refine ro_callVX ?_ | refine CallV_pure (st) ?_ ?_ | simp (disch := omega) only [w64, wu64, wu32, wu16, wu8, Int.tdiv_eq_ediv_of_nonneg, Int.tmod_eq_emod_of_nonneg] | ((first | refine GuardK_split ?_ ?_ | refine CondK_split ?_ ?_) <;> intro hc <;> (try simp only [hc]) <;> try simp at hc) | (with_reducible refine And.intro ?_ ?_; (focus ((repeat' (with_reducible refine And.intro ?_ ?_)) <;> first | exact trivial | assumption | (simp; done) | (simp only [List.length_map] at *; omega) | omega | (simp [D.cells, D.ok, D.one, D.pt, D.pt1]; done)))) | (with_reducible intro x hx) | omega) <;> (try simp only [row1_len, c2, rx, Nat.reduceBEq, reduceIte, binD, binInt, okD, unD, pickD, loadD, D.pt, D.pt1, D.pt0, D.norm1, cond_true, Int.reduceNeg, IntKind.bits, view, view2, view1, view0, mapO, D.sc, D.sc1, D.sc2, ofRes, fw]))
 ·have c2 : ((i : Int) < (l.length : Int)) = False := by simp; omega
  obtain rfl : i = l.length := by omega
  rw [List.take_length] at ha hp
  have hr : risB l = true := by simpa [risB] using hp
  repeat' ((first | apply Run_seq | apply Run_skip | apply Run_block | apply Run_blk | refine Run_exit rfl ?_ | apply Run_ret | apply Run_nil | apply Run_condK | apply Run_ops mixed | apply Run_opsX mixed | with_reducible refine PostV_open ?_ | with_reducible refine ro_callVX ?_ | simp (disch := omega) only [w64, wu64, wu32, wu16, wu8, Int.tdiv_eq_ediv_of_nonneg, Int.tmod_eq_emod_of_nonneg] | ((first | refine GuardK_split ?_ ?_ | refine CondK_split ?_ ?_) <;> intro hc <;> (try simp only [hc]) <;> try simp at hc) | (with_reducible refine And.intro ?_ ?_; (focus ((repeat' (with_reducible refine And.intro ?_ ?_)) <;> first | exact trivial | assumption | (simp; done) | (simp only [List.length_map] at *; omega) | omega | (simp [D.cells, D.ok, D.one, D.pt, D.pt1]; done)))) | (with_reducible intro x hx) | omega) <;> (try simp only [row1_len, c2, Nat.reduceBEq, reduceIte, binD, binInt, lenD, D.pt0, D.norm1, view, view2, view1, view0, ofRes, fw]))
  all_goals (unfold rowB; rw [ha, hr]; simp; try omega)
set_option maxHeartbeats 4000000 in
theorem rruleRow_p (l : List Int) (most : Int) (below : Bool) (hm : 0 ≤ most) (hm' : most ≤ 1000) (hl : l.length ≤ 140737488351232) : PureD Try.prog 102 [L (row1 .i64 l), .int .i64 most, .bool below] (.bool (rrowB most below l)) := by
 refine pureV Try.func102 low102 (by simp [c102]) ?_
 simp only [c102]
 repeat' ((first | apply Run_seq | apply Run_skip | apply Run_block | apply Run_blk | refine Run_exit rfl ?_ | apply Run_ret | apply Run_nil | apply Run_condK | apply Run_ops mixed | apply Run_opsX mixed | with_reducible refine PostV_open ?_ | simp (disch := omega) only [w64, wu64, wu32, wu16, wu8, Int.tdiv_eq_ediv_of_nonneg, Int.tmod_eq_emod_of_nonneg] | ((first | refine GuardK_split ?_ ?_ | refine CondK_split ?_ ?_) <;> intro hc <;> (try simp only [hc]) <;> try simp at hc) | (with_reducible refine And.intro ?_ ?_; (focus ((repeat' (with_reducible refine And.intro ?_ ?_)) <;> first | exact trivial | assumption | (simp; done) | (simp only [List.length_map] at *; omega) | omega | (simp [D.cells, D.ok, D.one, D.pt, D.pt1]; done)))) | (with_reducible intro x hx) | omega) <;> (try simp only [row1_len, Nat.reduceBEq, argEnv, Nat.reduceAdd, lenD, fw]))
 refine Run_loop (ι := {i : Nat // i ≤ l.length ∧ (l.take i).all (numB most below) = true ∧ (l.take i).Pairwise fun a b => a < b}) (fun i => ([(0, L (row1 .i64 l)), (1, .int .i64 most), (2, .bool below), (9, .int .i64 l.length), (10, .int .i64 i.1)], [])) (fun i => l.length - i.1) ⟨0, by simp⟩ ?_ ?_
 ·refine Ent_gc [] (by rfl) (by simp) (by simp [keptW]) (by simp [lk_hit, lk_miss, D.pt0, viewS_own', pull, pull2, pull1, pull0, idx_nil, gate, List.mem_cons, or_false, view0])
 rintro ⟨i, hi, ha, hp⟩ hk
 dsimp only at hk ⊢
 by_cases hlt : i < l.length
 ·have c2 : ((i : Int) < (l.length : Int)) = True := by simp; omega
  obtain ⟨x, hx⟩ : ∃ x, l[i]? = some x := ⟨_, List.getElem?_eq_getElem hlt⟩
  have rx := row1_get (k := .i64) hx
  by_cases hs : numB most below x = true
  ·have hs' := hs
   simp only [numB, Bool.and_eq_true, Bool.or_eq_true, decide_eq_true_eq] at hs'
   obtain ⟨⟨n1, n2, n3⟩, n4⟩ := hs'
   have d1 : (x == 0) = false := by simpa using n1
   have d2 : (x > most) = False := by simp; omega
   have d3 : (x < -most) = False := by simp; omega
   have d4 : (!below && decide (x < 0)) = false := by
    cases below with
    | true => rfl
    | false => simp at n4 ⊢; omega
   have d5 : below = false → (x < 0) = False := fun h => by subst h; simp at d4 ⊢; omega
   cases i with
   | zero =>
    cases below with
    | true =>
     repeat' ((first | apply Run_seq | apply Run_skip | apply Run_block | apply Run_blk | refine Run_exit rfl ?_ | apply Run_ret | apply Run_nil | apply Run_condK | apply Run_ops mixed | apply Run_opsX mixed | with_reducible refine PostV_open ?_ | simp (disch := omega) only [w64] | ((first | refine GuardK_split ?_ ?_ | refine CondK_split ?_ ?_) <;> intro hc <;> (try simp only [hc]) <;> try simp at hc) | (with_reducible refine And.intro ?_ ?_; (focus ((repeat' (with_reducible refine And.intro ?_ ?_)) <;> first | exact trivial | assumption | (simp; done) | (simp only [List.length_map] at *; omega) | omega | (simp [D.cells, D.ok, D.one, D.pt, D.pt1]; done)))) | (with_reducible intro x hx) | omega) <;> (try simp only [row1_len, c2, d1, d2, rx, Nat.reduceBEq, reduceIte, binD, binInt, binStr, okD, unD, pickD, loadD, D.pt0, D.norm1, cond_true, cond_false, view, view2, view1, view0, ofRes, fw]))
     refine hk ⟨1, by omega, all_step ha hx hs, by rw [List.take_add_one, hx]; simp⟩ _ _ (by dsimp only; omega) ?_
     dsimp only
     refine Ent_gc [] (by rfl) (by simp) (by simp [keptW]) (by simp [lk_hit, lk_miss, D.pt0, viewS_own', pull, pull2, pull1, pull0, idx_nil, gate, List.mem_cons, or_false, view0])
    | false =>
     have d6 := d5 rfl
     repeat' ((first | apply Run_seq | apply Run_skip | apply Run_block | apply Run_blk | refine Run_exit rfl ?_ | apply Run_ret | apply Run_nil | apply Run_condK | apply Run_ops mixed | apply Run_opsX mixed | with_reducible refine PostV_open ?_ | simp (disch := omega) only [w64] | ((first | refine GuardK_split ?_ ?_ | refine CondK_split ?_ ?_) <;> intro hc <;> (try simp only [hc]) <;> try simp at hc) | (with_reducible refine And.intro ?_ ?_; (focus ((repeat' (with_reducible refine And.intro ?_ ?_)) <;> first | exact trivial | assumption | (simp; done) | (simp only [List.length_map] at *; omega) | omega | (simp [D.cells, D.ok, D.one, D.pt, D.pt1]; done)))) | (with_reducible intro x hx) | omega) <;> (try simp only [row1_len, c2, d1, d2, d6, rx, Nat.reduceBEq, reduceIte, binD, binInt, binStr, okD, unD, pickD, loadD, D.pt0, D.norm1, cond_true, cond_false, view, view2, view1, view0, ofRes, fw]))
     refine hk ⟨1, by omega, all_step ha hx hs, by rw [List.take_add_one, hx]; simp⟩ _ _ (by dsimp only; omega) ?_
     dsimp only
     refine Ent_gc [] (by rfl) (by simp) (by simp [keptW]) (by simp [lk_hit, lk_miss, D.pt0, viewS_own', pull, pull2, pull1, pull0, idx_nil, gate, List.mem_cons, or_false, view0])
   | succ i =>
    obtain ⟨y, hy⟩ : ∃ y, l[i]? = some y := ⟨_, List.getElem?_eq_getElem (by omega)⟩
    have ry := row1_get (k := .i64) hy
    have c7 : (((i + 1 : Nat) : Int) > 0) = True := by rw [eq_iff_iff]; exact ⟨fun _ => trivial, fun _ => by omega⟩
    have c8 : (((i + 1 : Nat) : Int) - 1) = (i : Int) := by omega
    by_cases hyx : y < x
    ·have c9 : (y ≥ x) = False := by simp; omega
     cases below with
     | true =>
      repeat' ((first | apply Run_seq | apply Run_skip | apply Run_block | apply Run_blk | refine Run_exit rfl ?_ | apply Run_ret | apply Run_nil | apply Run_condK | apply Run_ops mixed | apply Run_opsX mixed | with_reducible refine PostV_open ?_ | simp (disch := omega) only [w64] | ((first | refine GuardK_split ?_ ?_ | refine CondK_split ?_ ?_) <;> intro hc <;> (try simp only [hc]) <;> try simp at hc) | (with_reducible refine And.intro ?_ ?_; focus (repeat' with_reducible refine And.intro ?_ ?_) <;> first | trivial | (simp; done) | omega | (simp [D.cells, D.ok, D.one, D.pt, D.pt1]; done)) | (with_reducible intro x hx) | omega) <;> (try simp only [row1_len, c2, c7, c8, c9, d1, d2, rx, ry, Nat.reduceBEq, reduceIte, binD, binInt, binStr, okD, unD, pickD, loadD, D.pt0, D.norm1, cond_true, cond_false, view, view2, view1, view0, ofRes, fw]))
      refine hk ⟨i + 1 + 1, by omega, all_step ha hx hs, pw_step (R := fun a b : Int => a < b) (fun _ _ _ => Int.lt_trans) hp hy hx hyx⟩ _ _ (by dsimp only; omega) ?_
      dsimp only
      refine Ent_gc [] (by rfl) (by simp) (by simp [keptW]) (by simp [lk_hit, lk_miss, D.pt0, viewS_own', pull, pull2, pull1, pull0, idx_nil, gate, List.mem_cons, or_false, view0])
     | false =>
      have d6 := d5 rfl
      repeat' ((first | apply Run_seq | apply Run_skip | apply Run_block | apply Run_blk | refine Run_exit rfl ?_ | apply Run_ret | apply Run_nil | apply Run_condK | apply Run_ops mixed | apply Run_opsX mixed | with_reducible refine PostV_open ?_ | simp (disch := omega) only [w64] | ((first | refine GuardK_split ?_ ?_ | refine CondK_split ?_ ?_) <;> intro hc <;> (try simp only [hc]) <;> try simp at hc) | (with_reducible refine And.intro ?_ ?_; focus (repeat' with_reducible refine And.intro ?_ ?_) <;> first | trivial | (simp; done) | omega | (simp [D.cells, D.ok, D.one, D.pt, D.pt1]; done)) | (with_reducible intro x hx) | omega) <;> (try simp only [row1_len, c2, c7, c8, c9, d1, d2, d6, rx, ry, Nat.reduceBEq, reduceIte, binD, binInt, binStr, okD, unD, pickD, loadD, D.pt0, D.norm1, cond_true, cond_false, view, view2, view1, view0, ofRes, fw]))
      refine hk ⟨i + 1 + 1, by omega, all_step ha hx hs, pw_step (R := fun a b : Int => a < b) (fun _ _ _ => Int.lt_trans) hp hy hx hyx⟩ _ _ (by dsimp only; omega) ?_
      dsimp only
      refine Ent_gc [] (by rfl) (by simp) (by simp [keptW]) (by simp [lk_hit, lk_miss, D.pt0, viewS_own', pull, pull2, pull1, pull0, idx_nil, gate, List.mem_cons, or_false, view0])
    ·have c9 : (y ≥ x) = True := by simp; omega
     have e : rrowB most below l = false := by
      have : risB l = false := by simpa [risB] using pw_no hy hx hyx
      simp [rrowB, this]
     rw [e]
     cases below with
     | true =>
      repeat' ((first | apply Run_seq | apply Run_skip | apply Run_block | apply Run_blk | refine Run_exit rfl ?_ | apply Run_ret | apply Run_nil | apply Run_condK | apply Run_ops mixed | apply Run_opsX mixed | with_reducible refine PostV_open ?_ | simp (disch := omega) only [w64] | ((first | refine GuardK_split ?_ ?_ | refine CondK_split ?_ ?_) <;> intro hc <;> (try simp only [hc]) <;> try simp at hc) | (with_reducible refine And.intro ?_ ?_; focus (repeat' with_reducible refine And.intro ?_ ?_) <;> first | trivial | (simp; done) | omega | (simp [D.cells, D.ok, D.one, D.pt, D.pt1]; done)) | (with_reducible intro x hx) | omega) <;> (try simp only [row1_len, c2, c7, c8, c9, d1, d2, rx, ry, Nat.reduceBEq, reduceIte, binD, binInt, binStr, okD, unD, pickD, loadD, D.pt0, D.norm1, cond_true, cond_false, view, view2, view1, view0, ofRes, fw]))
     | false =>
      have d6 := d5 rfl
      repeat' ((first | apply Run_seq | apply Run_skip | apply Run_block | apply Run_blk | refine Run_exit rfl ?_ | apply Run_ret | apply Run_nil | apply Run_condK | apply Run_ops mixed | apply Run_opsX mixed | with_reducible refine PostV_open ?_ | simp (disch := omega) only [w64] | ((first | refine GuardK_split ?_ ?_ | refine CondK_split ?_ ?_) <;> intro hc <;> (try simp only [hc]) <;> try simp at hc) | (with_reducible refine And.intro ?_ ?_; focus (repeat' with_reducible refine And.intro ?_ ?_) <;> first | trivial | (simp; done) | omega | (simp [D.cells, D.ok, D.one, D.pt, D.pt1]; done)) | (with_reducible intro x hx) | omega) <;> (try simp only [row1_len, c2, c7, c8, c9, d1, d2, d6, rx, ry, Nat.reduceBEq, reduceIte, binD, binInt, binStr, okD, unD, pickD, loadD, D.pt0, D.norm1, cond_true, cond_false, view, view2, view1, view0, ofRes, fw]))
  ·have hs' : numB most below x = false := by simpa using hs
   have e : rrowB most below l = false := by simp only [rrowB, all_no hx hs', Bool.false_and]
   rw [e]
   by_cases n2 : x > most
   ·have d2 : (x > most) = True := by simpa using n2
    repeat' ((first | apply Run_seq | apply Run_skip | apply Run_block | apply Run_blk | refine Run_exit rfl ?_ | apply Run_ret | apply Run_nil | apply Run_condK | apply Run_ops mixed | apply Run_opsX mixed | with_reducible refine PostV_open ?_ | simp (disch := omega) only [w64, wu64, wu32, wu16, wu8, Int.tdiv_eq_ediv_of_nonneg, Int.tmod_eq_emod_of_nonneg] | ((first | refine GuardK_split ?_ ?_ | refine CondK_split ?_ ?_) <;> intro hc <;> (try simp only [hc]) <;> try simp at hc) | (with_reducible refine And.intro ?_ ?_; (focus ((repeat' (with_reducible refine And.intro ?_ ?_)) <;> first | exact trivial | assumption | (simp; done) | (simp only [List.length_map] at *; omega) | omega | (simp [D.cells, D.ok, D.one, D.pt, D.pt1]; done)))) | (with_reducible intro x hx) | omega) <;> (try simp only [row1_len, c2, d2, rx, Nat.reduceBEq, reduceIte, binD, binInt, binStr, pickD, loadD, D.pt0, D.norm1, cond_true, view, view2, view1, view0, ofRes, fw]))
   have d2 : (x > most) = False := by simpa using n2
   by_cases n3 : x < -most
   ·have d3 : (x < -most) = True := by simpa using n3
    repeat' ((first | apply Run_seq | apply Run_skip | apply Run_block | apply Run_blk | refine Run_exit rfl ?_ | apply Run_ret | apply Run_nil | apply Run_condK | apply Run_ops mixed | apply Run_opsX mixed | with_reducible refine PostV_open ?_ | simp (disch := omega) only [w64] | ((first | refine GuardK_split ?_ ?_ | refine CondK_split ?_ ?_) <;> intro hc <;> (try simp only [hc]) <;> try simp at hc) | (with_reducible refine And.intro ?_ ?_; (focus ((repeat' (with_reducible refine And.intro ?_ ?_)) <;> first | exact trivial | assumption | (simp; done) | (simp only [List.length_map] at *; omega) | omega | (simp [D.cells, D.ok, D.one, D.pt, D.pt1]; done)))) | (with_reducible intro x hx) | omega) <;> (try simp only [row1_len, c2, d2, rx, Nat.reduceBEq, reduceIte, binD, binInt, binStr, okD, unD, pickD, loadD, D.pt0, D.norm1, cond_true, cond_false, view, view2, view1, view0, ofRes, fw]))
   have d3 : (x < -most) = False := by simpa using n3
   by_cases n1 : x = 0
   ·have d1 : (x == 0) = true := by simpa using n1
    repeat' ((first | apply Run_seq | apply Run_skip | apply Run_block | apply Run_blk | refine Run_exit rfl ?_ | apply Run_ret | apply Run_nil | apply Run_condK | apply Run_ops mixed | apply Run_opsX mixed | with_reducible refine PostV_open ?_ | simp (disch := omega) only [w64] | ((first | refine GuardK_split ?_ ?_ | refine CondK_split ?_ ?_) <;> intro hc <;> (try simp only [hc]) <;> try simp at hc) | (with_reducible refine And.intro ?_ ?_; (focus ((repeat' (with_reducible refine And.intro ?_ ?_)) <;> first | exact trivial | assumption | (simp; done) | (simp only [List.length_map] at *; omega) | omega | (simp [D.cells, D.ok, D.one, D.pt, D.pt1]; done)))) | (with_reducible intro x hx) | omega) <;> (try simp only [row1_len, c2, d1, d2, rx, Nat.reduceBEq, reduceIte, binD, binInt, binStr, okD, unD, pickD, loadD, D.pt0, D.norm1, cond_true, cond_false, view, view2, view1, view0, ofRes, fw]))
   have d1 : (x == 0) = false := by simpa using n1
   have h5 : below = false ∧ x < 0 := by
    have : decide (x ≠ 0 ∧ x ≤ most ∧ -most ≤ x) = true := by simp; omega
    rw [numB, this, Bool.true_and] at hs'
    simpa using hs'
   have d4 : (x < 0) = True := by simpa using h5.2
   rw [h5.1]
   repeat' ((first | apply Run_seq | apply Run_skip | apply Run_block | apply Run_blk | refine Run_exit rfl ?_ | apply Run_ret | apply Run_nil | apply Run_condK | apply Run_ops mixed | apply Run_opsX mixed | with_reducible refine PostV_open ?_ | simp (disch := omega) only [w64] | ((first | refine GuardK_split ?_ ?_ | refine CondK_split ?_ ?_) <;> intro hc <;> (try simp only [hc]) <;> try simp at hc) | (with_reducible refine And.intro ?_ ?_; (focus ((repeat' (with_reducible refine And.intro ?_ ?_)) <;> first | exact trivial | assumption | (simp; done) | (simp only [List.length_map] at *; omega) | omega | (simp [D.cells, D.ok, D.one, D.pt, D.pt1]; done)))) | (with_reducible intro x hx) | omega) <;> (try simp only [row1_len, c2, d1, d2, d4, rx, Nat.reduceBEq, reduceIte, binD, binInt, binStr, okD, unD, pickD, loadD, D.pt0, D.norm1, cond_true, cond_false, view, view2, view1, view0, ofRes, fw]))
 ·have c2 : ((i : Int) < (l.length : Int)) = False := by simp; omega
  obtain rfl : i = l.length := by omega
  rw [List.take_length] at ha hp
  have hr : risB l = true := by simpa [risB] using hp
  have e : rrowB most below l = true := by unfold rrowB; rw [ha, hr]; rfl
  rw [e]
  repeat' ((first | apply Run_seq | apply Run_skip | apply Run_block | apply Run_blk | refine Run_exit rfl ?_ | apply Run_ret | apply Run_nil | apply Run_condK | apply Run_ops mixed | apply Run_opsX mixed | with_reducible refine PostV_open ?_ | simp (disch := omega) only [w64, wu64, wu32, wu16, wu8, Int.tdiv_eq_ediv_of_nonneg, Int.tmod_eq_emod_of_nonneg] | ((first | refine GuardK_split ?_ ?_ | refine CondK_split ?_ ?_) <;> intro hc <;> (try simp only [hc]) <;> try simp at hc) | (with_reducible refine And.intro ?_ ?_; (focus ((repeat' (with_reducible refine And.intro ?_ ?_)) <;> first | exact trivial | assumption | (simp; done) | (simp only [List.length_map] at *; omega) | omega | (simp [D.cells, D.ok, D.one, D.pt, D.pt1]; done)))) | (with_reducible intro x hx) | omega) <;> (try simp only [c2, Nat.reduceBEq, reduceIte, binD, binInt, D.pt0, D.norm1, view, view2, view1, view0, ofRes, fw]))
set_option maxHeartbeats 8000000 in
theorem rdays_p (r : Ru) (h1 : r.bm.length ≤ 140737488351232) (hl : r.bd.length ≤ 140737488351232) (hf : 1 ≤ r.freq ∧ r.freq ≤ 4) : PureD Try.prog 103 [.agg r.cells] (.bool (daysB r)) := by
 refine pureV Try.func103 low103 (by simp [c103]) ?_
 simp only [c103, Ru.cells]
 repeat' ((first | apply Run_seq | apply Run_skip | apply Run_block | apply Run_blk | refine Run_exit rfl ?_ | apply Run_ret | apply Run_nil | apply Run_condK | apply Run_ops mixed | apply Run_opsX mixed | with_reducible refine PostV_open ?_ | simp (disch := omega) only [w64, wu64, wu32, wu16, wu8, Int.tdiv_eq_ediv_of_nonneg, Int.tmod_eq_emod_of_nonneg] | ((first | refine GuardK_split ?_ ?_ | refine CondK_split ?_ ?_) <;> intro hc <;> (try simp only [hc]) <;> try simp at hc) | (with_reducible refine And.intro ?_ ?_; (focus ((repeat' (with_reducible refine And.intro ?_ ?_)) <;> first | exact trivial | assumption | (simp; done) | (simp only [List.length_map] at *; omega) | omega | (simp [D.cells, D.ok, D.one, D.pt, D.pt1]; done)))) | (with_reducible intro x hx) | omega) <;> (try simp only [row2_len, Nat.reduceBEq, argEnv, Nat.reduceAdd, reduceCtorEq, faddrD, lenD, loadD, D.cells, D.ok, D.one, D.pt1, ne_eq, fw]))
 refine Run_loop (ι := {i : Nat // i ≤ r.bd.length ∧ (r.bd.take i).all (dayB (nthB r)) = true ∧ (r.bd.take i).Pairwise ltD}) (fun i => ([(1, .ptr 0 0 0 1), (7, .int .i64 r.bd.length), (8, .int .i64 i.1)], [⟨true, false, true, false, 9, [r.cells], some 0⟩])) (fun i => r.bd.length - i.1) ⟨0, by simp⟩ ?_ ?_
 ·simp only [Ru.cells]
  refine Ent_gc [0] (by rfl) (by simp) (by simp [keptW, ObKW, ObW, imp_self, pullOb, or_false]) (by simp [lk_hit, lk_miss, D.pt0, viewS_own', pull, pull2, pull1, pull0, idx_hit, gate, List.mem_cons, or_false, view0])
 rintro ⟨i, hi, ha, hp⟩ hk
 dsimp only [Ru.cells] at hk ⊢
 by_cases hlt : i < r.bd.length
 ·have c2 : ((i : Int) < (r.bd.length : Int)) = True := by simp; omega
  obtain ⟨x, hx⟩ : ∃ x, r.bd[i]? = some x := ⟨_, List.getElem?_eq_getElem hlt⟩
  have rx := row2_get (k := .i64) (m := .i64) hx
  by_cases n1 : 0 ≤ x.2 ∧ x.2 ≤ 6 ∧ -5 ≤ x.1 ∧ x.1 ≤ 5
  ·have e1 : (x.2 < 0) = False := by simp; omega
   have e2 : (x.2 > 6) = False := by simp; omega
   have e3 : (x.1 < -5) = False := by simp; omega
   have e4 : (x.1 > 5) = False := by simp; omega
   by_cases hs : dayB (nthB r) x = true
   ·have hn : x.1 = 0 ∨ r.freq = 3 ∨ (r.freq = 4 ∧ 0 < r.bm.length) := by
     simp only [dayB, nthB, Bool.and_eq_true, Bool.or_eq_true, decide_eq_true_eq] at hs
     rcases hs.2 with h | h
     ·exact .inr h
     ·exact .inl h
    cases i with
    | zero =>
     repeat' ((first | apply Run_seq | apply Run_skip | apply Run_block | apply Run_blk | refine Run_exit rfl ?_ | apply Run_ret | apply Run_nil | apply Run_condK | apply Run_ops mixed | apply Run_opsX mixed | with_reducible refine PostV_open ?_ | simp (disch := omega) only [w64] | ((first | refine GuardK_split ?_ ?_ | refine CondK_split ?_ ?_) <;> intro hc <;> (try simp only [hc]) <;> try simp at hc) | (with_reducible refine And.intro ?_ ?_; (focus ((repeat' (with_reducible refine And.intro ?_ ?_)) <;> first | exact trivial | assumption | (simp; done) | (simp only [List.length_map] at *; omega) | omega | (simp [D.cells, D.ok, D.one, D.pt, D.pt1]; done)))) | (with_reducible intro x hx) | omega) <;> (try simp only [row1_len, row2_len, c2, e1, e2, e3, e4, rx, Nat.reduceBEq, reduceIte, Nat.reduceAdd, reduceCtorEq, binD, binInt, binStr, pickD, faddrD, lenD, loadD, splice, D.cells, D.ok, D.one, D.pt1, D.pt0, D.norm1, cond_true, cond_false, ne_eq, Int.reduceNeg, view, view2, view1, view0, ofRes, fw]))
     all_goals first
      | (exfalso; omega)
      | (exfalso; simp only [← List.length_eq_zero_iff] at *; omega)
      | (refine hk ⟨1, by omega, all_step ha hx hs, by rw [List.take_add_one, hx]; simp⟩ _ _ (by dsimp only; omega) ?_
         dsimp only [Ru.cells]
         refine Ent_gc [0] (by rfl) (by simp) (by simp [keptW, ObKW, ObW, imp_self, pullOb, or_false]) (by simp [lk_hit, lk_miss, D.pt0, viewS_own', pull, pull2, pull1, pull0, idx_hit, gate, List.mem_cons, or_false, view0]))
    | succ i =>
     obtain ⟨y, hy⟩ : ∃ y, r.bd[i]? = some y := ⟨_, List.getElem?_eq_getElem (by omega)⟩
     have ry := row2_get (k := .i64) (m := .i64) hy
     have c7 : (((i + 1 : Nat) : Int) > 0) = True := by rw [eq_iff_iff]; exact ⟨fun _ => trivial, fun _ => by omega⟩
     have c8 : (((i + 1 : Nat) : Int) - 1) = (i : Int) := by omega
     by_cases hyx : ltD y x
     ·have hst := pw_step ltD_trans hp hy hx hyx
      unfold ltD at hyx
      repeat' ((first | apply Run_seq | apply Run_skip | apply Run_block | apply Run_blk | refine Run_exit rfl ?_ | apply Run_ret | apply Run_nil | apply Run_condK | apply Run_ops mixed | apply Run_opsX mixed | with_reducible refine PostV_open ?_ | simp (disch := omega) only [w64] | ((first | refine GuardK_split ?_ ?_ | refine CondK_split ?_ ?_) <;> intro hc <;> (try simp only [hc]) <;> try simp at hc) | (with_reducible refine And.intro ?_ ?_; (focus ((repeat' (with_reducible refine And.intro ?_ ?_)) <;> first | exact trivial | assumption | (simp; done) | (simp only [List.length_map] at *; omega) | omega | (simp [D.cells, D.ok, D.one, D.pt, D.pt1]; done)))) | (with_reducible intro x hx) | omega) <;> (try simp only [row1_len, row2_len, c2, c7, c8, e1, e2, e3, e4, rx, ry, Nat.reduceBEq, reduceIte, Nat.reduceAdd, reduceCtorEq, binD, binInt, binStr, pickD, faddrD, lenD, loadD, splice, D.cells, D.ok, D.one, D.pt1, D.pt0, D.norm1, cond_true, cond_false, ne_eq, Int.reduceNeg, view, view2, view1, view0, ofRes, fw]))
      all_goals first
       | (exfalso; omega)
       | (exfalso; simp only [← List.length_eq_zero_iff] at *; omega)
       | (refine hk ⟨i + 1 + 1, by omega, all_step ha hx hs, hst⟩ _ _ (by dsimp only; omega) ?_
          dsimp only [Ru.cells]
          refine Ent_gc [0] (by rfl) (by simp) (by simp [keptW, ObKW, ObW, imp_self, pullOb, or_false]) (by simp [lk_hit, lk_miss, D.pt0, viewS_own', pull, pull2, pull1, pull0, idx_hit, gate, List.mem_cons, or_false, view0]))
     ·have e : daysB r = false := by
       have : risD r.bd = false := by simpa [risD] using pw_no hy hx hyx
       simp [daysB, this]
      rw [e]
      unfold ltD at hyx
      repeat' ((first | apply Run_seq | apply Run_skip | apply Run_block | apply Run_blk | refine Run_exit rfl ?_ | apply Run_ret | apply Run_nil | apply Run_condK | apply Run_ops mixed | apply Run_opsX mixed | with_reducible refine PostV_open ?_ | simp (disch := omega) only [w64] | ((first | refine GuardK_split ?_ ?_ | refine CondK_split ?_ ?_) <;> intro hc <;> (try simp only [hc]) <;> try simp at hc) | (with_reducible refine And.intro ?_ ?_; (focus ((repeat' (with_reducible refine And.intro ?_ ?_)) <;> first | exact trivial | assumption | (simp; done) | (simp only [List.length_map] at *; omega) | omega | (simp [D.cells, D.ok, D.one, D.pt, D.pt1]; done)))) | (with_reducible intro x hx) | omega) <;> (try simp only [row1_len, row2_len, c2, c7, c8, e1, e2, e3, e4, rx, ry, Nat.reduceBEq, reduceIte, Nat.reduceAdd, reduceCtorEq, binD, binInt, binStr, pickD, faddrD, lenD, loadD, splice, D.cells, D.ok, D.one, D.pt1, D.pt0, D.norm1, cond_true, cond_false, ne_eq, Int.reduceNeg, view, view2, view1, view0, ofRes, fw]))
      all_goals first
       | (exfalso; omega)
       | (exfalso; simp only [← List.length_eq_zero_iff] at *; omega)
       | rfl
   ·have hs' : dayB (nthB r) x = false := by simpa using hs
    have e : daysB r = false := by simp only [daysB, all_no hx hs', Bool.false_and]
    rw [e]
    have h5 : nthB r = false ∧ ¬ x.1 = 0 := by
     have : decide (0 ≤ x.2 ∧ x.2 ≤ 6 ∧ -5 ≤ x.1 ∧ x.1 ≤ 5) = true := by simpa using n1
     rw [dayB, this, Bool.true_and] at hs'
     simpa using hs'
    have e5 : (x.1 == 0) = false := by simpa using h5.2
    have h6 : ¬ r.freq = 3 ∧ ¬ (r.freq = 4 ∧ 0 < r.bm.length) := by
     have := h5.1
     simp only [nthB, decide_eq_false_iff_not, not_or] at this
     exact this
    by_cases h3 : r.freq < 3
    ·have k2 : (r.freq < 3) = True := by simpa using h3
     repeat' ((first | apply Run_seq | apply Run_skip | apply Run_block | apply Run_blk | refine Run_exit rfl ?_ | apply Run_ret | apply Run_nil | apply Run_condK | apply Run_ops mixed | apply Run_opsX mixed | with_reducible refine PostV_open ?_ | simp (disch := omega) only [w64] | ((first | refine GuardK_split ?_ ?_ | refine CondK_split ?_ ?_) <;> intro hc <;> (try simp only [hc]) <;> try simp at hc) | (with_reducible refine And.intro ?_ ?_; (focus ((repeat' (with_reducible refine And.intro ?_ ?_)) <;> first | exact trivial | assumption | (simp; done) | (simp only [List.length_map] at *; omega) | omega | (simp [D.cells, D.ok, D.one, D.pt, D.pt1]; done)))) | (with_reducible intro x hx) | omega) <;> (try simp only [row2_len, c2, e1, e2, e3, e4, k2, rx, Nat.reduceBEq, reduceIte, Nat.reduceAdd, reduceCtorEq, binD, binInt, binStr, pickD, faddrD, loadD, splice, D.cells, D.ok, D.one, D.pt1, D.pt0, D.norm1, cond_true, cond_false, ne_eq, Int.reduceNeg, view, view2, view1, view0, ofRes, fw]))
    ·have k2 : (r.freq < 3) = False := by simpa using h3
     have k3 : (r.freq == 4) = true := by simp; omega
     have k5 : ((r.bm.length : Int) == 0) = true := by
      have := h6.2
      have h4 : r.freq = 4 := by omega
      have : r.bm.length = 0 := by
       have := fun hh => h6.2 ⟨h4, hh⟩
       omega
      simp [List.length_eq_zero_iff.1 this]
     repeat' ((first | apply Run_seq | apply Run_skip | apply Run_block | apply Run_blk | refine Run_exit rfl ?_ | apply Run_ret | apply Run_nil | apply Run_condK | apply Run_ops mixed | apply Run_opsX mixed | with_reducible refine PostV_open ?_ | simp (disch := omega) only [w64] | ((first | refine GuardK_split ?_ ?_ | refine CondK_split ?_ ?_) <;> intro hc <;> (try simp only [hc]) <;> try simp at hc) | (with_reducible refine And.intro ?_ ?_; (focus ((repeat' (with_reducible refine And.intro ?_ ?_)) <;> first | exact trivial | assumption | (simp; done) | (simp only [List.length_map] at *; omega) | omega | (simp [D.cells, D.ok, D.one, D.pt, D.pt1]; done)))) | (with_reducible intro x hx) | omega) <;> (try simp only [row1_len, row2_len, c2, e1, e2, e3, e4, k2, k3, k5, rx, Nat.reduceBEq, reduceIte, Nat.reduceAdd, reduceCtorEq, binD, binInt, binStr, pickD, faddrD, lenD, loadD, splice, D.cells, D.ok, D.one, D.pt1, D.pt0, D.norm1, cond_true, cond_false, ne_eq, Int.reduceNeg, view, view2, view1, view0, ofRes, fw]))
  ·have hs' : dayB (nthB r) x = false := by
    simp only [dayB, decide_eq_false n1, Bool.false_and]
   have e : daysB r = false := by simp only [daysB, all_no hx hs', Bool.false_and]
   rw [e]
   by_cases m1 : x.2 < 0
   ·have e1 : (x.2 < 0) = True := by simpa using m1
    repeat' ((first | apply Run_seq | apply Run_skip | apply Run_block | apply Run_blk | refine Run_exit rfl ?_ | apply Run_ret | apply Run_nil | apply Run_condK | apply Run_ops mixed | apply Run_opsX mixed | with_reducible refine PostV_open ?_ | simp (disch := omega) only [w64, wu64, wu32, wu16, wu8, Int.tdiv_eq_ediv_of_nonneg, Int.tmod_eq_emod_of_nonneg] | ((first | refine GuardK_split ?_ ?_ | refine CondK_split ?_ ?_) <;> intro hc <;> (try simp only [hc]) <;> try simp at hc) | (with_reducible refine And.intro ?_ ?_; (focus ((repeat' (with_reducible refine And.intro ?_ ?_)) <;> first | exact trivial | assumption | (simp; done) | (simp only [List.length_map] at *; omega) | omega | (simp [D.cells, D.ok, D.one, D.pt, D.pt1]; done)))) | (with_reducible intro x hx) | omega) <;> (try simp only [row2_len, c2, e1, rx, Nat.reduceBEq, reduceIte, Nat.reduceAdd, reduceCtorEq, binD, binInt, pickD, faddrD, loadD, splice, D.cells, D.ok, D.one, D.pt1, D.pt0, D.norm1, cond_true, ne_eq, Int.reduceNeg, view, view2, view1, view0, ofRes, fw]))
   have e1 : (x.2 < 0) = False := by simpa using m1
   by_cases m2 : x.2 > 6
   ·have e2 : (x.2 > 6) = True := by simpa using m2
    repeat' ((first | apply Run_seq | apply Run_skip | apply Run_block | apply Run_blk | refine Run_exit rfl ?_ | apply Run_ret | apply Run_nil | apply Run_condK | apply Run_ops mixed | apply Run_opsX mixed | with_reducible refine PostV_open ?_ | simp (disch := omega) only [w64, wu64, wu32, wu16, wu8, Int.tdiv_eq_ediv_of_nonneg, Int.tmod_eq_emod_of_nonneg] | ((first | refine GuardK_split ?_ ?_ | refine CondK_split ?_ ?_) <;> intro hc <;> (try simp only [hc]) <;> try simp at hc) | (with_reducible refine And.intro ?_ ?_; (focus ((repeat' (with_reducible refine And.intro ?_ ?_)) <;> first | exact trivial | assumption | (simp; done) | (simp only [List.length_map] at *; omega) | omega | (simp [D.cells, D.ok, D.one, D.pt, D.pt1]; done)))) | (with_reducible intro x hx) | omega) <;> (try simp only [row2_len, c2, e1, e2, rx, Nat.reduceBEq, reduceIte, Nat.reduceAdd, reduceCtorEq, binD, binInt, pickD, faddrD, loadD, splice, D.cells, D.ok, D.one, D.pt1, D.pt0, D.norm1, cond_true, cond_false, ne_eq, Int.reduceNeg, view, view2, view1, view0, ofRes, fw]))
   have e2 : (x.2 > 6) = False := by simpa using m2
   by_cases m3 : x.1 < -5
   ·have e3 : (x.1 < -5) = True := by simpa using m3
    repeat' ((first | apply Run_seq | apply Run_skip | apply Run_block | apply Run_blk | refine Run_exit rfl ?_ | apply Run_ret | apply Run_nil | apply Run_condK | apply Run_ops mixed | apply Run_opsX mixed | with_reducible refine PostV_open ?_ | simp (disch := omega) only [w64, wu64, wu32, wu16, wu8, Int.tdiv_eq_ediv_of_nonneg, Int.tmod_eq_emod_of_nonneg] | ((first | refine GuardK_split ?_ ?_ | refine CondK_split ?_ ?_) <;> intro hc <;> (try simp only [hc]) <;> try simp at hc) | (with_reducible refine And.intro ?_ ?_; (focus ((repeat' (with_reducible refine And.intro ?_ ?_)) <;> first | exact trivial | assumption | (simp; done) | (simp only [List.length_map] at *; omega) | omega | (simp [D.cells, D.ok, D.one, D.pt, D.pt1]; done)))) | (with_reducible intro x hx) | omega) <;> (try simp only [row2_len, c2, e1, e2, e3, rx, Nat.reduceBEq, reduceIte, Nat.reduceAdd, reduceCtorEq, binD, binInt, pickD, faddrD, loadD, splice, D.cells, D.ok, D.one, D.pt1, D.pt0, D.norm1, cond_true, cond_false, ne_eq, Int.reduceNeg, view, view2, view1, view0, ofRes, fw]))
   have e3 : (x.1 < -5) = False := by simpa using m3
   have e4 : (x.1 > 5) = True := by simp; omega
   repeat' ((first | apply Run_seq | apply Run_skip | apply Run_block | apply Run_blk | refine Run_exit rfl ?_ | apply Run_ret | apply Run_nil | apply Run_condK | apply Run_ops mixed | apply Run_opsX mixed | with_reducible refine PostV_open ?_ | simp (disch := omega) only [w64, wu64, wu32, wu16, wu8, Int.tdiv_eq_ediv_of_nonneg, Int.tmod_eq_emod_of_nonneg] | ((first | refine GuardK_split ?_ ?_ | refine CondK_split ?_ ?_) <;> intro hc <;> (try simp only [hc]) <;> try simp at hc) | (with_reducible refine And.intro ?_ ?_; (focus ((repeat' (with_reducible refine And.intro ?_ ?_)) <;> first | exact trivial | assumption | (simp; done) | (simp only [List.length_map] at *; omega) | omega | (simp [D.cells, D.ok, D.one, D.pt, D.pt1]; done)))) | (with_reducible intro x hx) | omega) <;> (try simp only [row2_len, c2, e1, e2, e3, e4, rx, Nat.reduceBEq, reduceIte, Nat.reduceAdd, reduceCtorEq, binD, binInt, pickD, faddrD, loadD, splice, D.cells, D.ok, D.one, D.pt1, D.pt0, D.norm1, cond_false, ne_eq, Int.reduceNeg, view, view2, view1, view0, ofRes, fw]))
 ·have c2 : ((i : Int) < (r.bd.length : Int)) = False := by simp; omega
  obtain rfl : i = r.bd.length := by omega
  rw [List.take_length] at ha hp
  have e : daysB r = true := by
   unfold daysB risD; rw [ha, decide_eq_true hp]; rfl
  rw [e]
  repeat' ((first | apply Run_seq | apply Run_skip | apply Run_block | apply Run_blk | refine Run_exit rfl ?_ | apply Run_ret | apply Run_nil | apply Run_condK | apply Run_ops mixed | apply Run_opsX mixed | with_reducible refine PostV_open ?_ | simp (disch := omega) only [w64, wu64, wu32, wu16, wu8, Int.tdiv_eq_ediv_of_nonneg, Int.tmod_eq_emod_of_nonneg] | ((first | refine GuardK_split ?_ ?_ | refine CondK_split ?_ ?_) <;> intro hc <;> (try simp only [hc]) <;> try simp at hc) | (with_reducible refine And.intro ?_ ?_; (focus ((repeat' (with_reducible refine And.intro ?_ ?_)) <;> first | exact trivial | assumption | (simp; done) | (simp only [List.length_map] at *; omega) | omega | (simp [D.cells, D.ok, D.one, D.pt, D.pt1]; done)))) | (with_reducible intro x hx) | omega) <;> (try simp only [c2, Nat.reduceBEq, reduceIte, binD, binInt, D.pt0, D.norm1, view, view2, view1, view0, ofRes, fw]))
set_option maxHeartbeats 8000000 in
theorem rruleMay_p (r : Ru) (hf : r.fits) : PureD Try.prog 86 [.agg r.cells] (.bool (mayR r)) := by
 obtain ⟨f1, f2, f3, f4⟩ := hf
 refine pureV Try.func86 low86 (by simp [c86]) ?_
 by_cases hr : 1 ≤ r.freq ∧ r.freq ≤ 4
 ·have h2 := rruleRow_p r.bm 12 false (by omega) (by omega) f1
  have h3 := rruleRow_p r.bmd 31 true (by omega) (by omega) f2
  have h4 := rdays_p r f1 f3 hr
  have h5 := rruleRow_p r.bsp 366 true (by omega) (by omega) f4
  unfold mayR endsB
  generalize rrowB 12 false r.bm = x2 at h2 ⊢
  generalize rrowB 31 true r.bmd = x3 at h3 ⊢
  generalize daysB r = x4 at h4 ⊢
  generalize rrowB 366 true r.bsp = x5 at h5 ⊢
  simp only [c86, Ru.cells] at h4 ⊢
  obtain ⟨hr1, hr2⟩ := hr
  have g1 : (r.freq < 1) = False := by simp; omega
  have g2 : (r.freq > 4) = False := by simp; omega
  by_cases hi : r.interval < 1
  ·have g3 : (r.interval < 1) = True := by simpa using hi
   have e : decide (1 ≤ r.freq ∧ r.freq ≤ 4 ∧ 1 ≤ r.interval ∧ r.interval ≤ 999) = false := by simp; omega
   rw [e, Bool.false_and]
   repeat' ((first | apply Run_seq | apply Run_skip | apply Run_ret | apply Run_nil | apply Run_condK | apply Run_ops mixed | with_reducible refine PostV_open ?_ | with_reducible refine ro_callV ?_ | ((first | refine GuardK_split ?_ ?_ | refine CondK_split ?_ ?_) <;> intro hc <;> (try simp only [hc]) <;> try simp at hc) | (with_reducible refine And.intro ?_ ?_; (focus ((repeat' (with_reducible refine And.intro ?_ ?_)) <;> first | exact trivial | assumption | (simp; done) | (simp only [List.length_map] at *; omega) | omega | (simp [D.cells, D.ok, D.one, D.pt, D.pt1]; done)))) | (with_reducible intro x hx) | omega) <;> (try simp only [g1, g2, g3, Nat.reduceBEq, argEnv, reduceIte, Nat.reduceAdd, reduceCtorEq, binD, binInt, pickD, faddrD, loadD, D.cells, D.ok, D.one, D.pt1, D.pt0, D.norm1, cond_true, cond_false, ne_eq, view, view2, view1, view0, ofRes, fw]))
  have g3 : (r.interval < 1) = False := by simpa using hi
  by_cases hi2 : r.interval > 999
  ·have g4 : (r.interval > 999) = True := by simpa using hi2
   have e : decide (1 ≤ r.freq ∧ r.freq ≤ 4 ∧ 1 ≤ r.interval ∧ r.interval ≤ 999) = false := by simp; omega
   rw [e, Bool.false_and]
   repeat' ((first | apply Run_seq | apply Run_skip | apply Run_ret | apply Run_nil | apply Run_condK | apply Run_ops mixed | with_reducible refine PostV_open ?_ | with_reducible refine ro_callV ?_ | ((first | refine GuardK_split ?_ ?_ | refine CondK_split ?_ ?_) <;> intro hc <;> (try simp only [hc]) <;> try simp at hc) | (with_reducible refine And.intro ?_ ?_; (focus ((repeat' (with_reducible refine And.intro ?_ ?_)) <;> first | exact trivial | assumption | (simp; done) | (simp only [List.length_map] at *; omega) | omega | (simp [D.cells, D.ok, D.one, D.pt, D.pt1]; done)))) | (with_reducible intro x hx) | omega) <;> (try simp only [g1, g2, g3, g4, Nat.reduceBEq, argEnv, reduceIte, Nat.reduceAdd, reduceCtorEq, binD, binInt, pickD, faddrD, loadD, D.cells, D.ok, D.one, D.pt1, D.pt0, D.norm1, cond_true, cond_false, ne_eq, view, view2, view1, view0, ofRes, fw]))
  have g4 : (r.interval > 999) = False := by simpa using hi2
  have e0 : decide (1 ≤ r.freq ∧ r.freq ≤ 4 ∧ 1 ≤ r.interval ∧ r.interval ≤ 999) = true := by simp; omega
  rw [e0, Bool.true_and]
  repeat' ((first | apply Run_seq | apply Run_skip | apply Run_ret | apply Run_nil | apply Run_condK | apply Run_ops mixed | with_reducible refine PostV_open ?_ | with_reducible refine ro_callV ?_ | refine CallV_pure (h2) ?_ ?_ | refine CallV_pure (h3) ?_ ?_ | refine CallV_pure (h4) ?_ ?_ | refine CallV_pure (h5) ?_ ?_ | ((first | refine GuardK_split ?_ ?_ | refine CondK_split ?_ ?_) <;> intro hc <;> (try simp only [hc]) <;> try simp at hc) | (with_reducible refine And.intro ?_ ?_; (focus ((repeat' (with_reducible refine And.intro ?_ ?_)) <;> first | exact trivial | assumption | (simp; done) | (simp only [List.length_map] at *; omega) | omega | (simp [D.cells, D.ok, D.one, D.pt, D.pt1]; done)))) | (with_reducible intro x hx) | omega) <;> (try simp only [row1_len, row2_len, g1, g2, g3, g4, Nat.reduceBEq, argEnv, reduceIte, Nat.reduceAdd, reduceCtorEq, binD, binInt, okD, unD, pickD, faddrD, lenD, loadD, D.cells, D.ok, D.one, D.pt, D.pt1, D.pt0, D.norm1, cond_true, cond_false, ne_eq, Int.reduceNeg, view, view2, view1, view0, mapO, D.sc, D.sc1, D.sc2, ofRes, fw]))
  all_goals (rw [Bool.eq_iff_iff]; simp [*]; first | done | omega | (simp_all; done) | (simp_all; omega) | (intros; exfalso; simp_all; done) | (intros; left; simp_all; omega))
 ·have e : mayR r = false := by
   have : decide (1 ≤ r.freq ∧ r.freq ≤ 4 ∧ 1 ≤ r.interval ∧ r.interval ≤ 999) = false := by simp; omega
   unfold mayR
   rw [this, Bool.false_and]
  rw [e]
  simp only [c86, Ru.cells]
  by_cases h1 : r.freq < 1
  ·have g1 : (r.freq < 1) = True := by simpa using h1
   repeat' ((first | apply Run_seq | apply Run_skip | apply Run_ret | apply Run_nil | apply Run_condK | apply Run_ops mixed | with_reducible refine PostV_open ?_ | with_reducible refine ro_callV ?_ | ((first | refine GuardK_split ?_ ?_ | refine CondK_split ?_ ?_) <;> intro hc <;> (try simp only [hc]) <;> try simp at hc) | (with_reducible refine And.intro ?_ ?_; (focus ((repeat' (with_reducible refine And.intro ?_ ?_)) <;> first | exact trivial | assumption | (simp; done) | (simp only [List.length_map] at *; omega) | omega | (simp [D.cells, D.ok, D.one, D.pt, D.pt1]; done)))) | (with_reducible intro x hx) | omega) <;> (try simp only [g1, Nat.reduceBEq, argEnv, reduceIte, Nat.reduceAdd, reduceCtorEq, binD, binInt, pickD, faddrD, loadD, D.cells, D.ok, D.one, D.pt1, D.pt0, D.norm1, cond_true, ne_eq, view, view2, view1, view0, ofRes, fw]))
  ·have g1 : (r.freq < 1) = False := by simpa using h1
   have g2 : (r.freq > 4) = True := by simp; omega
   repeat' ((first | apply Run_seq | apply Run_skip | apply Run_ret | apply Run_nil | apply Run_condK | apply Run_ops mixed | with_reducible refine PostV_open ?_ | with_reducible refine ro_callV ?_ | ((first | refine GuardK_split ?_ ?_ | refine CondK_split ?_ ?_) <;> intro hc <;> (try simp only [hc]) <;> try simp at hc) | (with_reducible refine And.intro ?_ ?_; (focus ((repeat' (with_reducible refine And.intro ?_ ?_)) <;> first | exact trivial | assumption | (simp; done) | (simp only [List.length_map] at *; omega) | omega | (simp [D.cells, D.ok, D.one, D.pt, D.pt1]; done)))) | (with_reducible intro x hx) | omega) <;> (try simp only [g1, g2, Nat.reduceBEq, argEnv, reduceIte, Nat.reduceAdd, reduceCtorEq, binD, binInt, pickD, faddrD, loadD, D.cells, D.ok, D.one, D.pt1, D.pt0, D.norm1, cond_true, cond_false, ne_eq, view, view2, view1, view0, ofRes, fw]))
end Go.Proofs.Ytoleaiaeghbffaa

namespace Go.Proofs.Ytoleaiaeghbffaa
open Go Go.Vi


set_option maxHeartbeats 4000000 in
theorem refMay_p (e : Ev) (hf : e.fits) : PureD Try.prog 61 [.agg e.cells] (.bool (mayE e)) := by
 obtain ⟨f0, f1, f2, f3⟩ := hf
 refine pureV Try.func61 low61 (by simp [c61]) ?_
 have h1 := rstamp_p e.start
 have h2 := rruleMay_p e.rule f0
 have h3 := refRow_p e.ex f1
 have h4 := refRow_p e.plus f2
 have h6 := sameRu_p e.rule zRu f0 (by simp [Ru.fits, zRu])
 by_cases hs : stampB e.start = true
 case neg =>
  have hs' : stampB e.start = false := by simpa using hs
  have e0 : mayE e = false := by simp [mayE, hs']
  rw [e0]
  rw [hs'] at h1
  simp only [c61, Ev.cells]
  repeat' ((first | apply Run_seq | apply Run_skip | apply Run_block | apply Run_blk | refine Run_exit rfl ?_ | apply Run_ret | apply Run_nil | apply Run_condK | apply Run_ops mixed | apply Run_opsX mixed | with_reducible refine PostV_open ?_ | with_reducible refine ro_callV ?_ | with_reducible refine ro_callVX ?_ | refine CallV_pure (h1) ?_ ?_ | simp (disch := omega) only [w64, wu64, wu32, wu16, wu8, Int.tdiv_eq_ediv_of_nonneg, Int.tmod_eq_emod_of_nonneg] | ((first | refine GuardK_split ?_ ?_ | refine CondK_split ?_ ?_) <;> intro hc <;> (try simp only [hc]) <;> try simp at hc) | (with_reducible refine And.intro ?_ ?_; (focus ((repeat' (with_reducible refine And.intro ?_ ?_)) <;> first | exact trivial | assumption | (simp; done) | (simp only [List.length_map] at *; omega) | omega | (simp [D.cells, D.ok, D.one, D.pt, D.pt1]; done)))) | (with_reducible intro x hx) | omega) <;> (try simp only [Nat.reduceBEq, argEnv, reduceIte, Nat.reduceAdd, reduceCtorEq, okD, unD, pickD, faddrD, loadD, D.cells, D.ok, D.one, D.pt, D.pt1, D.pt0, D.norm1, cond_true, ne_eq, view, view2, view1, view0, mapO, D.sc, D.sc1, D.sc2, ofRes, fw]))
 rw [hs] at h1
 by_cases hl1 : e.long < 1
 ·have c1 : (e.long < 1) = True := by simpa using hl1
  have e0 : mayE e = false := by
   have : decide (1 ≤ e.long ∧ e.long ≤ 10080) = false := by simp; omega
   simp only [mayE, this, Bool.false_and, Bool.and_false]
  rw [e0]
  simp only [c61, Ev.cells]
  repeat' ((first | apply Run_seq | apply Run_skip | apply Run_block | apply Run_blk | refine Run_exit rfl ?_ | apply Run_ret | apply Run_nil | apply Run_condK | apply Run_ops mixed | apply Run_opsX mixed | with_reducible refine PostV_open ?_ | with_reducible refine ro_callV ?_ | with_reducible refine ro_callVX ?_ | refine CallV_pure (h1) ?_ ?_ | simp (disch := omega) only [w64, wu64, wu32, wu16, wu8, Int.tdiv_eq_ediv_of_nonneg, Int.tmod_eq_emod_of_nonneg] | ((first | refine GuardK_split ?_ ?_ | refine CondK_split ?_ ?_) <;> intro hc <;> (try simp only [hc]) <;> try simp at hc) | (with_reducible refine And.intro ?_ ?_; (focus ((repeat' (with_reducible refine And.intro ?_ ?_)) <;> first | exact trivial | assumption | (simp; done) | (simp only [List.length_map] at *; omega) | omega | (simp [D.cells, D.ok, D.one, D.pt, D.pt1]; done)))) | (with_reducible intro x hx) | omega) <;> (try simp only [c1, Nat.reduceBEq, argEnv, reduceIte, Nat.reduceAdd, reduceCtorEq, binD, binInt, okD, unD, pickD, faddrD, loadD, D.cells, D.ok, D.one, D.pt, D.pt1, D.pt0, D.norm1, cond_true, cond_false, ne_eq, view, view2, view1, view0, mapO, D.sc, D.sc1, D.sc2, ofRes, fw]))
 have c1 : (e.long < 1) = False := by simpa using hl1
 by_cases hl2 : e.long > 10080
 ·have c2 : (e.long > 10080) = True := by simpa using hl2
  have e0 : mayE e = false := by
   have : decide (1 ≤ e.long ∧ e.long ≤ 10080) = false := by simp; omega
   simp only [mayE, this, Bool.false_and, Bool.and_false]
  rw [e0]
  simp only [c61, Ev.cells]
  repeat' ((first | apply Run_seq | apply Run_skip | apply Run_block | apply Run_blk | refine Run_exit rfl ?_ | apply Run_ret | apply Run_nil | apply Run_condK | apply Run_ops mixed | apply Run_opsX mixed | with_reducible refine PostV_open ?_ | with_reducible refine ro_callV ?_ | with_reducible refine ro_callVX ?_ | refine CallV_pure (h1) ?_ ?_ | simp (disch := omega) only [w64, wu64, wu32, wu16, wu8, Int.tdiv_eq_ediv_of_nonneg, Int.tmod_eq_emod_of_nonneg] | ((first | refine GuardK_split ?_ ?_ | refine CondK_split ?_ ?_) <;> intro hc <;> (try simp only [hc]) <;> try simp at hc) | (with_reducible refine And.intro ?_ ?_; (focus ((repeat' (with_reducible refine And.intro ?_ ?_)) <;> first | exact trivial | assumption | (simp; done) | (simp only [List.length_map] at *; omega) | omega | (simp [D.cells, D.ok, D.one, D.pt, D.pt1]; done)))) | (with_reducible intro x hx) | omega) <;> (try simp only [c1, c2, Nat.reduceBEq, argEnv, reduceIte, Nat.reduceAdd, reduceCtorEq, binD, binInt, okD, unD, pickD, faddrD, loadD, D.cells, D.ok, D.one, D.pt, D.pt1, D.pt0, D.norm1, cond_false, ne_eq, view, view2, view1, view0, mapO, D.sc, D.sc1, D.sc2, ofRes, fw]))
 have c2 : (e.long > 10080) = False := by simpa using hl2
 have hd : decide (1 ≤ e.long ∧ e.long ≤ 10080) = true := by simp; omega
 by_cases ha : e.again = true
 case neg =>
  have ha' : e.again = false := by simpa using ha
  have e0 : mayE e = (decide (e.rule = zRu) && decide (e.ex.length + e.plus.length + e.ch.length = 0)) := by simp [mayE, hs, hd, ha']
  rw [e0]
  generalize decide (e.rule = zRu) = x6 at h6 ⊢
  simp only [c61, Ev.cells, Ru.cells, zRu, row1, row2, List.map_nil] at h6 ⊢
  rw [ha']
  repeat' ((first | apply Run_seq | apply Run_skip | apply Run_block | apply Run_blk | refine Run_exit rfl ?_ | apply Run_ret | apply Run_nil | apply Run_condK | apply Run_ops mixed | apply Run_opsX mixed | with_reducible refine PostV_open ?_ | with_reducible refine ro_callV ?_ | with_reducible refine ro_callVX ?_ | refine CallV_pure (h1) ?_ ?_ | refine CallV_pure (h6) ?_ ?_ | simp (disch := omega) only [w64, wu64, wu32, wu16, wu8, Int.tdiv_eq_ediv_of_nonneg, Int.tmod_eq_emod_of_nonneg] | ((first | refine GuardK_split ?_ ?_ | refine CondK_split ?_ ?_) <;> intro hc <;> (try simp only [hc]) <;> try simp at hc) | (with_reducible refine And.intro ?_ ?_; (focus ((repeat' (with_reducible refine And.intro ?_ ?_)) <;> first | exact trivial | assumption | (simp; done) | (simp only [List.length_map] at *; omega) | omega | (simp [D.cells, D.ok, D.one, D.pt, D.pt1]; done)))) | (with_reducible intro x hx) | omega) <;> (try simp only [row3_len, c1, c2, Nat.reduceBEq, argEnv, reduceIte, Nat.reduceAdd, Nat.reduceLeDiff, reduceCtorEq, binD, binInt, okD, aggD, unD, pickD, faddrD, lenD, loadD, fillD, D.cells, D.ok, D.one, D.pt, D.pt1, D.pt0, D.norm1, cond_true, cond_false, ne_eq, view, view2, view1, view0, mapO, D.sc, D.sc1, D.sc2, ofRes, fw]))
  all_goals (rw [Bool.eq_iff_iff]; simp [*]; try (simp only [← List.length_eq_zero_iff]; omega))
 have e0 : mayE e = (!e.world && (mayR e.rule && (rowB e.ex && (rowB e.plus && chB e.ch)))) := by simp [mayE, hs, hd, ha]
 rw [e0]
 by_cases hw : e.world = true
 ·simp only [c61, Ev.cells]
  rw [hw, ha]
  repeat' ((first | apply Run_seq | apply Run_skip | apply Run_block | apply Run_blk | refine Run_exit rfl ?_ | apply Run_ret | apply Run_nil | apply Run_condK | apply Run_ops mixed | apply Run_opsX mixed | with_reducible refine PostV_open ?_ | with_reducible refine ro_callV ?_ | with_reducible refine ro_callVX ?_ | refine CallV_pure (h1) ?_ ?_ | simp (disch := omega) only [w64, wu64, wu32, wu16, wu8, Int.tdiv_eq_ediv_of_nonneg, Int.tmod_eq_emod_of_nonneg] | ((first | refine GuardK_split ?_ ?_ | refine CondK_split ?_ ?_) <;> intro hc <;> (try simp only [hc]) <;> try simp at hc) | (with_reducible refine And.intro ?_ ?_; (focus ((repeat' (with_reducible refine And.intro ?_ ?_)) <;> first | exact trivial | assumption | (simp; done) | (simp only [List.length_map] at *; omega) | omega | (simp [D.cells, D.ok, D.one, D.pt, D.pt1]; done)))) | (with_reducible intro x hx) | omega) <;> (try simp only [c1, c2, Nat.reduceBEq, argEnv, reduceIte, Nat.reduceAdd, reduceCtorEq, binD, binInt, okD, unD, pickD, faddrD, loadD, D.cells, D.ok, D.one, D.pt, D.pt1, D.pt0, D.norm1, cond_true, cond_false, ne_eq, view, view2, view1, view0, mapO, D.sc, D.sc1, D.sc2, ofRes, fw]))
 have hw' : e.world = false := by simpa using hw
 by_cases hr : mayR e.rule = true
 case neg =>
  have hr' : mayR e.rule = false := by simpa using hr
  rw [hr'] at h2 ⊢
  simp only [c61, Ev.cells, Ru.cells, Bool.false_and, Bool.and_false] at h2 ⊢
  rw [hw', ha]
  repeat' ((first | apply Run_seq | apply Run_skip | apply Run_block | apply Run_blk | refine Run_exit rfl ?_ | apply Run_ret | apply Run_nil | apply Run_condK | apply Run_ops mixed | apply Run_opsX mixed | with_reducible refine PostV_open ?_ | with_reducible refine ro_callV ?_ | with_reducible refine ro_callVX ?_ | refine CallV_pure (h1) ?_ ?_ | refine CallV_pure (h2) ?_ ?_ | simp (disch := omega) only [w64, wu64, wu32, wu16, wu8, Int.tdiv_eq_ediv_of_nonneg, Int.tmod_eq_emod_of_nonneg] | ((first | refine GuardK_split ?_ ?_ | refine CondK_split ?_ ?_) <;> intro hc <;> (try simp only [hc]) <;> try simp at hc) | (with_reducible refine And.intro ?_ ?_; (focus ((repeat' (with_reducible refine And.intro ?_ ?_)) <;> first | exact trivial | assumption | (simp; done) | (simp only [List.length_map] at *; omega) | omega | (simp [D.cells, D.ok, D.one, D.pt, D.pt1]; done)))) | (with_reducible intro x hx) | omega) <;> (try simp only [c1, c2, Nat.reduceBEq, argEnv, reduceIte, Nat.reduceAdd, Nat.reduceLeDiff, reduceCtorEq, binD, binInt, okD, unD, pickD, faddrD, loadD, D.cells, D.ok, D.one, D.pt, D.pt1, D.pt0, D.norm1, cond_true, cond_false, ne_eq, view, view2, view1, view0, mapO, D.sc, D.sc1, D.sc2, ofRes, fw]))
 rw [hr] at h2 ⊢
 by_cases hx : rowB e.ex = true
 case neg =>
  have hx' : rowB e.ex = false := by simpa using hx
  rw [hx'] at h3 ⊢
  simp only [c61, Ev.cells, Ru.cells, Bool.false_and, Bool.and_false] at h2 ⊢
  rw [hw', ha]
  repeat' ((first | apply Run_seq | apply Run_skip | apply Run_block | apply Run_blk | refine Run_exit rfl ?_ | apply Run_ret | apply Run_nil | apply Run_condK | apply Run_ops mixed | apply Run_opsX mixed | with_reducible refine PostV_open ?_ | with_reducible refine ro_callV ?_ | with_reducible refine ro_callVX ?_ | refine CallV_pure (h1) ?_ ?_ | refine CallV_pure (h2) ?_ ?_ | refine CallV_pure (h3) ?_ ?_ | simp (disch := omega) only [w64, wu64, wu32, wu16, wu8, Int.tdiv_eq_ediv_of_nonneg, Int.tmod_eq_emod_of_nonneg] | ((first | refine GuardK_split ?_ ?_ | refine CondK_split ?_ ?_) <;> intro hc <;> (try simp only [hc]) <;> try simp at hc) | (with_reducible refine And.intro ?_ ?_; (focus ((repeat' (with_reducible refine And.intro ?_ ?_)) <;> first | exact trivial | assumption | (simp; done) | (simp only [List.length_map] at *; omega) | omega | (simp [D.cells, D.ok, D.one, D.pt, D.pt1]; done)))) | (with_reducible intro x hx) | omega) <;> (try simp only [c1, c2, Nat.reduceBEq, argEnv, reduceIte, Nat.reduceAdd, Nat.reduceLeDiff, reduceCtorEq, binD, binInt, okD, unD, pickD, faddrD, loadD, D.cells, D.ok, D.one, D.pt, D.pt1, D.pt0, D.norm1, cond_true, cond_false, ne_eq, view, view2, view1, view0, mapO, D.sc, D.sc1, D.sc2, ofRes, fw]))
 rw [hx] at h3 ⊢
 by_cases hp : rowB e.plus = true
 case neg =>
  have hp' : rowB e.plus = false := by simpa using hp
  rw [hp'] at h4 ⊢
  simp only [c61, Ev.cells, Ru.cells, Bool.false_and, Bool.and_false] at h2 ⊢
  rw [hw', ha]
  repeat' ((first | apply Run_seq | apply Run_skip | apply Run_block | apply Run_blk | refine Run_exit rfl ?_ | apply Run_ret | apply Run_nil | apply Run_condK | apply Run_ops mixed | apply Run_opsX mixed | with_reducible refine PostV_open ?_ | with_reducible refine ro_callV ?_ | with_reducible refine ro_callVX ?_ | refine CallV_pure (h1) ?_ ?_ | refine CallV_pure (h2) ?_ ?_ | refine CallV_pure (h3) ?_ ?_ | refine CallV_pure (h4) ?_ ?_ | simp (disch := omega) only [w64, wu64, wu32, wu16, wu8, Int.tdiv_eq_ediv_of_nonneg, Int.tmod_eq_emod_of_nonneg] | ((first | refine GuardK_split ?_ ?_ | refine CondK_split ?_ ?_) <;> intro hc <;> (try simp only [hc]) <;> try simp at hc) | (with_reducible refine And.intro ?_ ?_; (focus ((repeat' (with_reducible refine And.intro ?_ ?_)) <;> first | exact trivial | assumption | (simp; done) | (simp only [List.length_map] at *; omega) | omega | (simp [D.cells, D.ok, D.one, D.pt, D.pt1]; done)))) | (with_reducible intro x hx) | omega) <;> (try simp only [c1, c2, Nat.reduceBEq, argEnv, reduceIte, Nat.reduceAdd, Nat.reduceLeDiff, reduceCtorEq, binD, binInt, okD, unD, pickD, faddrD, loadD, D.cells, D.ok, D.one, D.pt, D.pt1, D.pt0, D.norm1, cond_true, cond_false, ne_eq, view, view2, view1, view0, mapO, D.sc, D.sc1, D.sc2, ofRes, fw]))
 rw [hp] at h4 ⊢
 rw [hw']
 simp only [Bool.not_false, Bool.true_and]
 by_cases hc : 50 < e.ch.length
 ·have c3 : ((e.ch.length : Int) > 50) = True := by simp; omega
  have e1 : chB e.ch = false := by
   have : ¬ (e.ch.map fun c => c.1).length ≤ 50 := by simp; omega
   simp only [chB, rowB, decide_eq_false this, Bool.and_false]
  rw [e1]
  simp only [c61, Ev.cells, Ru.cells] at h2 ⊢
  rw [hw', ha]
  repeat' ((first | apply Run_seq | apply Run_skip | apply Run_block | apply Run_blk | refine Run_exit rfl ?_ | apply Run_ret | apply Run_nil | apply Run_condK | apply Run_ops mixed | apply Run_opsX mixed | with_reducible refine PostV_open ?_ | with_reducible refine ro_callV ?_ | with_reducible refine ro_callVX ?_ | refine CallV_pure (h1) ?_ ?_ | refine CallV_pure (h2) ?_ ?_ | refine CallV_pure (h3) ?_ ?_ | refine CallV_pure (h4) ?_ ?_ | simp (disch := omega) only [w64, wu64, wu32, wu16, wu8, Int.tdiv_eq_ediv_of_nonneg, Int.tmod_eq_emod_of_nonneg] | ((first | refine GuardK_split ?_ ?_ | refine CondK_split ?_ ?_) <;> intro hc <;> (try simp only [hc]) <;> try simp at hc) | (with_reducible refine And.intro ?_ ?_; (focus ((repeat' (with_reducible refine And.intro ?_ ?_)) <;> first | exact trivial | assumption | (simp; done) | (simp only [List.length_map] at *; omega) | omega | (simp [D.cells, D.ok, D.one, D.pt, D.pt1]; done)))) | (with_reducible intro x hx) | omega) <;> (try simp only [row3_len, c1, c2, c3, Nat.reduceBEq, argEnv, reduceIte, Nat.reduceAdd, Nat.reduceLeDiff, reduceCtorEq, binD, binInt, okD, unD, pickD, faddrD, lenD, loadD, D.cells, D.ok, D.one, D.pt, D.pt1, D.pt0, D.norm1, cond_false, ne_eq, view, view2, view1, view0, mapO, D.sc, D.sc1, D.sc2, ofRes, fw]))
 have c3 : ((e.ch.length : Int) > 50) = False := by simp; omega
 have hcl : decide ((e.ch.map fun c => c.1).length ≤ 50) = true := by simp; omega
 have e1 : chB e.ch = (e.ch.all chB1 && ((e.ch.map fun c => c.1).all stampB && risB (e.ch.map fun c => c.1))) := by simp only [chB, rowB, hcl, Bool.and_true]
 rw [e1]
 obtain ⟨l, hl⟩ : ∃ l, l = e.ch := ⟨_, rfl⟩
 simp only [c61, Ev.cells, Ru.cells] at h2 ⊢
 rw [hw', ha]
 repeat' ((first | apply Run_seq | apply Run_skip | apply Run_block | apply Run_blk | refine Run_exit rfl ?_ | apply Run_ret | apply Run_nil | apply Run_condK | apply Run_ops mixed | apply Run_opsX mixed | with_reducible refine PostV_open ?_ | with_reducible refine ro_callV ?_ | with_reducible refine ro_callVX ?_ | refine CallV_pure (h1) ?_ ?_ | refine CallV_pure (h2) ?_ ?_ | refine CallV_pure (h3) ?_ ?_ | refine CallV_pure (h4) ?_ ?_ | simp (disch := omega) only [w64, wu64, wu32, wu16, wu8, Int.tdiv_eq_ediv_of_nonneg, Int.tmod_eq_emod_of_nonneg] | ((first | refine GuardK_split ?_ ?_ | refine CondK_split ?_ ?_) <;> intro hc <;> (try simp only [hc]) <;> try simp at hc) | (with_reducible refine And.intro ?_ ?_; (focus ((repeat' (with_reducible refine And.intro ?_ ?_)) <;> first | exact trivial | assumption | (simp; done) | (simp only [List.length_map] at *; omega) | omega | (simp [D.cells, D.ok, D.one, D.pt, D.pt1]; done)))) | (with_reducible intro x hx) | omega) <;> (try simp only [row3_len, c1, c2, c3, Nat.reduceBEq, argEnv, reduceIte, Nat.reduceAdd, Nat.reduceLeDiff, reduceCtorEq, binD, binInt, okD, unD, pickD, faddrD, lenD, loadD, D.cells, D.ok, D.one, D.pt, D.pt1, D.pt0, D.norm1, cond_false, ne_eq, view, view2, view1, view0, mapO, D.sc, D.sc1, D.sc2, fw]))
 refine Run_loop (ι := {i : Nat // i ≤ e.ch.length ∧ (e.ch.take i).all chB1 = true ∧ ((e.ch.take i).map fun c => c.1).all stampB = true ∧ ((e.ch.take i).map fun c => c.1).Pairwise fun a b => a < b}) (fun i => ([(1, .ptr 0 0 0 1), (72, .int .i64 e.ch.length), (73, .int .i64 i.1)], [⟨true, false, true, false, 16, [[.int .i64 e.start, .int .i64 e.long, .bool false, .bool true, .int .i64 e.rule.freq, .int .i64 e.rule.interval, .int .i64 e.rule.count, .int .i64 e.rule.til, L (row1 .i64 e.rule.bm), L (row1 .i64 e.rule.bmd), L (row2 .i64 .i64 e.rule.bd), L (row1 .i64 e.rule.bsp), .int .i64 e.rule.start, L (row1 .i64 e.ex), L (row1 .i64 e.plus), L (row3 e.ch)]], some 0⟩])) (fun i => e.ch.length - i.1) ⟨0, by simp⟩ ?_ ?_
 ·refine Ent_gc [0] (by rfl) (by simp) (by simp [keptW, ObKW, ObW, imp_self, pullOb, or_false]) (by simp [lk_hit, lk_miss, D.pt0, viewS_own', pull, pull2, pull1, pull0, idx_hit, gate, List.mem_cons, or_false, view0])
 rintro ⟨i, hi, ha1, ha2, ha3⟩ hk
 dsimp only at hk ⊢
 by_cases hlt : i < e.ch.length
 ·have c4 : ((i : Int) < (e.ch.length : Int)) = True := by simp; omega
  obtain ⟨x, hx⟩ : ∃ x, e.ch[i]? = some x := ⟨_, List.getElem?_eq_getElem hlt⟩
  have rx := row3_get hx
  have sa := rstamp_p x.1
  have ss := rstamp_p x.2.1
  have htk : (e.ch.take (i + 1)).map (fun c => c.1) = (e.ch.take i).map (fun c => c.1) ++ [x.1] := by rw [List.take_add_one, hx]; simp
  have hmx : (e.ch.map fun c => c.1)[i]? = some x.1 := by simp [hx]
  by_cases q1 : stampB x.1 = true
  case neg =>
   have q1' : stampB x.1 = false := by simpa using q1
   have en : (e.ch.all chB1 && ((e.ch.map fun c => c.1).all stampB && risB (e.ch.map fun c => c.1))) = false := by rw [all_no hmx q1', Bool.false_and, Bool.and_false]
   rw [en]
   rw [q1'] at sa
   repeat' ((first | apply Run_seq | apply Run_skip | apply Run_block | apply Run_blk | refine Run_exit rfl ?_ | apply Run_ret | apply Run_nil | apply Run_condK | apply Run_ops mixed | apply Run_opsX mixed | with_reducible refine PostV_open ?_ | with_reducible refine ro_callV ?_ | with_reducible refine ro_callVX ?_ | refine CallV_pure (sa) ?_ ?_ | simp (disch := omega) only [w64, wu64, wu32, wu16, wu8, Int.tdiv_eq_ediv_of_nonneg, Int.tmod_eq_emod_of_nonneg] | ((first | refine GuardK_split ?_ ?_ | refine CondK_split ?_ ?_) <;> intro hc <;> (try simp only [hc]) <;> try simp at hc) | (with_reducible refine And.intro ?_ ?_; (focus ((repeat' (with_reducible refine And.intro ?_ ?_)) <;> first | exact trivial | assumption | (simp; done) | (simp only [List.length_map] at *; omega) | omega | (simp [D.cells, D.ok, D.one, D.pt, D.pt1]; done)))) | (with_reducible intro x hx) | omega) <;> (try simp only [row3_len, c4, rx, Nat.reduceBEq, reduceIte, Nat.reduceAdd, reduceCtorEq, binD, binInt, okD, unD, pickD, faddrD, loadD, splice, D.cells, D.ok, D.one, D.pt, D.pt1, D.pt0, D.norm1, cond_true, ne_eq, Int.reduceNeg, IntKind.bits, view, view2, view1, view0, mapO, D.sc, D.sc1, D.sc2, ofRes, fw]))
  rw [q1] at sa
  by_cases q2 : chB1 x = true
  case neg =>
   have q2' : chB1 x = false := by simpa using q2
   have en : (e.ch.all chB1 && ((e.ch.map fun c => c.1).all stampB && risB (e.ch.map fun c => c.1))) = false := by rw [all_no hx q2', Bool.false_and]
   rw [en]
   by_cases q3 : stampB x.2.1 = true
   case neg =>
    have q3' : stampB x.2.1 = false := by simpa using q3
    rw [q3'] at ss
    repeat' ((first | apply Run_seq | apply Run_skip | apply Run_block | apply Run_blk | refine Run_exit rfl ?_ | apply Run_ret | apply Run_nil | apply Run_condK | apply Run_ops mixed | apply Run_opsX mixed | with_reducible refine PostV_open ?_ | with_reducible refine ro_callV ?_ | with_reducible refine ro_callVX ?_ | refine CallV_pure (sa) ?_ ?_ | refine CallV_pure (ss) ?_ ?_ | simp (disch := omega) only [w64, wu64, wu32, wu16, wu8, Int.tdiv_eq_ediv_of_nonneg, Int.tmod_eq_emod_of_nonneg] | ((first | refine GuardK_split ?_ ?_ | refine CondK_split ?_ ?_) <;> intro hc <;> (try simp only [hc]) <;> try simp at hc) | (with_reducible refine And.intro ?_ ?_; (focus ((repeat' (with_reducible refine And.intro ?_ ?_)) <;> first | exact trivial | assumption | (simp; done) | (simp only [List.length_map] at *; omega) | omega | (simp [D.cells, D.ok, D.one, D.pt, D.pt1]; done)))) | (with_reducible intro x hx) | omega) <;> (try simp only [row3_len, c4, rx, Nat.reduceBEq, reduceIte, Nat.reduceAdd, reduceCtorEq, binD, binInt, okD, unD, pickD, faddrD, loadD, splice, D.cells, D.ok, D.one, D.pt, D.pt1, D.pt0, D.norm1, cond_true, cond_false, ne_eq, Int.reduceNeg, IntKind.bits, view, view2, view1, view0, mapO, D.sc, D.sc1, D.sc2, ofRes, fw]))
   rw [q3] at ss
   by_cases q4 : x.2.2 < 0
   ·have d1 : (x.2.2 < 0) = True := by simpa using q4
    repeat' ((first | apply Run_seq | apply Run_skip | apply Run_block | apply Run_blk | refine Run_exit rfl ?_ | apply Run_ret | apply Run_nil | apply Run_condK | apply Run_ops mixed | apply Run_opsX mixed | with_reducible refine PostV_open ?_ | with_reducible refine ro_callV ?_ | with_reducible refine ro_callVX ?_ | refine CallV_pure (sa) ?_ ?_ | refine CallV_pure (ss) ?_ ?_ | simp (disch := omega) only [w64, wu64, wu32, wu16, wu8, Int.tdiv_eq_ediv_of_nonneg, Int.tmod_eq_emod_of_nonneg] | ((first | refine GuardK_split ?_ ?_ | refine CondK_split ?_ ?_) <;> intro hc <;> (try simp only [hc]) <;> try simp at hc) | (with_reducible refine And.intro ?_ ?_; (focus ((repeat' (with_reducible refine And.intro ?_ ?_)) <;> first | exact trivial | assumption | (simp; done) | (simp only [List.length_map] at *; omega) | omega | (simp [D.cells, D.ok, D.one, D.pt, D.pt1]; done)))) | (with_reducible intro x hx) | omega) <;> (try simp only [row3_len, c4, rx, d1, Nat.reduceBEq, reduceIte, Nat.reduceAdd, reduceCtorEq, binD, binInt, okD, unD, pickD, faddrD, loadD, splice, D.cells, D.ok, D.one, D.pt, D.pt1, D.pt0, D.norm1, cond_true, cond_false, ne_eq, Int.reduceNeg, IntKind.bits, view, view2, view1, view0, mapO, D.sc, D.sc1, D.sc2, ofRes, fw]))
   have d1 : (x.2.2 < 0) = False := by simpa using q4
   have d2 : (x.2.2 > 10080) = True := by
    simp only [chB1, q3, Bool.true_and, decide_eq_false_iff_not] at q2'
    simp; omega
   repeat' ((first | apply Run_seq | apply Run_skip | apply Run_block | apply Run_blk | refine Run_exit rfl ?_ | apply Run_ret | apply Run_nil | apply Run_condK | apply Run_ops mixed | apply Run_opsX mixed | with_reducible refine PostV_open ?_ | with_reducible refine ro_callV ?_ | with_reducible refine ro_callVX ?_ | refine CallV_pure (sa) ?_ ?_ | refine CallV_pure (ss) ?_ ?_ | simp (disch := omega) only [w64, wu64, wu32, wu16, wu8, Int.tdiv_eq_ediv_of_nonneg, Int.tmod_eq_emod_of_nonneg] | ((first | refine GuardK_split ?_ ?_ | refine CondK_split ?_ ?_) <;> intro hc <;> (try simp only [hc]) <;> try simp at hc) | (with_reducible refine And.intro ?_ ?_; (focus ((repeat' (with_reducible refine And.intro ?_ ?_)) <;> first | exact trivial | assumption | (simp; done) | (simp only [List.length_map] at *; omega) | omega | (simp [D.cells, D.ok, D.one, D.pt, D.pt1]; done)))) | (with_reducible intro x hx) | omega) <;> (try simp only [row3_len, c4, rx, d1, d2, Nat.reduceBEq, reduceIte, Nat.reduceAdd, reduceCtorEq, binD, binInt, okD, unD, pickD, faddrD, loadD, splice, D.cells, D.ok, D.one, D.pt, D.pt1, D.pt0, D.norm1, cond_true, cond_false, ne_eq, Int.reduceNeg, IntKind.bits, view, view2, view1, view0, mapO, D.sc, D.sc1, D.sc2, ofRes, fw]))
  have q2' := q2
  simp only [chB1, Bool.and_eq_true, decide_eq_true_eq] at q2'
  obtain ⟨q3, q4, q5⟩ := q2'
  rw [q3] at ss
  have d1 : (x.2.2 < 0) = False := by simp; omega
  have d2 : (x.2.2 > 10080) = False := by simp; omega
  cases i with
  | zero =>
   repeat' ((first | apply Run_seq | apply Run_skip | apply Run_block | apply Run_blk | refine Run_exit rfl ?_ | apply Run_ret | apply Run_nil | apply Run_condK | apply Run_ops mixed | apply Run_opsX mixed | with_reducible refine PostV_open ?_ | with_reducible refine ro_callV ?_ | with_reducible refine ro_callVX ?_ | refine CallV_pure (sa) ?_ ?_ | refine CallV_pure (ss) ?_ ?_ | simp (disch := omega) only [w64] | ((first | refine GuardK_split ?_ ?_ | refine CondK_split ?_ ?_) <;> intro hc <;> (try simp only [hc]) <;> try simp at hc) | (with_reducible refine And.intro ?_ ?_; (focus ((repeat' (with_reducible refine And.intro ?_ ?_)) <;> first | exact trivial | assumption | (simp; done) | (simp only [List.length_map] at *; omega) | omega | (simp [D.cells, D.ok, D.one, D.pt, D.pt1]; done)))) | (with_reducible intro x hx) | omega) <;> (try simp only [row3_len, c4, rx, d1, d2, Nat.reduceBEq, reduceIte, Nat.reduceAdd, reduceCtorEq, binD, binInt, okD, unD, pickD, faddrD, loadD, splice, D.cells, D.ok, D.one, D.pt, D.pt1, D.pt0, D.norm1, cond_false, ne_eq, Int.reduceNeg, IntKind.bits, view, view2, view1, view0, mapO, D.sc, D.sc1, D.sc2, fw]))
   refine hk ⟨1, by omega, all_step ha1 hx q2, by rw [htk]; simp [q1], by rw [htk]; simp⟩ _ _ (by dsimp only; omega) ?_
   dsimp only
   refine Ent_gc [0] (by rfl) (by simp) (by simp [keptW, ObKW, ObW, imp_self, pullOb, or_false]) (by simp [lk_hit, lk_miss, D.pt0, viewS_own', pull, pull2, pull1, pull0, idx_hit, gate, List.mem_cons, or_false, view0])
  | succ i =>
   obtain ⟨y, hy⟩ : ∃ y, e.ch[i]? = some y := ⟨_, List.getElem?_eq_getElem (by omega)⟩
   have ry := row3_get hy
   have hmy : (e.ch.map fun c => c.1)[i]? = some y.1 := by simp [hy]
   have c7 : (((i + 1 : Nat) : Int) > 0) = True := by rw [eq_iff_iff]; exact ⟨fun _ => trivial, fun _ => by omega⟩
   have c8 : (((i + 1 : Nat) : Int) - 1) = (i : Int) := by omega
   by_cases hyx : y.1 < x.1
   ·have c9 : (y.1 ≥ x.1) = False := by simp; omega
    repeat' ((first | apply Run_seq | apply Run_skip | apply Run_block | apply Run_blk | refine Run_exit rfl ?_ | apply Run_ret | apply Run_nil | apply Run_condK | apply Run_ops mixed | apply Run_opsX mixed | with_reducible refine PostV_open ?_ | with_reducible refine ro_callV ?_ | with_reducible refine ro_callVX ?_ | refine CallV_pure (sa) ?_ ?_ | refine CallV_pure (ss) ?_ ?_ | simp (disch := omega) only [w64] | ((first | refine GuardK_split ?_ ?_ | refine CondK_split ?_ ?_) <;> intro hc <;> (try simp only [hc]) <;> try simp at hc) | (with_reducible refine And.intro ?_ ?_; (focus ((repeat' (with_reducible refine And.intro ?_ ?_)) <;> first | exact trivial | assumption | (simp; done) | (simp only [List.length_map] at *; omega) | omega | (simp [D.cells, D.ok, D.one, D.pt, D.pt1]; done)))) | (with_reducible intro x hx) | omega) <;> (try simp only [row3_len, c4, c7, c8, c9, d1, d2, rx, ry, Nat.reduceBEq, reduceIte, Nat.reduceAdd, reduceCtorEq, binD, binInt, okD, unD, pickD, faddrD, loadD, splice, D.cells, D.ok, D.one, D.pt, D.pt1, D.pt0, D.norm1, cond_true, cond_false, ne_eq, Int.reduceNeg, IntKind.bits, view, view2, view1, view0, mapO, D.sc, D.sc1, D.sc2, fw]))
    refine hk ⟨i + 1 + 1, by omega, all_step ha1 hx q2, by rw [htk, List.all_append, ha2]; simp [q1], ?_⟩ _ _ (by dsimp only; omega) ?_
    ·rw [List.map_take] at ha3 ⊢
     exact pw_step (R := fun a b : Int => a < b) (fun _ _ _ => Int.lt_trans) ha3 hmy hmx hyx
    dsimp only
    refine Ent_gc [0] (by rfl) (by simp) (by simp [keptW, ObKW, ObW, imp_self, pullOb, or_false]) (by simp [lk_hit, lk_miss, D.pt0, viewS_own', pull, pull2, pull1, pull0, idx_hit, gate, List.mem_cons, or_false, view0])
   ·have c9 : (y.1 ≥ x.1) = True := by simp; omega
    have en : (e.ch.all chB1 && ((e.ch.map fun c => c.1).all stampB && risB (e.ch.map fun c => c.1))) = false := by
     have : risB (e.ch.map fun c => c.1) = false := by simpa [risB] using pw_no (R := fun a b : Int => a < b) hmy hmx hyx
     rw [this, Bool.and_false, Bool.and_false]
    rw [en]
    repeat' ((first | apply Run_seq | apply Run_skip | apply Run_block | apply Run_blk | refine Run_exit rfl ?_ | apply Run_ret | apply Run_nil | apply Run_condK | apply Run_ops mixed | apply Run_opsX mixed | with_reducible refine PostV_open ?_ | with_reducible refine ro_callV ?_ | with_reducible refine ro_callVX ?_ | refine CallV_pure (sa) ?_ ?_ | refine CallV_pure (ss) ?_ ?_ | simp (disch := omega) only [w64] | ((first | refine GuardK_split ?_ ?_ | refine CondK_split ?_ ?_) <;> intro hc <;> (try simp only [hc]) <;> try simp at hc) | (with_reducible refine And.intro ?_ ?_; (focus ((repeat' (with_reducible refine And.intro ?_ ?_)) <;> first | exact trivial | assumption | (simp; done) | (simp only [List.length_map] at *; omega) | omega | (simp [D.cells, D.ok, D.one, D.pt, D.pt1]; done)))) | (with_reducible intro x hx) | omega) <;> (try simp only [row3_len, c4, c7, c8, c9, d1, d2, rx, ry, Nat.reduceBEq, reduceIte, Nat.reduceAdd, reduceCtorEq, binD, binInt, okD, unD, pickD, faddrD, loadD, splice, D.cells, D.ok, D.one, D.pt, D.pt1, D.pt0, D.norm1, cond_true, cond_false, ne_eq, Int.reduceNeg, IntKind.bits, view, view2, view1, view0, mapO, D.sc, D.sc1, D.sc2, ofRes, fw]))
 ·have c4 : ((i : Int) < (e.ch.length : Int)) = False := by simp; omega
  obtain rfl : i = e.ch.length := by omega
  rw [List.take_length] at ha1 ha2 ha3
  have hr2 : risB (e.ch.map fun c => c.1) = true := by simpa [risB] using ha3
  rw [ha1, ha2, hr2]
  repeat' ((first | apply Run_seq | apply Run_skip | apply Run_block | apply Run_blk | refine Run_exit rfl ?_ | apply Run_ret | apply Run_nil | apply Run_condK | apply Run_ops mixed | apply Run_opsX mixed | with_reducible refine PostV_open ?_ | with_reducible refine ro_callV ?_ | with_reducible refine ro_callVX ?_ | simp (disch := omega) only [w64, wu64, wu32, wu16, wu8, Int.tdiv_eq_ediv_of_nonneg, Int.tmod_eq_emod_of_nonneg] | ((first | refine GuardK_split ?_ ?_ | refine CondK_split ?_ ?_) <;> intro hc <;> (try simp only [hc]) <;> try simp at hc) | (with_reducible refine And.intro ?_ ?_; (focus ((repeat' (with_reducible refine And.intro ?_ ?_)) <;> first | exact trivial | assumption | (simp; done) | (simp only [List.length_map] at *; omega) | omega | (simp [D.cells, D.ok, D.one, D.pt, D.pt1]; done)))) | (with_reducible intro x hx) | omega) <;> (try simp only [c4, Nat.reduceBEq, reduceIte, binD, binInt, D.pt0, D.norm1, view, view2, view1, view0, ofRes, fw]))
def othE (l : List En) (id : Int) (behind : Bool) : List En := if behind then l.filter fun x => decide (id < x.id) else l.filter fun x => decide (x.id < id)
theorem oth_take {l : List En} {i : Nat} {x : En} (id : Int) (b : Bool) (h : l[i]? = some x) : othE (l.take (i + 1)) id b = othE (l.take i) id b ++ if (if b then id < x.id else x.id < id) then [x] else [] := by
 have : l.take (i + 1) = l.take i ++ [x] := by rw [List.take_add_one, h]; rfl
 rw [this]
 unfold othE
 cases b
 ·simp only [Bool.false_eq_true, if_false, List.filter_append]
  congr 1
  by_cases hx : x.id < id <;> simp [hx]
 ·simp only [if_true, List.filter_append]
  congr 1
  by_cases hx : id < x.id <;> simp [hx]
set_option maxHeartbeats 4000000 in
theorem others_p (l : List En) (id : Int) (b : Bool) (tg : Bool) (nl : Option Bool) (hl : l.length ≤ 400000000000) : CallG Try.prog 62 [.list nl tg (rowsE l), .int .u32 id, .bool b] [] (.own 0 0 (othE l id b).length (othE l id b).length 17 none) [acc false 17 true (rowsE (othE l id b))] := by
 refine callG Try.func62 low62 (by simp [c62]) ?_
 simp only [c62]
 repeat' ((first | apply Run_seq | apply Run_skip | apply Run_block | apply Run_blk | refine Run_exit rfl ?_ | apply Run_ret | apply Run_nil | apply Run_condK | apply Run_ops mixed | with_reducible refine PostG_open ?_ | simp (disch := omega) only [w64, wu64, wu32, wu16, wu8, Int.tdiv_eq_ediv_of_nonneg, Int.tmod_eq_emod_of_nonneg] | ((first | refine GuardK_split ?_ ?_ | refine CondK_split ?_ ?_) <;> intro hc <;> (try simp only [hc]) <;> try simp at hc) | (with_reducible refine And.intro ?_ ?_; (focus ((repeat' (with_reducible refine And.intro ?_ ?_)) <;> first | exact trivial | assumption | (simp; done) | (simp only [List.length_map] at *; omega) | omega | (simp [D.cells, D.ok, D.one, D.pt, D.pt1]; done)))) | (with_reducible intro x hx) | omega) <;> (try simp only [rowsE_len, Nat.reduceBEq, argEnv, Nat.reduceAdd, lenD, D.cells, D.ok, D.one, implies_true, fw]))
 refine Run_ent (Ent_acc (t := 7) (b := false) 17 true (by decide) rfl) ?_
 refine Run_loop (ι := {i : Nat // i ≤ l.length}) (fun i => ([(0, .list nl tg (rowsE l)), (1, .int .u32 id), (2, .bool b), (7, .own 0 0 (othE (l.take i.1) id b).length (othE (l.take i.1) id b).length 17 none), (11, .int .i64 l.length), (12, .int .i64 i.1)], [acc false 17 true (rowsE (othE (l.take i.1) id b))])) (fun i => l.length - i.1) ⟨0, by simp⟩ ?_ ?_
 ·have : othE (l.take 0) id b = [] := by cases b <;> simp [othE]
  dsimp only
  rw [this]
  simp only [rowsE_nil, List.length_nil]
  refine Ent_gc [0] (by rfl) (by simp) (by simp [keptW, ObKW, ObW, imp_self, acc_real, acc_nl, acc_pure, acc_fz, acc_sz, acc_rows, acc_spare, pullOb]) (by simp [lk_hit, lk_miss, D.pt0, viewS_own', pull, pull2, pull1, pull0, idx_hit, gate, List.mem_cons, or_false, view0])
 rintro ⟨i, hi⟩ hk
 dsimp only at hk ⊢
 by_cases hlt : i < l.length
 ·have c1 : ((i : Int) < (l.length : Int)) = True := by simp; omega
  obtain ⟨x, hx⟩ : ∃ x, l[i]? = some x := ⟨_, List.getElem?_eq_getElem hlt⟩
  have hr := rowsE_get hx
  have ht := oth_take id b hx
  have hle : (othE (l.take i) id b).length ≤ 400000000000 := by
   have : (othE (l.take i) id b).length ≤ (l.take i).length := by unfold othE; split <;> exact List.length_filter_le ..
   rw [List.length_take] at this
   omega
  have hsn : ∀ F : List En, rowsE F ++ [x.row] = rowsE (F ++ [x]) := fun F => by simp [rowsE]
  generalize othE (l.take i) id b = F at ht hle ⊢
  have hsF := hsn F
  simp only [En.row] at hsF
  by_cases h1 : x.id = id
  ·have c2 : (x.id == id) = true := by simpa using h1
   have e : (if (if b = true then id < x.id else x.id < id) then [x] else []) = [] := by
    rw [h1]; cases b <;> simp
   rw [e, List.append_nil] at ht
   repeat' ((first | apply Run_seq | apply Run_skip | apply Run_block | apply Run_blk | refine Run_exit rfl ?_ | apply Run_ret | apply Run_nil | apply Run_condK | apply Run_ops mixed | with_reducible refine PostG_open ?_ | simp (disch := omega) only [w64] | ((first | refine GuardK_split ?_ ?_ | refine CondK_split ?_ ?_) <;> intro hc <;> (try simp only [hc]) <;> try simp at hc) | (with_reducible refine And.intro ?_ ?_; (focus ((repeat' (with_reducible refine And.intro ?_ ?_)) <;> first | exact trivial | assumption | (simp; done) | (simp only [List.length_map] at *; omega) | omega | (simp [D.cells, D.ok, D.one, D.pt, D.pt1]; done)))) | (with_reducible intro x hx) | omega) <;> (try simp only [rowsE_len, c1, hr, En.row, Nat.reduceBEq, reduceIte, Nat.reduceEqDiff, Nat.reduceAdd, Nat.reduceLeDiff, binD, binInt, eqD, eqN, boolD, pickD, faddrD, loadD, D.cells, D.ok, D.one, D.pt, D.pt1, D.norm1, cond_true, cond_false, fw]))
   refine hk ⟨i + 1, by omega⟩ _ _ (by dsimp only; omega) ?_
   dsimp only
   rw [ht]
   refine Ent_gc [0] (by rfl) (by simp) (by simp [keptW, ObKW, ObW, imp_self, acc_real, acc_nl, acc_pure, acc_fz, acc_sz, acc_rows, acc_spare, pullOb]) (by simp [lk_hit, lk_miss, D.pt0, viewS_own', pull, pull2, pull1, pull0, idx_hit, gate, List.mem_cons, or_false, view0])
  ·have c2 : (x.id == id) = false := by simpa using h1
   by_cases h2 : x.id > id
   ·have c3 : (x.id > id) = True := by simpa using h2
    cases b with
    | true =>
     have e : (if (if true = true then id < x.id else x.id < id) then [x] else []) = [x] := by simp; omega
     rw [e] at ht
     repeat' ((first | apply Run_seq | apply Run_skip | apply Run_block | apply Run_blk | refine Run_exit rfl ?_ | apply Run_ret | apply Run_nil | apply Run_condK | apply Run_ops mixed | with_reducible refine PostG_open ?_ | simp (disch := omega) only [w64] | ((first | refine GuardK_split ?_ ?_ | refine CondK_split ?_ ?_) <;> intro hc <;> (try simp only [hc]) <;> try simp at hc) | (with_reducible refine And.intro ?_ ?_; (focus ((repeat' (with_reducible refine And.intro ?_ ?_)) <;> first | exact trivial | assumption | (simp; done) | omega | (simp [D.one]; done)))) | (with_reducible intro x hx) | omega) <;> (try simp only [rowsE_len, c1, c3, hr, hsF, En.row, Nat.reduceBEq, reduceIte, Nat.reduceAdd, Nat.reduceLeDiff, binD, binInt, eqD, eqN, boolD, pickD, faddrD, loadD, D.cells, D.ok, D.one, D.pt, D.pt1, D.norm1, cond_true, cond_false, beq_self_eq_true, fw]))
     refine hk ⟨i + 1, by omega⟩ _ _ (by dsimp only; omega) ?_
     dsimp only
     rw [ht]
     simp only [List.length_append, List.length_cons, List.length_nil]
     refine Ent_gc [0] (by rfl) (by simp) (by simp [keptW, ObKW, ObW, imp_self, acc_real, acc_nl, acc_pure, acc_fz, acc_sz, acc_rows, acc_spare, pullOb]) (by simp [lk_hit, lk_miss, D.pt0, viewS_own', pull, pull2, pull1, pull0, idx_hit, gate, List.mem_cons, or_false, view0])
    | false =>
     have e : (if (if false = true then id < x.id else x.id < id) then [x] else []) = [] := by simp; omega
     rw [e, List.append_nil] at ht
     repeat' ((first | apply Run_seq | apply Run_skip | apply Run_block | apply Run_blk | refine Run_exit rfl ?_ | apply Run_ret | apply Run_nil | apply Run_condK | apply Run_ops mixed | with_reducible refine PostG_open ?_ | simp (disch := omega) only [w64] | ((first | refine GuardK_split ?_ ?_ | refine CondK_split ?_ ?_) <;> intro hc <;> (try simp only [hc]) <;> try simp at hc) | (with_reducible refine And.intro ?_ ?_; (focus ((repeat' (with_reducible refine And.intro ?_ ?_)) <;> first | exact trivial | assumption | (simp; done) | (simp only [List.length_map] at *; omega) | omega | (simp [D.cells, D.ok, D.one, D.pt, D.pt1]; done)))) | (with_reducible intro x hx) | omega) <;> (try simp only [rowsE_len, c1, c3, hr, En.row, Nat.reduceBEq, reduceIte, Nat.reduceAdd, binD, binInt, eqD, eqN, boolD, pickD, faddrD, loadD, cond_true, cond_false, fw]))
     refine hk ⟨i + 1, by omega⟩ _ _ (by dsimp only; omega) ?_
     dsimp only
     rw [ht]
     refine Ent_gc [0] (by rfl) (by simp) (by simp [keptW, ObKW, ObW, imp_self, acc_real, acc_nl, acc_pure, acc_fz, acc_sz, acc_rows, acc_spare, pullOb]) (by simp [lk_hit, lk_miss, D.pt0, viewS_own', pull, pull2, pull1, pull0, idx_hit, gate, List.mem_cons, or_false, view0])
   ·have c3 : (x.id > id) = False := by simpa using h2
    cases b with
    | false =>
     have e : (if (if false = true then id < x.id else x.id < id) then [x] else []) = [x] := by simp; omega
     rw [e] at ht
     repeat' ((first | apply Run_seq | apply Run_skip | apply Run_block | apply Run_blk | refine Run_exit rfl ?_ | apply Run_ret | apply Run_nil | apply Run_condK | apply Run_ops mixed | with_reducible refine PostG_open ?_ | simp (disch := omega) only [w64] | ((first | refine GuardK_split ?_ ?_ | refine CondK_split ?_ ?_) <;> intro hc <;> (try simp only [hc]) <;> try simp at hc) | (with_reducible refine And.intro ?_ ?_; (focus ((repeat' (with_reducible refine And.intro ?_ ?_)) <;> first | exact trivial | assumption | (simp; done) | (simp only [List.length_map] at *; omega) | omega | (simp [D.one]; done)))) | (with_reducible intro x hx) | omega) <;> (try simp only [rowsE_len, c1, c3, hr, hsF, En.row, Nat.reduceBEq, reduceIte, Nat.reduceAdd, Nat.reduceLeDiff, binD, binInt, eqD, eqN, boolD, pickD, faddrD, loadD, D.cells, D.ok, D.one, D.pt, D.pt1, D.norm1, cond_true, cond_false, beq_self_eq_true, fw]))
     refine hk ⟨i + 1, by omega⟩ _ _ (by dsimp only; omega) ?_
     dsimp only
     rw [ht]
     simp only [List.length_append, List.length_cons, List.length_nil]
     refine Ent_gc [0] (by rfl) (by simp) (by simp [keptW, ObKW, ObW, imp_self, acc_real, acc_nl, acc_pure, acc_fz, acc_sz, acc_rows, acc_spare, pullOb]) (by simp [lk_hit, lk_miss, D.pt0, viewS_own', pull, pull2, pull1, pull0, idx_hit, gate, List.mem_cons, or_false, view0])
    | true =>
     have e : (if (if true = true then id < x.id else x.id < id) then [x] else []) = [] := by simp; omega
     rw [e, List.append_nil] at ht
     repeat' ((first | apply Run_seq | apply Run_skip | apply Run_block | apply Run_blk | refine Run_exit rfl ?_ | apply Run_ret | apply Run_nil | apply Run_condK | apply Run_ops mixed | with_reducible refine PostG_open ?_ | simp (disch := omega) only [w64] | ((first | refine GuardK_split ?_ ?_ | refine CondK_split ?_ ?_) <;> intro hc <;> (try simp only [hc]) <;> try simp at hc) | (with_reducible refine And.intro ?_ ?_; (focus ((repeat' (with_reducible refine And.intro ?_ ?_)) <;> first | exact trivial | assumption | (simp; done) | (simp only [List.length_map] at *; omega) | omega | (simp [D.cells, D.ok, D.one, D.pt, D.pt1]; done)))) | (with_reducible intro x hx) | omega) <;> (try simp only [rowsE_len, c1, c3, hr, En.row, Nat.reduceBEq, reduceIte, Nat.reduceAdd, binD, binInt, eqD, eqN, boolD, pickD, faddrD, loadD, cond_true, cond_false, fw]))
     refine hk ⟨i + 1, by omega⟩ _ _ (by dsimp only; omega) ?_
     dsimp only
     rw [ht]
     refine Ent_gc [0] (by rfl) (by simp) (by simp [keptW, ObKW, ObW, imp_self, acc_real, acc_nl, acc_pure, acc_fz, acc_sz, acc_rows, acc_spare, pullOb]) (by simp [lk_hit, lk_miss, D.pt0, viewS_own', pull, pull2, pull1, pull0, idx_hit, gate, List.mem_cons, or_false, view0])
 ·have c1 : ((i : Int) < (l.length : Int)) = False := by simp; omega
  obtain rfl : i = l.length := by omega
  rw [List.take_length]
  repeat' ((first | apply Run_seq | apply Run_skip | apply Run_block | apply Run_blk | refine Run_exit rfl ?_ | apply Run_ret | apply Run_nil | apply Run_condK | apply Run_ops mixed | with_reducible refine PostG_open ?_ | simp (disch := omega) only [w64, wu64, wu32, wu16, wu8, Int.tdiv_eq_ediv_of_nonneg, Int.tmod_eq_emod_of_nonneg] | ((first | refine GuardK_split ?_ ?_ | refine CondK_split ?_ ?_) <;> intro hc <;> (try simp only [hc]) <;> try simp at hc) | (with_reducible refine And.intro ?_ ?_; (focus ((repeat' (with_reducible refine And.intro ?_ ?_)) <;> first | exact trivial | assumption | (simp; done) | (simp only [List.length_map] at *; omega) | omega | (simp [D.cells, D.ok, D.one, D.pt, D.pt1]; done)))) | (with_reducible intro x hx) | omega) <;> (try simp only [c1, Nat.reduceBEq, reduceIte, binD, binInt, ofRes, fw]))
  refine GcTo_own [0] (by rfl) (by simp) (by simp [keptW, ObKW, ObW, imp_self, acc_real, acc_nl, acc_pure, acc_fz, acc_sz, acc_rows, acc_spare, pull, pull2, pull1, pull0, idx_hit, pullOb])
end Go.Proofs.Ytoleaiaeghbffaa
