import Derived.Test.YtoleaiaeghbffaaCMB
import Derived.Test.YtoleaiaeghbffaaVi25
import Derived.Test.YtoleaiaeghbffaaVi24
set_option linter.unusedVariables false
set_option linter.unusedSimpArgs false
set_option linter.unnecessarySimpa false
namespace Go.Proofs.Ytoleaiaeghbffaa
open Go Go.Vi


theorem eqInt_p (a b : List Int) (ha : a.length ≤ 140737488351232) (hb : b.length ≤ 140737488351232) : PureD Try.prog 96 [L (row1 .i64 a), L (row1 .i64 b)] (.bool (decide (a = b))) := by
 refine pureV Try.func96 low96 (by simp [c96]) ?_
 simp only [c96]
 by_cases hl : ¬ a.length = b.length
 ·have c1 := lenB hl
  rw [eq_len hl]
  repeat' ((first | apply Run_seq | apply Run_skip | apply Run_block | apply Run_blk | refine Run_exit rfl ?_ | apply Run_ret | apply Run_nil | apply Run_condK | apply Run_ops mixed | apply Run_opsX mixed | with_reducible refine PostV_open ?_ | simp (disch := omega) only [w64, wu64, wu32, wu16, wu8, Int.tdiv_eq_ediv_of_nonneg, Int.tmod_eq_emod_of_nonneg] | (refine CondK_split ?_ ?_ <;> intro hc <;> (try simp only [hc]) <;> try simp at hc) | (with_reducible refine And.intro ?_ ?_; (focus ((repeat' (with_reducible refine And.intro ?_ ?_)) <;> first | exact trivial | assumption | (simp; done) | (simp only [List.length_map] at *; omega) | omega | (simp [D.cells, D.ok, D.one, D.pt, D.pt1]; done)))) | (with_reducible intro x hx) | omega) <;> (try simp only [row1_len, Nat.reduceBEq, argEnv, reduceIte, binD, binInt, lenD, D.pt0, D.norm1, view, view2, view1, view0, ofRes, fw]))
 have hl : a.length = b.length := by omega
 have c1 : ((a.length : Int) == (b.length : Int)) = true := by simp [hl]
 repeat' ((first | apply Run_seq | apply Run_skip | apply Run_block | apply Run_blk | refine Run_exit rfl ?_ | apply Run_ret | apply Run_nil | apply Run_condK | apply Run_ops mixed | apply Run_opsX mixed | with_reducible refine PostV_open ?_ | simp (disch := omega) only [w64, wu64, wu32, wu16, wu8, Int.tdiv_eq_ediv_of_nonneg, Int.tmod_eq_emod_of_nonneg] | (refine CondK_split ?_ ?_ <;> intro hc <;> (try simp only [hc]) <;> try simp at hc) | (with_reducible refine And.intro ?_ ?_; (focus ((repeat' (with_reducible refine And.intro ?_ ?_)) <;> first | exact trivial | assumption | (simp; done) | (simp only [List.length_map] at *; omega) | omega | (simp [D.cells, D.ok, D.one, D.pt, D.pt1]; done)))) | (with_reducible intro x hx) | omega) <;> (try simp only [row1_len, Nat.reduceBEq, argEnv, reduceIte, binD, binInt, lenD, D.pt0, D.norm1, view, view2, view1, view0, ofRes, fw]))
 refine Run_loop (ι := {i : Nat // i ≤ a.length ∧ a.take i = b.take i}) (fun i => ([(0, L (row1 .i64 a)), (1, L (row1 .i64 b)), (12, .int .i64 a.length), (13, .int .i64 i.1)], [])) (fun i => a.length - i.1) ⟨0, by simp⟩ ?_ ?_
 ·refine Ent_gc [] (by rfl) (by simp) (by simp [keptW]) (by simp [lk_hit, lk_miss, D.pt0, viewS_own', pull, pull2, pull1, pull0, idx_nil, gate, List.mem_cons, or_false, view0])
 rintro ⟨i, hi, ht⟩ hk
 dsimp only at hk ⊢
 by_cases hlt : i < a.length
 ·have c2 : ((i : Int) < (a.length : Int)) = True := by simp; omega
  obtain ⟨x, hx⟩ : ∃ x, a[i]? = some x := ⟨_, List.getElem?_eq_getElem hlt⟩
  obtain ⟨y, hy⟩ : ∃ y, b[i]? = some y := ⟨_, List.getElem?_eq_getElem (by omega)⟩
  have rx := row1_get (k := .i64) hx
  have ry := row1_get (k := .i64) hy
  by_cases hxy : x = y
  ·have c3 : (x == y) = true := by simpa using hxy
   repeat' ((first | apply Run_seq | apply Run_skip | apply Run_block | apply Run_blk | refine Run_exit rfl ?_ | apply Run_ret | apply Run_nil | apply Run_condK | apply Run_ops mixed | apply Run_opsX mixed | with_reducible refine PostV_open ?_ | simp (disch := omega) only [w64] | (refine CondK_split ?_ ?_ <;> intro hc <;> (try simp only [hc]) <;> try simp at hc) | (with_reducible refine And.intro ?_ ?_; (focus ((repeat' (with_reducible refine And.intro ?_ ?_)) <;> first | exact trivial | assumption | (simp; done) | (simp only [List.length_map] at *; omega) | omega | (simp [D.cells, D.ok, D.one, D.pt, D.pt1]; done)))) | (with_reducible intro x hx) | omega) <;> (try simp only [row1_len, c2, rx, ry, Nat.reduceBEq, reduceIte, binD, binInt, binStr, loadD, D.pt0, D.norm1, view, view2, view1, view0, ofRes, fw]))
   refine hk ⟨i + 1, by omega, eq_step ht hx hy hxy⟩ _ _ (by dsimp only; omega) ?_
   dsimp only
   refine Ent_gc [] (by rfl) (by simp) (by simp [keptW]) (by simp [lk_hit, lk_miss, D.pt0, viewS_own', pull, pull2, pull1, pull0, idx_nil, gate, List.mem_cons, or_false, view0])
  ·have c3 : (x == y) = false := by simpa using hxy
   rw [eq_no hx hy hxy]
   repeat' ((first | apply Run_seq | apply Run_skip | apply Run_block | apply Run_blk | refine Run_exit rfl ?_ | apply Run_ret | apply Run_nil | apply Run_condK | apply Run_ops mixed | apply Run_opsX mixed | with_reducible refine PostV_open ?_ | simp (disch := omega) only [w64] | (refine CondK_split ?_ ?_ <;> intro hc <;> (try simp only [hc]) <;> try simp at hc) | (with_reducible refine And.intro ?_ ?_; (focus ((repeat' (with_reducible refine And.intro ?_ ?_)) <;> first | exact trivial | assumption | (simp; done) | (simp only [List.length_map] at *; omega) | omega | (simp [D.cells, D.ok, D.one, D.pt, D.pt1]; done)))) | (with_reducible intro x hx) | omega) <;> (try simp only [row1_len, c2, rx, ry, Nat.reduceBEq, reduceIte, binD, binInt, binStr, loadD, D.pt0, D.norm1, view, view2, view1, view0, ofRes, fw]))
 ·have c2 : ((i : Int) < (a.length : Int)) = False := by simp; omega
  rw [eq_end ht hlt hl]
  repeat' ((first | apply Run_seq | apply Run_skip | apply Run_block | apply Run_blk | refine Run_exit rfl ?_ | apply Run_ret | apply Run_nil | apply Run_condK | apply Run_ops mixed | apply Run_opsX mixed | with_reducible refine PostV_open ?_ | simp (disch := omega) only [w64, wu64, wu32, wu16, wu8, Int.tdiv_eq_ediv_of_nonneg, Int.tmod_eq_emod_of_nonneg] | (refine CondK_split ?_ ?_ <;> intro hc <;> (try simp only [hc]) <;> try simp at hc) | (with_reducible refine And.intro ?_ ?_; (focus ((repeat' (with_reducible refine And.intro ?_ ?_)) <;> first | exact trivial | assumption | (simp; done) | (simp only [List.length_map] at *; omega) | omega | (simp [D.cells, D.ok, D.one, D.pt, D.pt1]; done)))) | (with_reducible intro x hx) | omega) <;> (try simp only [c2, Nat.reduceBEq, reduceIte, binD, binInt, D.pt0, D.norm1, view, view2, view1, view0, ofRes, fw]))
theorem eqDay_p (a b : List (Int × Int)) (ha : a.length ≤ 140737488351232) (hb : b.length ≤ 140737488351232) : PureD Try.prog 97 [L (row2 .i64 .i64 a), L (row2 .i64 .i64 b)] (.bool (decide (a = b))) := by
 refine pureV Try.func97 low97 (by simp [c97]) ?_
 simp only [c97]
 by_cases hl : ¬ a.length = b.length
 ·have c1 := lenB hl
  rw [eq_len hl]
  repeat' ((first | apply Run_seq | apply Run_skip | apply Run_block | apply Run_blk | refine Run_exit rfl ?_ | apply Run_ret | apply Run_nil | apply Run_condK | apply Run_ops mixed | apply Run_opsX mixed | with_reducible refine PostV_open ?_ | simp (disch := omega) only [w64, wu64, wu32, wu16, wu8, Int.tdiv_eq_ediv_of_nonneg, Int.tmod_eq_emod_of_nonneg] | (refine CondK_split ?_ ?_ <;> intro hc <;> (try simp only [hc]) <;> try simp at hc) | (with_reducible refine And.intro ?_ ?_; (focus ((repeat' (with_reducible refine And.intro ?_ ?_)) <;> first | exact trivial | assumption | (simp; done) | (simp only [List.length_map] at *; omega) | omega | (simp [D.cells, D.ok, D.one, D.pt, D.pt1]; done)))) | (with_reducible intro x hx) | omega) <;> (try simp only [row2_len, Nat.reduceBEq, argEnv, reduceIte, binD, binInt, lenD, D.pt0, D.norm1, view, view2, view1, view0, ofRes, fw]))
 have hl : a.length = b.length := by omega
 have c1 : ((a.length : Int) == (b.length : Int)) = true := by simp [hl]
 repeat' ((first | apply Run_seq | apply Run_skip | apply Run_block | apply Run_blk | refine Run_exit rfl ?_ | apply Run_ret | apply Run_nil | apply Run_condK | apply Run_ops mixed | apply Run_opsX mixed | with_reducible refine PostV_open ?_ | simp (disch := omega) only [w64, wu64, wu32, wu16, wu8, Int.tdiv_eq_ediv_of_nonneg, Int.tmod_eq_emod_of_nonneg] | (refine CondK_split ?_ ?_ <;> intro hc <;> (try simp only [hc]) <;> try simp at hc) | (with_reducible refine And.intro ?_ ?_; (focus ((repeat' (with_reducible refine And.intro ?_ ?_)) <;> first | exact trivial | assumption | (simp; done) | (simp only [List.length_map] at *; omega) | omega | (simp [D.cells, D.ok, D.one, D.pt, D.pt1]; done)))) | (with_reducible intro x hx) | omega) <;> (try simp only [row2_len, Nat.reduceBEq, argEnv, reduceIte, binD, binInt, lenD, D.pt0, D.norm1, view, view2, view1, view0, ofRes, fw]))
 refine Run_loop (ι := {i : Nat // i ≤ a.length ∧ a.take i = b.take i}) (fun i => ([(0, L (row2 .i64 .i64 a)), (1, L (row2 .i64 .i64 b)), (12, .int .i64 a.length), (13, .int .i64 i.1)], [])) (fun i => a.length - i.1) ⟨0, by simp⟩ ?_ ?_
 ·refine Ent_gc [] (by rfl) (by simp) (by simp [keptW]) (by simp [lk_hit, lk_miss, D.pt0, viewS_own', pull, pull2, pull1, pull0, idx_nil, gate, List.mem_cons, or_false, view0])
 rintro ⟨i, hi, ht⟩ hk
 dsimp only at hk ⊢
 by_cases hlt : i < a.length
 ·have c2 : ((i : Int) < (a.length : Int)) = True := by simp; omega
  obtain ⟨x, hx⟩ : ∃ x, a[i]? = some x := ⟨_, List.getElem?_eq_getElem hlt⟩
  obtain ⟨y, hy⟩ : ∃ y, b[i]? = some y := ⟨_, List.getElem?_eq_getElem (by omega)⟩
  have rx := row2_get (k := .i64) (m := .i64) hx
  have ry := row2_get (k := .i64) (m := .i64) hy
  by_cases hxy : x = y
  ·have c3 : ((x.1 == y.1) && (x.2 == y.2)) = true := by rw [b2]; simpa using hxy
   repeat' ((first | apply Run_seq | apply Run_skip | apply Run_block | apply Run_blk | refine Run_exit rfl ?_ | apply Run_ret | apply Run_nil | apply Run_condK | apply Run_ops mixed | apply Run_opsX mixed | with_reducible refine PostV_open ?_ | simp (disch := omega) only [w64] | (refine CondK_split ?_ ?_ <;> intro hc <;> (try simp only [hc]) <;> try simp at hc) | (with_reducible refine And.intro ?_ ?_; (focus ((repeat' (with_reducible refine And.intro ?_ ?_)) <;> first | exact trivial | assumption | (simp; done) | (simp only [List.length_map] at *; omega) | omega | (simp [D.cells, D.ok, D.one, D.pt, D.pt1]; done)))) | (with_reducible intro x hx) | omega) <;> (try simp only [row2_len, c2, c3, rx, ry, Nat.reduceBEq, reduceIte, Nat.reduceAdd, binD, binInt, eqD, eqCell, eqCells, eqN, boolD, loadD, cond_true, fw]))
   refine hk ⟨i + 1, by omega, eq_step ht hx hy hxy⟩ _ _ (by dsimp only; omega) ?_
   dsimp only
   refine Ent_gc [] (by rfl) (by simp) (by simp [keptW]) (by simp [lk_hit, lk_miss, D.pt0, viewS_own', pull, pull2, pull1, pull0, idx_nil, gate, List.mem_cons, or_false, view0])
  ·have c3 : ((x.1 == y.1) && (x.2 == y.2)) = false := by rw [b2]; simpa using hxy
   rw [eq_no hx hy hxy]
   repeat' ((first | apply Run_seq | apply Run_skip | apply Run_block | apply Run_blk | refine Run_exit rfl ?_ | apply Run_ret | apply Run_nil | apply Run_condK | apply Run_ops mixed | apply Run_opsX mixed | with_reducible refine PostV_open ?_ | simp (disch := omega) only [w64, wu64, wu32, wu16, wu8, Int.tdiv_eq_ediv_of_nonneg, Int.tmod_eq_emod_of_nonneg] | (refine CondK_split ?_ ?_ <;> intro hc <;> (try simp only [hc]) <;> try simp at hc) | (with_reducible refine And.intro ?_ ?_; (focus ((repeat' (with_reducible refine And.intro ?_ ?_)) <;> first | exact trivial | assumption | (simp; done) | (simp only [List.length_map] at *; omega) | omega | (simp [D.cells, D.ok, D.one, D.pt, D.pt1]; done)))) | (with_reducible intro x hx) | omega) <;> (try simp only [row2_len, c2, c3, rx, ry, Nat.reduceBEq, reduceIte, Nat.reduceAdd, binD, binInt, eqD, eqCell, eqCells, eqN, boolD, loadD, D.pt0, D.norm1, cond_true, view, view2, view1, view0, ofRes, fw]))
 ·have c2 : ((i : Int) < (a.length : Int)) = False := by simp; omega
  rw [eq_end ht hlt hl]
  repeat' ((first | apply Run_seq | apply Run_skip | apply Run_block | apply Run_blk | refine Run_exit rfl ?_ | apply Run_ret | apply Run_nil | apply Run_condK | apply Run_ops mixed | apply Run_opsX mixed | with_reducible refine PostV_open ?_ | simp (disch := omega) only [w64, wu64, wu32, wu16, wu8, Int.tdiv_eq_ediv_of_nonneg, Int.tmod_eq_emod_of_nonneg] | (refine CondK_split ?_ ?_ <;> intro hc <;> (try simp only [hc]) <;> try simp at hc) | (with_reducible refine And.intro ?_ ?_; (focus ((repeat' (with_reducible refine And.intro ?_ ?_)) <;> first | exact trivial | assumption | (simp; done) | (simp only [List.length_map] at *; omega) | omega | (simp [D.cells, D.ok, D.one, D.pt, D.pt1]; done)))) | (with_reducible intro x hx) | omega) <;> (try simp only [c2, Nat.reduceBEq, reduceIte, binD, binInt, D.pt0, D.norm1, view, view2, view1, view0, ofRes, fw]))
theorem pw_step {α : Type} {R : α → α → Prop} (tr : ∀ a b c, R a b → R b c → R a c) {l : List α} {i : Nat} {x y : α} (h : (l.take (i + 1)).Pairwise R) (hx : l[i]? = some x) (hy : l[i + 1]? = some y) (hxy : R x y) : (l.take (i + 1 + 1)).Pairwise R := by
 have e1 : l.take (i + 1 + 1) = l.take (i + 1) ++ [y] := by rw [List.take_add_one (i := i + 1), hy]; rfl
 have e2 : l.take (i + 1) = l.take i ++ [x] := by rw [List.take_add_one, hx]; rfl
 rw [e1, List.pairwise_append]
 refine ⟨h, by simp, fun a ha b hb => ?_⟩
 simp at hb; subst hb
 rw [e2] at ha h
 rcases List.mem_append.1 ha with h' | h'
 ·exact tr _ _ _ ((List.pairwise_append.1 h).2.2 a h' x (by simp)) hxy
 ·simp at h'; subst h'; exact hxy
theorem pw_no {α : Type} {R : α → α → Prop} {l : List α} {i : Nat} {x y : α} (hx : l[i]? = some x) (hy : l[i + 1]? = some y) (hxy : ¬ R x y) : ¬ l.Pairwise R := fun h => by
 obtain ⟨h1, rfl⟩ := List.getElem?_eq_some_iff.1 hx
 obtain ⟨h2, rfl⟩ := List.getElem?_eq_some_iff.1 hy
 exact hxy (List.pairwise_iff_getElem.1 h i (i + 1) h1 h2 (Nat.lt_succ_self i))
theorem all_step {α : Type} {f : α → Bool} {l : List α} {i : Nat} {x : α} (h : (l.take i).all f = true) (hx : l[i]? = some x) (hf : f x = true) : (l.take (i + 1)).all f = true := by
 rw [List.take_add_one, hx]
 simp only [List.all_append, h, Option.toList_some, List.all_cons, hf, List.all_nil, Bool.and_self]
theorem all_no {α : Type} {f : α → Bool} {l : List α} {i : Nat} {x : α} (hx : l[i]? = some x) (hf : f x = false) : l.all f = false := by
 rw [List.all_eq_false]
 exact ⟨x, List.mem_of_getElem? hx, by simp [hf]⟩
def stampB (n : Int) : Bool := decide (0 ≤ n ∧ n < 158310720)
theorem stamp_p (n : Int) : PureD Try.prog 76 [.int .i64 n] (.bool (stampB n)) := by
 refine pureV Try.func76 low76 (by simp [c76]) ?_
 simp only [c76]
 repeat' ((first | apply Run_seq | apply Run_ret | apply Run_nil | apply Run_ops mixed | with_reducible refine PostV_open ?_ | (refine GuardK_split ?_ ?_ <;> intro hc <;> (try simp only [hc]) <;> try simp at hc) | (with_reducible refine And.intro ?_ ?_; (focus ((repeat' (with_reducible refine And.intro ?_ ?_)) <;> first | exact trivial | assumption | (simp; done) | (simp only [List.length_map] at *; omega) | omega | (simp [D.cells, D.ok, D.one, D.pt, D.pt1]; done)))) | (with_reducible intro x hx) | omega) <;> (try simp only [Nat.reduceBEq, argEnv, reduceIte, binD, binInt, pickD, D.pt0, D.norm1, cond_true, cond_false, view, view2, view1, view0, ofRes, fw]))
 all_goals (unfold stampB; simp; omega)
def risB (l : List Int) : Bool := decide (l.Pairwise fun a b => a < b)
def rowB (l : List Int) : Bool := (l.all stampB && risB l) && decide (l.length ≤ 50)
theorem evRow_p (l : List Int) (hl : l.length ≤ 140737488351232) : PureD Try.prog 79 [L (row1 .i64 l)] (.bool (rowB l)) := by
 refine pureV Try.func79 low79 (by simp [c79]) ?_
 simp only [c79]
 repeat' ((first | apply Run_seq | apply Run_skip | apply Run_block | apply Run_blk | refine Run_exit rfl ?_ | apply Run_ret | apply Run_nil | apply Run_condK | apply Run_ops mixed | with_reducible refine PostV_open ?_ | with_reducible refine ro_callV ?_ | simp (disch := omega) only [w64, wu64, wu32, wu16, wu8, Int.tdiv_eq_ediv_of_nonneg, Int.tmod_eq_emod_of_nonneg] | ((first | refine GuardK_split ?_ ?_ | refine CondK_split ?_ ?_) <;> intro hc <;> (try simp only [hc]) <;> try simp at hc) | (with_reducible refine And.intro ?_ ?_; (focus ((repeat' (with_reducible refine And.intro ?_ ?_)) <;> first | exact trivial | assumption | (simp; done) | (simp only [List.length_map] at *; omega) | omega | (simp [D.cells, D.ok, D.one, D.pt, D.pt1]; done)))) | (with_reducible intro x hx) | omega) <;> (try simp only [row1_len, Nat.reduceBEq, argEnv, lenD, fw]))
 refine Run_loop (ι := {i : Nat // i ≤ l.length ∧ (l.take i).all stampB = true ∧ (l.take i).Pairwise fun a b => a < b}) (fun i => ([(0, L (row1 .i64 l)), (5, L (row1 .i64 l)), (6, .int .i64 l.length), (7, .int .i64 i.1)], [])) (fun i => l.length - i.1) ⟨0, by simp⟩ ?_ ?_
 ·refine Ent_gc [] (by rfl) (by simp) (by simp [keptW]) (by simp [lk_hit, lk_miss, D.pt0, viewS_own', pull, pull2, pull1, pull0, idx_nil, gate, List.mem_cons, or_false, view0])
 rintro ⟨i, hi, ha, hp⟩ hk
 dsimp only at hk ⊢
 by_cases hlt : i < l.length
 ·have c2 : ((i : Int) < (l.length : Int)) = True := by simp; omega
  obtain ⟨x, hx⟩ : ∃ x, l[i]? = some x := ⟨_, List.getElem?_eq_getElem hlt⟩
  have rx := row1_get (k := .i64) hx
  have st := stamp_p x
  by_cases hs : stampB x = true
  ·rw [hs] at st
   cases i with
   | zero =>
    repeat' ((first | apply Run_seq | apply Run_skip | apply Run_block | apply Run_blk | refine Run_exit rfl ?_ | apply Run_ret | apply Run_nil | apply Run_condK | apply Run_ops mixed | with_reducible refine PostV_open ?_ | with_reducible refine ro_callV ?_ | refine CallV_pure (st) ?_ ?_ | simp (disch := omega) only [w64] | ((first | refine GuardK_split ?_ ?_ | refine CondK_split ?_ ?_) <;> intro hc <;> (try simp only [hc]) <;> try simp at hc) | (with_reducible refine And.intro ?_ ?_; (focus ((repeat' (with_reducible refine And.intro ?_ ?_)) <;> first | exact trivial | assumption | (simp; done) | (simp only [List.length_map] at *; omega) | omega | (simp [D.cells, D.ok, D.one, D.pt, D.pt1]; done)))) | (with_reducible intro x hx) | omega) <;> (try simp only [row1_len, c2, rx, Nat.reduceBEq, reduceIte, binD, binInt, okD, unD, pickD, loadD, D.pt, D.pt1, D.pt0, D.norm1, cond_false, view, view2, view1, view0, mapO, D.sc, D.sc1, D.sc2, fw]))
    refine hk ⟨1, by omega, all_step ha hx hs, by rw [List.take_add_one, hx]; simp⟩ _ _ (by dsimp only; omega) ?_
    dsimp only
    refine Ent_gc [] (by rfl) (by simp) (by simp [keptW]) (by simp [lk_hit, lk_miss, D.pt0, viewS_own', pull, pull2, pull1, pull0, idx_nil, gate, List.mem_cons, or_false, view0])
   | succ i =>
    obtain ⟨y, hy⟩ : ∃ y, l[i]? = some y := ⟨_, List.getElem?_eq_getElem (by omega)⟩
    have ry := row1_get (k := .i64) hy
    have c7 : (((i + 1 : Nat) : Int) > 0) = True := by rw [eq_iff_iff]; exact ⟨fun _ => trivial, fun _ => by omega⟩
    have c8 : (((i + 1 : Nat) : Int) - 1) = (i : Int) := by omega
    by_cases hyx : y < x
    ·have c9 : (y ≥ x) = False := by simp; omega
     repeat' ((first | apply Run_seq | apply Run_skip | apply Run_block | apply Run_blk | refine Run_exit rfl ?_ | apply Run_ret | apply Run_nil | apply Run_condK | apply Run_ops mixed | with_reducible refine PostV_open ?_ | with_reducible refine ro_callV ?_ | refine CallV_pure (st) ?_ ?_ | simp (disch := omega) only [w64] | ((first | refine GuardK_split ?_ ?_ | refine CondK_split ?_ ?_) <;> intro hc <;> (try simp only [hc]) <;> try simp at hc) | (with_reducible refine And.intro ?_ ?_; (focus ((repeat' (with_reducible refine And.intro ?_ ?_)) <;> first | exact trivial | assumption | (simp; done) | (simp only [List.length_map] at *; omega) | omega | (simp [D.cells, D.ok, D.one, D.pt, D.pt1]; done)))) | (with_reducible intro x hx) | omega) <;> (try simp only [row1_len, c2, c7, c8, c9, rx, ry, Nat.reduceBEq, reduceIte, binD, binInt, okD, unD, pickD, loadD, D.pt, D.pt1, D.pt0, D.norm1, cond_true, cond_false, view, view2, view1, view0, mapO, D.sc, D.sc1, D.sc2, fw]))
     refine hk ⟨i + 1 + 1, by omega, all_step ha hx hs, pw_step (R := fun a b : Int => a < b) (fun _ _ _ => Int.lt_trans) hp hy hx hyx⟩ _ _ (by dsimp only; omega) ?_
     dsimp only
     refine Ent_gc [] (by rfl) (by simp) (by simp [keptW]) (by simp [lk_hit, lk_miss, D.pt0, viewS_own', pull, pull2, pull1, pull0, idx_nil, gate, List.mem_cons, or_false, view0])
    ·have c9 : (y ≥ x) = True := by simp; omega
     have e : rowB l = false := by
      have : risB l = false := by simpa [risB] using pw_no hy hx hyx
      simp [rowB, this]
     rw [e]
     repeat' ((first | apply Run_seq | apply Run_skip | apply Run_block | apply Run_blk | refine Run_exit rfl ?_ | apply Run_ret | apply Run_nil | apply Run_condK | apply Run_ops mixed | with_reducible refine PostV_open ?_ | with_reducible refine ro_callV ?_ | refine CallV_pure (st) ?_ ?_ | simp (disch := omega) only [w64] | ((first | refine GuardK_split ?_ ?_ | refine CondK_split ?_ ?_) <;> intro hc <;> (try simp only [hc]) <;> try simp at hc) | (with_reducible refine And.intro ?_ ?_; (focus ((repeat' (with_reducible refine And.intro ?_ ?_)) <;> first | exact trivial | assumption | (simp; done) | (simp only [List.length_map] at *; omega) | omega | (simp [D.cells, D.ok, D.one, D.pt, D.pt1]; done)))) | (with_reducible intro x hx) | omega) <;> (try simp only [row1_len, c2, c7, c8, c9, rx, ry, Nat.reduceBEq, reduceIte, binD, binInt, okD, unD, pickD, loadD, D.pt, D.pt1, D.pt0, D.norm1, cond_true, cond_false, view, view2, view1, view0, mapO, D.sc, D.sc1, D.sc2, ofRes, fw]))
  ·have hs' : stampB x = false := by simpa using hs
   rw [hs'] at st
   have e : rowB l = false := by simp only [rowB, all_no hx hs', Bool.false_and]
   rw [e]
   repeat' ((first | apply Run_seq | apply Run_skip | apply Run_block | apply Run_blk | refine Run_exit rfl ?_ | apply Run_ret | apply Run_nil | apply Run_condK | apply Run_ops mixed | with_reducible refine PostV_open ?_ | with_reducible refine ro_callV ?_ | refine CallV_pure (st) ?_ ?_ | simp (disch := omega) only [w64, wu64, wu32, wu16, wu8, Int.tdiv_eq_ediv_of_nonneg, Int.tmod_eq_emod_of_nonneg] | ((first | refine GuardK_split ?_ ?_ | refine CondK_split ?_ ?_) <;> intro hc <;> (try simp only [hc]) <;> try simp at hc) | (with_reducible refine And.intro ?_ ?_; (focus ((repeat' (with_reducible refine And.intro ?_ ?_)) <;> first | exact trivial | assumption | (simp; done) | (simp only [List.length_map] at *; omega) | omega | (simp [D.cells, D.ok, D.one, D.pt, D.pt1]; done)))) | (with_reducible intro x hx) | omega) <;> (try simp only [row1_len, c2, rx, Nat.reduceBEq, reduceIte, binD, binInt, okD, unD, pickD, loadD, D.pt, D.pt1, D.pt0, D.norm1, cond_true, view, view2, view1, view0, mapO, D.sc, D.sc1, D.sc2, ofRes, fw]))
 ·have c2 : ((i : Int) < (l.length : Int)) = False := by simp; omega
  obtain rfl : i = l.length := by omega
  rw [List.take_length] at ha hp
  have hr : risB l = true := by simpa [risB] using hp
  repeat' ((first | apply Run_seq | apply Run_skip | apply Run_block | apply Run_blk | refine Run_exit rfl ?_ | apply Run_ret | apply Run_nil | apply Run_condK | apply Run_ops mixed | with_reducible refine PostV_open ?_ | with_reducible refine ro_callV ?_ | simp (disch := omega) only [w64, wu64, wu32, wu16, wu8, Int.tdiv_eq_ediv_of_nonneg, Int.tmod_eq_emod_of_nonneg] | ((first | refine GuardK_split ?_ ?_ | refine CondK_split ?_ ?_) <;> intro hc <;> (try simp only [hc]) <;> try simp at hc) | (with_reducible refine And.intro ?_ ?_; (focus ((repeat' (with_reducible refine And.intro ?_ ?_)) <;> first | exact trivial | assumption | (simp; done) | (simp only [List.length_map] at *; omega) | omega | (simp [D.cells, D.ok, D.one, D.pt, D.pt1]; done)))) | (with_reducible intro x hx) | omega) <;> (try simp only [row1_len, c2, Nat.reduceBEq, reduceIte, binD, binInt, lenD, D.pt0, D.norm1, view, view2, view1, view0, ofRes, fw]))
  all_goals (unfold rowB; rw [ha, hr]; simp; try omega)
def chB1 (c : Int × Int × Int) : Bool := stampB c.2.1 && decide (0 ≤ c.2.2 ∧ c.2.2 ≤ 10080)
def chB (l : List (Int × Int × Int)) : Bool := l.all chB1 && rowB (l.map fun c => c.1)
theorem changes_p (l : List (Int × Int × Int)) (hl : l.length ≤ 14073748835123) : PureD Try.prog 80 [L (row3 l)] (.bool (chB l)) := by
 refine pureV Try.func80 low80 (by simp [c80]) ?_
 simp only [c80]
 repeat' ((first | apply Run_seq | apply Run_skip | apply Run_block | apply Run_blk | refine Run_exit rfl ?_ | apply Run_ret | apply Run_nil | apply Run_condK | apply Run_ops mixed | with_reducible refine PostV_open ?_ | with_reducible refine ro_callV ?_ | simp (disch := omega) only [w64, wu64, wu32, wu16, wu8, Int.tdiv_eq_ediv_of_nonneg, Int.tmod_eq_emod_of_nonneg] | ((first | refine GuardK_split ?_ ?_ | refine CondK_split ?_ ?_) <;> intro hc <;> (try simp only [hc]) <;> try simp at hc) | (with_reducible refine And.intro ?_ ?_; (focus ((repeat' (with_reducible refine And.intro ?_ ?_)) <;> first | exact trivial | assumption | (simp; done) | (simp only [List.length_map] at *; omega) | omega | (simp [D.cells, D.ok, D.one, D.pt, D.pt1]; done)))) | (with_reducible intro x hx) | omega) <;> (try simp only [row3_len, Nat.reduceBEq, argEnv, lenD, fw]))
 refine Run_ent (Ent_acc (t := 3) (b := true) 1 true (by decide) rfl) ?_
 refine Run_loop (ι := {i : Nat // i ≤ l.length ∧ (l.take i).all chB1 = true}) (fun i => ([(3, .own 0 0 i.1 i.1 1 none), (6, L (row3 l)), (7, .int .i64 l.length), (8, .int .i64 i.1)], [acc true 1 true (row1 .i64 ((l.take i.1).map fun c => c.1))])) (fun i => l.length - i.1) ⟨0, by simp⟩ ?_ ?_
 ·simp only [List.take_zero, List.map_nil, row1]
  refine Ent_gc [0] (by rfl) (by simp) (by simp [keptW, ObKW, ObW, imp_self, acc_real, acc_nl, acc_pure, acc_fz, acc_sz, acc_rows, acc_spare, pullOb]) (by simp [lk_hit, lk_miss, D.pt0, viewS_own', pull, pull2, pull1, pull0, idx_hit, gate, List.mem_cons, or_false, view0])
 rintro ⟨i, hi, ha⟩ hk
 dsimp only at hk ⊢
 by_cases hlt : i < l.length
 ·have c2 : ((i : Int) < (l.length : Int)) = True := by simp; omega
  obtain ⟨x, hx⟩ : ∃ x, l[i]? = some x := ⟨_, List.getElem?_eq_getElem hlt⟩
  have rx := row3_get hx
  have st := stamp_p x.2.1
  by_cases hs : chB1 x = true
  ·have hs1 : stampB x.2.1 = true := by simp only [chB1, Bool.and_eq_true] at hs; exact hs.1
   have hs2 : 0 ≤ x.2.2 ∧ x.2.2 ≤ 10080 := by simpa [chB1, hs1] using hs
   rw [hs1] at st
   have c3 : (x.2.2 < 0) = False := by simp; omega
   have c4 : (x.2.2 > 10080) = False := by simp; omega
   have e1 : row1 .i64 ((l.take (i + 1)).map fun c => c.1) = row1 .i64 ((l.take i).map fun c => c.1) ++ [[.int .i64 x.1]] := by
    rw [List.take_add_one, hx]; simp [row1]
   have e2 : (row1 .i64 ((l.take i).map fun c => c.1)).length = i := by simp [row1]; omega
   generalize row1 .i64 ((l.take i).map fun c => c.1) = R at e1 e2 ⊢
   repeat' ((first | apply Run_seq | apply Run_skip | apply Run_block | apply Run_blk | refine Run_exit rfl ?_ | apply Run_ret | apply Run_nil | apply Run_condK | apply Run_ops mixed | with_reducible refine PostV_open ?_ | with_reducible refine ro_callV ?_ | refine CallV_pure (st) ?_ ?_ | simp (disch := omega) only [w64] | ((first | refine GuardK_split ?_ ?_ | refine CondK_split ?_ ?_) <;> intro hc <;> (try simp only [hc]) <;> try simp at hc) | (with_reducible refine And.intro ?_ ?_; (focus ((repeat' (with_reducible refine And.intro ?_ ?_)) <;> first | exact trivial | assumption | (simp; done) | (simp only [List.length_map] at *; omega) | omega | (simp [D.cells, D.ok, D.one, D.pt, D.pt1]; done)))) | (with_reducible intro x hx) | omega) <;> (try simp only [row3_len, c2, c3, c4, rx, e2, Nat.reduceBEq, reduceIte, Nat.reduceAdd, Nat.reduceLeDiff, reduceCtorEq, binD, binInt, okD, unD, pickD, faddrD, loadD, splice, D.cells, D.ok, D.one, D.pt, D.pt1, D.pt0, D.norm1, cond_false, ne_eq, view, view2, view1, view0, mapO, D.sc, D.sc1, D.sc2, fw]))
   refine hk ⟨i + 1, by omega, all_step ha hx hs⟩ _ _ (by dsimp only; omega) ?_
   dsimp only
   rw [e1]
   refine Ent_gc [0] (by rfl) (by simp) (by simp [keptW, ObKW, ObW, imp_self, acc_real, acc_nl, acc_pure, acc_fz, acc_sz, acc_rows, acc_spare, pullOb]) (by simp [lk_hit, lk_miss, D.pt0, viewS_own', pull, pull2, pull1, pull0, idx_hit, gate, List.mem_cons, or_false, view0])
  ·have hs' : chB1 x = false := by simpa using hs
   have e : chB l = false := by simp only [chB, all_no hx hs', Bool.false_and]
   rw [e]
   by_cases hs1 : stampB x.2.1 = true
   ·rw [hs1] at st
    by_cases hs3 : x.2.2 < 0
    ·have c3 : (x.2.2 < 0) = True := by simp; omega
     repeat' ((first | apply Run_seq | apply Run_skip | apply Run_block | apply Run_blk | refine Run_exit rfl ?_ | apply Run_ret | apply Run_nil | apply Run_condK | apply Run_ops mixed | with_reducible refine PostV_open ?_ | with_reducible refine ro_callV ?_ | refine CallV_pure (st) ?_ ?_ | simp (disch := omega) only [w64, wu64, wu32, wu16, wu8, Int.tdiv_eq_ediv_of_nonneg, Int.tmod_eq_emod_of_nonneg] | ((first | refine GuardK_split ?_ ?_ | refine CondK_split ?_ ?_) <;> intro hc <;> (try simp only [hc]) <;> try simp at hc) | (with_reducible refine And.intro ?_ ?_; (focus ((repeat' (with_reducible refine And.intro ?_ ?_)) <;> first | exact trivial | assumption | (simp; done) | (simp only [List.length_map] at *; omega) | omega | (simp [D.cells, D.ok, D.one, D.pt, D.pt1]; done)))) | (with_reducible intro x hx) | omega) <;> (try simp only [row3_len, c2, c3, rx, Nat.reduceBEq, reduceIte, Nat.reduceAdd, reduceCtorEq, binD, binInt, okD, unD, pickD, faddrD, loadD, splice, D.cells, D.ok, D.one, D.pt, D.pt1, D.pt0, D.norm1, cond_true, cond_false, ne_eq, view, view2, view1, view0, mapO, D.sc, D.sc1, D.sc2, ofRes, fw]))
    ·have c3 : (x.2.2 < 0) = False := by simp; omega
     have c4 : (x.2.2 > 10080) = True := by
      simp [chB1, hs1] at hs'
      simp; omega
     repeat' ((first | apply Run_seq | apply Run_skip | apply Run_block | apply Run_blk | refine Run_exit rfl ?_ | apply Run_ret | apply Run_nil | apply Run_condK | apply Run_ops mixed | with_reducible refine PostV_open ?_ | with_reducible refine ro_callV ?_ | refine CallV_pure (st) ?_ ?_ | simp (disch := omega) only [w64, wu64, wu32, wu16, wu8, Int.tdiv_eq_ediv_of_nonneg, Int.tmod_eq_emod_of_nonneg] | ((first | refine GuardK_split ?_ ?_ | refine CondK_split ?_ ?_) <;> intro hc <;> (try simp only [hc]) <;> try simp at hc) | (with_reducible refine And.intro ?_ ?_; (focus ((repeat' (with_reducible refine And.intro ?_ ?_)) <;> first | exact trivial | assumption | (simp; done) | (simp only [List.length_map] at *; omega) | omega | (simp [D.cells, D.ok, D.one, D.pt, D.pt1]; done)))) | (with_reducible intro x hx) | omega) <;> (try simp only [row3_len, c2, c3, c4, rx, Nat.reduceBEq, reduceIte, Nat.reduceAdd, reduceCtorEq, binD, binInt, okD, unD, pickD, faddrD, loadD, splice, D.cells, D.ok, D.one, D.pt, D.pt1, D.pt0, D.norm1, cond_false, ne_eq, view, view2, view1, view0, mapO, D.sc, D.sc1, D.sc2, ofRes, fw]))
   ·have hs1' : stampB x.2.1 = false := by simpa using hs1
    rw [hs1'] at st
    repeat' ((first | apply Run_seq | apply Run_skip | apply Run_block | apply Run_blk | refine Run_exit rfl ?_ | apply Run_ret | apply Run_nil | apply Run_condK | apply Run_ops mixed | with_reducible refine PostV_open ?_ | with_reducible refine ro_callV ?_ | refine CallV_pure (st) ?_ ?_ | simp (disch := omega) only [w64, wu64, wu32, wu16, wu8, Int.tdiv_eq_ediv_of_nonneg, Int.tmod_eq_emod_of_nonneg] | ((first | refine GuardK_split ?_ ?_ | refine CondK_split ?_ ?_) <;> intro hc <;> (try simp only [hc]) <;> try simp at hc) | (with_reducible refine And.intro ?_ ?_; (focus ((repeat' (with_reducible refine And.intro ?_ ?_)) <;> first | exact trivial | assumption | (simp; done) | (simp only [List.length_map] at *; omega) | omega | (simp [D.cells, D.ok, D.one, D.pt, D.pt1]; done)))) | (with_reducible intro x hx) | omega) <;> (try simp only [row3_len, c2, rx, Nat.reduceBEq, reduceIte, Nat.reduceAdd, reduceCtorEq, binD, binInt, okD, unD, pickD, faddrD, loadD, splice, D.cells, D.ok, D.one, D.pt, D.pt1, D.pt0, D.norm1, cond_true, ne_eq, view, view2, view1, view0, mapO, D.sc, D.sc1, D.sc2, ofRes, fw]))
 ·have c2 : ((i : Int) < (l.length : Int)) = False := by simp; omega
  obtain rfl : i = l.length := by omega
  rw [List.take_length] at ha ⊢
  have rp := evRow_p (l.map fun c => c.1) (by simp; omega)
  have e1 : (row1 .i64 (l.map fun c => c.1)).length = l.length := by simp [row1]
  have e : chB l = rowB (l.map fun c => c.1) := by unfold chB; rw [ha, Bool.true_and]
  rw [e]
  generalize row1 .i64 (l.map fun c => c.1) = R at rp e1 ⊢
  repeat' ((first | apply Run_seq | apply Run_skip | apply Run_block | apply Run_blk | refine Run_exit rfl ?_ | apply Run_ret | apply Run_nil | apply Run_condK | apply Run_ops mixed | with_reducible refine PostV_open ?_ | with_reducible refine ro_callV ?_ | refine CallV_pure (rp) ?_ ?_ | simp (disch := omega) only [w64, wu64, wu32, wu16, wu8, Int.tdiv_eq_ediv_of_nonneg, Int.tmod_eq_emod_of_nonneg] | ((first | refine GuardK_split ?_ ?_ | refine CondK_split ?_ ?_) <;> intro hc <;> (try simp only [hc]) <;> try simp at hc) | (with_reducible refine And.intro ?_ ?_; (focus ((repeat' (with_reducible refine And.intro ?_ ?_)) <;> first | exact trivial | assumption | (simp; done) | (simp only [List.length_map] at *; omega) | omega | (simp [D.cells, D.ok, D.one, D.pt, D.pt1]; done)))) | (with_reducible intro x hx) | omega) <;> (try simp only [c2, e1, Nat.reduceBEq, reduceIte, binD, binInt, D.pt, D.pt1, D.pt0, D.norm1, view, view2, view1, view0, mapO, D.sc, D.sc1, D.sc2, ofRes, fw]))
end Go.Proofs.Ytoleaiaeghbffaa

namespace Go.Proofs.Ytoleaiaeghbffaa
open Go Go.Vi


theorem ruleLess_p (a b : Int) : PureD Try.prog 107 [.int .i64 a, .int .i64 b] (.bool (decide (a < b))) := by
 refine pureV Try.func107 low107 (by simp [c107]) ?_
 simp only [c107]
 repeat' ((first | apply Run_seq | apply Run_ret | apply Run_nil | apply Run_ops mixed | with_reducible refine PostV_open ?_ | (with_reducible refine And.intro ?_ ?_; (focus ((repeat' (with_reducible refine And.intro ?_ ?_)) <;> first | exact trivial | assumption | (simp; done) | (simp only [List.length_map] at *; omega) | omega | (simp [D.cells, D.ok, D.one, D.pt, D.pt1]; done)))) | (with_reducible intro x hx) | omega) <;> (try simp only [Nat.reduceBEq, argEnv, reduceIte, binD, binInt, D.pt0, D.norm1, view, view2, view1, view0, ofRes, fw]))
def ltD (a b : Int × Int) : Prop := a.1 < b.1 ∨ a.1 = b.1 ∧ a.2 < b.2
instance (a b : Int × Int) : Decidable (ltD a b) := inferInstanceAs (Decidable (_ ∨ _))
theorem ltD_trans (a b c : Int × Int) (h : ltD a b) (h' : ltD b c) : ltD a c := by unfold ltD at *; omega
theorem dayLess_p (a b : Int × Int) : PureD Try.prog 109 [.agg [.int .i64 a.1, .int .i64 a.2], .agg [.int .i64 b.1, .int .i64 b.2]] (.bool (decide (ltD a b))) := by
 refine pureV Try.func109 low109 (by simp [c109]) ?_
 simp only [c109]
 repeat' ((first | apply Run_seq | apply Run_ret | apply Run_nil | apply Run_ops mixed | with_reducible refine PostV_open ?_ | (refine GuardK_split ?_ ?_ <;> intro hc <;> (try simp only [hc]) <;> try simp at hc) | (with_reducible refine And.intro ?_ ?_; (focus ((repeat' (with_reducible refine And.intro ?_ ?_)) <;> first | exact trivial | assumption | (simp; done) | (simp only [List.length_map] at *; omega) | omega | (simp [D.cells, D.ok, D.one, D.pt, D.pt1]; done)))) | (with_reducible intro x hx) | omega) <;> (try simp only [Nat.reduceBEq, argEnv, reduceIte, Nat.reduceAdd, reduceCtorEq, binD, binInt, pickD, faddrD, loadD, D.cells, D.ok, D.one, D.pt1, D.pt0, D.norm1, cond_true, cond_false, ne_eq, view, view2, view1, view0, ofRes, fw]))
 all_goals (rw [Bool.eq_iff_iff]; simp [ltD, *]; try omega)
theorem risI_p (l : List Int) (hl : l.length ≤ 140737488351232) : PureD Try.prog 106 [L (row1 .i64 l), .fn 107 []] (.bool (risB l)) := by
 refine pureV Try.func106 low106 (by simp [c106]) ?_
 simp only [c106]
 repeat' ((first | apply Run_seq | apply Run_skip | apply Run_block | apply Run_blk | refine Run_exit rfl ?_ | apply Run_ret | apply Run_nil | apply Run_condK | apply Run_ops mixed | apply Run_opsX mixed | with_reducible refine PostV_open ?_ | with_reducible refine ro_callVX ?_ | simp (disch := omega) only [w64, wu64, wu32, wu16, wu8, Int.tdiv_eq_ediv_of_nonneg, Int.tmod_eq_emod_of_nonneg] | (refine CondK_split ?_ ?_ <;> intro hc <;> (try simp only [hc]) <;> try simp at hc) | (with_reducible refine And.intro ?_ ?_; (focus ((repeat' (with_reducible refine And.intro ?_ ?_)) <;> first | exact trivial | assumption | (simp; done) | (simp only [List.length_map] at *; omega) | omega | (simp [D.cells, D.ok, D.one, D.pt, D.pt1]; done)))) | (with_reducible intro x hx) | omega) <;> (try simp only [argEnv, fw]))
 refine Run_loop (ι := {i : Nat // (i + 1 ≤ l.length ∨ i = 0) ∧ (l.take (i + 1)).Pairwise fun a b => a < b}) (fun i => ([(0, L (row1 .i64 l)), (1, .fn 107 []), (5, .int .i64 (i.1 + 1 : Nat))], [])) (fun i => l.length - i.1) ⟨0, .inr rfl, by cases l <;> simp⟩ ?_ ?_
 ·refine Ent_gc [] (by rfl) (by simp) (by simp [keptW]) (by simp [lk_hit, lk_miss, D.pt0, viewS_own', pull, pull2, pull1, pull0, idx_nil, gate, List.mem_cons, or_false, view0, mapO])
 rintro ⟨i, hi, hp⟩ hk
 dsimp only at hk ⊢
 by_cases hlt : i + 1 < l.length
 ·have c2 : (((i + 1 : Nat) : Int) < (l.length : Int)) = True := by rw [eq_iff_iff]; exact ⟨fun _ => trivial, fun _ => by omega⟩
  obtain ⟨x, hx⟩ : ∃ x, l[i + 1]? = some x := ⟨_, List.getElem?_eq_getElem hlt⟩
  obtain ⟨y, hy⟩ : ∃ y, l[i]? = some y := ⟨_, List.getElem?_eq_getElem (by omega)⟩
  have rx := row1_get (k := .i64) hx
  have ry := row1_get (k := .i64) hy
  have c8 : (((i + 1 : Nat) : Int) - 1) = (i : Int) := by omega
  have rl := ruleLess_p y x
  by_cases hyx : y < x
  ·have c9 : decide (y < x) = true := by simpa using hyx
   rw [c9] at rl
   repeat' ((first | apply Run_seq | apply Run_skip | apply Run_block | apply Run_blk | refine Run_exit rfl ?_ | apply Run_ret | apply Run_nil | apply Run_condK | apply Run_ops mixed | apply Run_opsX mixed | with_reducible refine PostV_open ?_ | with_reducible refine ro_callVX ?_ | refine CallV_pure (rl) ?_ ?_ | simp (disch := omega) only [w64] | (refine CondK_split ?_ ?_ <;> intro hc <;> (try simp only [hc]) <;> try simp at hc) | (with_reducible refine And.intro ?_ ?_; (focus ((repeat' (with_reducible refine And.intro ?_ ?_)) <;> first | exact trivial | assumption | (simp; done) | (simp only [List.length_map] at *; omega) | omega | (simp [D.cells, D.ok, D.one, D.pt, D.pt1]; done)))) | (with_reducible intro x hx) | omega) <;> (try simp only [row1_len, c2, c8, rx, ry, Nat.reduceBEq, reduceIte, binD, binInt, binStr, okD, unD, lenD, loadD, D.pt, D.pt1, D.pt0, D.norm1, Int.reduceNeg, IntKind.bits, view, view2, view1, view0, mapO, D.sc, D.sc1, D.sc2, fw]))
   refine hk ⟨i + 1, .inl (by omega), pw_step (R := fun a b : Int => a < b) (fun _ _ _ => Int.lt_trans) hp hy hx hyx⟩ _ _ (by dsimp only; omega) ?_
   dsimp only
   refine Ent_gc [] (by rfl) (by simp) (by simp [keptW]) (by simp [lk_hit, lk_miss, D.pt0, viewS_own', pull, pull2, pull1, pull0, idx_nil, gate, List.mem_cons, or_false, view0, mapO])
  ·have c9 : decide (y < x) = false := by simpa using hyx
   rw [c9] at rl
   have e : risB l = false := by simpa [risB] using pw_no hy hx hyx
   rw [e]
   repeat' ((first | apply Run_seq | apply Run_skip | apply Run_block | apply Run_blk | refine Run_exit rfl ?_ | apply Run_ret | apply Run_nil | apply Run_condK | apply Run_ops mixed | apply Run_opsX mixed | with_reducible refine PostV_open ?_ | with_reducible refine ro_callVX ?_ | refine CallV_pure (rl) ?_ ?_ | simp (disch := omega) only [w64] | (refine CondK_split ?_ ?_ <;> intro hc <;> (try simp only [hc]) <;> try simp at hc) | (with_reducible refine And.intro ?_ ?_; (focus ((repeat' (with_reducible refine And.intro ?_ ?_)) <;> first | exact trivial | assumption | (simp; done) | (simp only [List.length_map] at *; omega) | omega | (simp [D.cells, D.ok, D.one, D.pt, D.pt1]; done)))) | (with_reducible intro x hx) | omega) <;> (try simp only [row1_len, c2, c8, rx, ry, Nat.reduceBEq, reduceIte, binD, binInt, binStr, okD, unD, lenD, loadD, D.pt, D.pt1, D.pt0, D.norm1, Int.reduceNeg, IntKind.bits, view, view2, view1, view0, mapO, D.sc, D.sc1, D.sc2, ofRes, fw]))
 ·have c2 : (((i + 1 : Nat) : Int) < (l.length : Int)) = False := by rw [eq_iff_iff]; exact ⟨fun _ => by omega, False.elim⟩
  rw [List.take_of_length_le (by omega)] at hp
  have e : risB l = true := by simpa [risB] using hp
  rw [e]
  repeat' ((first | apply Run_seq | apply Run_skip | apply Run_block | apply Run_blk | refine Run_exit rfl ?_ | apply Run_ret | apply Run_nil | apply Run_condK | apply Run_ops mixed | apply Run_opsX mixed | with_reducible refine PostV_open ?_ | with_reducible refine ro_callVX ?_ | simp (disch := omega) only [w64, wu64, wu32, wu16, wu8, Int.tdiv_eq_ediv_of_nonneg, Int.tmod_eq_emod_of_nonneg] | (refine CondK_split ?_ ?_ <;> intro hc <;> (try simp only [hc]) <;> try simp at hc) | (with_reducible refine And.intro ?_ ?_; (focus ((repeat' (with_reducible refine And.intro ?_ ?_)) <;> first | exact trivial | assumption | (simp; done) | (simp only [List.length_map] at *; omega) | omega | (simp [D.cells, D.ok, D.one, D.pt, D.pt1]; done)))) | (with_reducible intro x hx) | omega) <;> (try simp only [row1_len, c2, Nat.reduceBEq, reduceIte, binD, binInt, lenD, D.pt0, D.norm1, view, view2, view1, view0, ofRes, fw]))
def risD (l : List (Int × Int)) : Bool := decide (l.Pairwise ltD)
theorem risD_p (l : List (Int × Int)) (hl : l.length ≤ 140737488351232) : PureD Try.prog 108 [L (row2 .i64 .i64 l), .fn 109 []] (.bool (risD l)) := by
 refine pureV Try.func108 low108 (by simp [c108]) ?_
 simp only [c108]
 repeat' ((first | apply Run_seq | apply Run_skip | apply Run_block | apply Run_blk | refine Run_exit rfl ?_ | apply Run_ret | apply Run_nil | apply Run_condK | apply Run_ops mixed | apply Run_opsX mixed | with_reducible refine PostV_open ?_ | with_reducible refine ro_callVX ?_ | simp (disch := omega) only [w64, wu64, wu32, wu16, wu8, Int.tdiv_eq_ediv_of_nonneg, Int.tmod_eq_emod_of_nonneg] | (refine CondK_split ?_ ?_ <;> intro hc <;> (try simp only [hc]) <;> try simp at hc) | (with_reducible refine And.intro ?_ ?_; (focus ((repeat' (with_reducible refine And.intro ?_ ?_)) <;> first | exact trivial | assumption | (simp; done) | (simp only [List.length_map] at *; omega) | omega | (simp [D.cells, D.ok, D.one, D.pt, D.pt1]; done)))) | (with_reducible intro x hx) | omega) <;> (try simp only [argEnv, fw]))
 refine Run_loop (ι := {i : Nat // (i + 1 ≤ l.length ∨ i = 0) ∧ (l.take (i + 1)).Pairwise ltD}) (fun i => ([(0, L (row2 .i64 .i64 l)), (1, .fn 109 []), (5, .int .i64 (i.1 + 1 : Nat))], [])) (fun i => l.length - i.1) ⟨0, .inr rfl, by cases l <;> simp⟩ ?_ ?_
 ·refine Ent_gc [] (by rfl) (by simp) (by simp [keptW]) (by simp [lk_hit, lk_miss, D.pt0, viewS_own', pull, pull2, pull1, pull0, idx_nil, gate, List.mem_cons, or_false, view0, mapO])
 rintro ⟨i, hi, hp⟩ hk
 dsimp only at hk ⊢
 by_cases hlt : i + 1 < l.length
 ·have c2 : (((i + 1 : Nat) : Int) < (l.length : Int)) = True := by rw [eq_iff_iff]; exact ⟨fun _ => trivial, fun _ => by omega⟩
  obtain ⟨x, hx⟩ : ∃ x, l[i + 1]? = some x := ⟨_, List.getElem?_eq_getElem hlt⟩
  obtain ⟨y, hy⟩ : ∃ y, l[i]? = some y := ⟨_, List.getElem?_eq_getElem (by omega)⟩
  have rx := row2_get (k := .i64) (m := .i64) hx
  have ry := row2_get (k := .i64) (m := .i64) hy
  have c8 : (((i + 1 : Nat) : Int) - 1) = (i : Int) := by omega
  have rl := dayLess_p y x
  by_cases hyx : ltD y x
  ·have c9 : decide (ltD y x) = true := by simpa using hyx
   rw [c9] at rl
   repeat' ((first | apply Run_seq | apply Run_skip | apply Run_block | apply Run_blk | refine Run_exit rfl ?_ | apply Run_ret | apply Run_nil | apply Run_condK | apply Run_ops mixed | apply Run_opsX mixed | with_reducible refine PostV_open ?_ | with_reducible refine ro_callVX ?_ | refine CallV_pure (rl) ?_ ?_ | simp (disch := omega) only [w64] | (refine CondK_split ?_ ?_ <;> intro hc <;> (try simp only [hc]) <;> try simp at hc) | (with_reducible refine And.intro ?_ ?_; (focus ((repeat' (with_reducible refine And.intro ?_ ?_)) <;> first | exact trivial | assumption | (simp; done) | (simp only [List.length_map] at *; omega) | omega | (simp [D.cells, D.ok, D.one, D.pt, D.pt1]; done)))) | (with_reducible intro x hx) | omega) <;> (try simp only [row2_len, c2, c8, rx, ry, Nat.reduceBEq, reduceIte, Nat.reduceAdd, binD, binInt, binStr, okD, unD, lenD, loadD, D.pt, D.pt1, D.pt0, D.norm1, Int.reduceNeg, IntKind.bits, view, view2, view1, view0, mapO, D.sc, D.sc1, D.sc2, fw]))
   refine hk ⟨i + 1, .inl (by omega), pw_step ltD_trans hp hy hx hyx⟩ _ _ (by dsimp only; omega) ?_
   dsimp only
   refine Ent_gc [] (by rfl) (by simp) (by simp [keptW]) (by simp [lk_hit, lk_miss, D.pt0, viewS_own', pull, pull2, pull1, pull0, idx_nil, gate, List.mem_cons, or_false, view0, mapO])
  ·have c9 : decide (ltD y x) = false := by simpa using hyx
   rw [c9] at rl
   have e : risD l = false := by simpa [risD] using pw_no hy hx hyx
   rw [e]
   repeat' ((first | apply Run_seq | apply Run_skip | apply Run_block | apply Run_blk | refine Run_exit rfl ?_ | apply Run_ret | apply Run_nil | apply Run_condK | apply Run_ops mixed | apply Run_opsX mixed | with_reducible refine PostV_open ?_ | with_reducible refine ro_callVX ?_ | refine CallV_pure (rl) ?_ ?_ | simp (disch := omega) only [w64] | (refine CondK_split ?_ ?_ <;> intro hc <;> (try simp only [hc]) <;> try simp at hc) | (with_reducible refine And.intro ?_ ?_; (focus ((repeat' (with_reducible refine And.intro ?_ ?_)) <;> first | exact trivial | assumption | (simp; done) | (simp only [List.length_map] at *; omega) | omega | (simp [D.cells, D.ok, D.one, D.pt, D.pt1]; done)))) | (with_reducible intro x hx) | omega) <;> (try simp only [row2_len, c2, c8, rx, ry, Nat.reduceBEq, reduceIte, Nat.reduceAdd, binD, binInt, binStr, okD, unD, lenD, loadD, D.pt, D.pt1, D.pt0, D.norm1, Int.reduceNeg, IntKind.bits, view, view2, view1, view0, mapO, D.sc, D.sc1, D.sc2, ofRes, fw]))
 ·have c2 : (((i + 1 : Nat) : Int) < (l.length : Int)) = False := by rw [eq_iff_iff]; exact ⟨fun _ => by omega, False.elim⟩
  rw [List.take_of_length_le (by omega)] at hp
  have e : risD l = true := by simpa [risD] using hp
  rw [e]
  repeat' ((first | apply Run_seq | apply Run_skip | apply Run_block | apply Run_blk | refine Run_exit rfl ?_ | apply Run_ret | apply Run_nil | apply Run_condK | apply Run_ops mixed | apply Run_opsX mixed | with_reducible refine PostV_open ?_ | with_reducible refine ro_callVX ?_ | simp (disch := omega) only [w64, wu64, wu32, wu16, wu8, Int.tdiv_eq_ediv_of_nonneg, Int.tmod_eq_emod_of_nonneg] | (refine CondK_split ?_ ?_ <;> intro hc <;> (try simp only [hc]) <;> try simp at hc) | (with_reducible refine And.intro ?_ ?_; (focus ((repeat' (with_reducible refine And.intro ?_ ?_)) <;> first | exact trivial | assumption | (simp; done) | (simp only [List.length_map] at *; omega) | omega | (simp [D.cells, D.ok, D.one, D.pt, D.pt1]; done)))) | (with_reducible intro x hx) | omega) <;> (try simp only [row2_len, c2, Nat.reduceBEq, reduceIte, binD, binInt, lenD, D.pt0, D.norm1, view, view2, view1, view0, ofRes, fw]))
/-- A number of a rule's row. -/
def numB (most : Int) (below : Bool) (n : Int) : Bool := decide (n ≠ 0 ∧ n ≤ most ∧ -most ≤ n) && (below || decide (0 ≤ n))
def rrowB (most : Int) (below : Bool) (l : List Int) : Bool := l.all (numB most below) && risB l
theorem ruleRow_p (l : List Int) (most : Int) (below : Bool) (hm : 0 ≤ most) (hm' : most ≤ 1000) (hl : l.length ≤ 140737488351232) : PureD Try.prog 99 [L (row1 .i64 l), .int .i64 most, .bool below] (.bool (rrowB most below l)) := by
 refine pureV Try.func99 low99 (by simp [c99]) ?_
 simp only [c99]
 repeat' ((first | apply Run_seq | apply Run_skip | apply Run_block | apply Run_blk | refine Run_exit rfl ?_ | apply Run_ret | apply Run_nil | apply Run_condK | apply Run_ops mixed | with_reducible refine PostV_open ?_ | with_reducible refine ro_callV ?_ | simp (disch := omega) only [w64, wu64, wu32, wu16, wu8, Int.tdiv_eq_ediv_of_nonneg, Int.tmod_eq_emod_of_nonneg] | ((first | refine GuardK_split ?_ ?_ | refine CondK_split ?_ ?_) <;> intro hc <;> (try simp only [hc]) <;> try simp at hc) | (with_reducible refine And.intro ?_ ?_; (focus ((repeat' (with_reducible refine And.intro ?_ ?_)) <;> first | exact trivial | assumption | (simp; done) | (simp only [List.length_map] at *; omega) | omega | (simp [D.cells, D.ok, D.one, D.pt, D.pt1]; done)))) | (with_reducible intro x hx) | omega) <;> (try simp only [row1_len, Nat.reduceBEq, argEnv, Nat.reduceAdd, lenD, fw]))
 refine Run_loop (ι := {i : Nat // i ≤ l.length ∧ (l.take i).all (numB most below) = true}) (fun i => ([(0, L (row1 .i64 l)), (1, .int .i64 most), (2, .bool below), (9, L (row1 .i64 l)), (10, .int .i64 l.length), (11, .int .i64 i.1)], [])) (fun i => l.length - i.1) ⟨0, by simp⟩ ?_ ?_
 ·refine Ent_gc [] (by rfl) (by simp) (by simp [keptW]) (by simp [lk_hit, lk_miss, D.pt0, viewS_own', pull, pull2, pull1, pull0, idx_nil, gate, List.mem_cons, or_false, view0])
 rintro ⟨i, hi, ha⟩ hk
 dsimp only at hk ⊢
 by_cases hlt : i < l.length
 ·have c2 : ((i : Int) < (l.length : Int)) = True := by simp; omega
  obtain ⟨x, hx⟩ : ∃ x, l[i]? = some x := ⟨_, List.getElem?_eq_getElem hlt⟩
  have rx := row1_get (k := .i64) hx
  by_cases hs : numB most below x = true
  ·have hs' := hs
   simp only [numB, Bool.and_eq_true, Bool.or_eq_true, decide_eq_true_eq] at hs'
   obtain ⟨⟨n1, n2, n3⟩, n4⟩ := hs'
   have d1 : (x == 0) = false := by simpa using n1
   have d2 : (x > most) = False := by simp; omega
   have d3 : (x < -most) = False := by simp; omega
   by_cases n5 : x < 0
   ·have d4 : (x < 0) = True := by simpa using n5
    have d5 : below = true := by
     rcases n4 with h | h
     ·exact h
     ·omega
    subst d5
    repeat' ((first | apply Run_seq | apply Run_skip | apply Run_block | apply Run_blk | refine Run_exit rfl ?_ | apply Run_ret | apply Run_nil | apply Run_condK | apply Run_ops mixed | with_reducible refine PostV_open ?_ | with_reducible refine ro_callV ?_ | simp (disch := omega) only [w64] | ((first | refine GuardK_split ?_ ?_ | refine CondK_split ?_ ?_) <;> intro hc <;> (try simp only [hc]) <;> try simp at hc) | (with_reducible refine And.intro ?_ ?_; (focus ((repeat' (with_reducible refine And.intro ?_ ?_)) <;> first | exact trivial | assumption | (simp; done) | (simp only [List.length_map] at *; omega) | omega | (simp [D.cells, D.ok, D.one, D.pt, D.pt1]; done)))) | (with_reducible intro x hx) | omega) <;> (try simp only [row1_len, c2, d1, d2, d4, rx, Nat.reduceBEq, reduceIte, binD, binInt, okD, unD, pickD, loadD, D.pt0, D.norm1, cond_true, cond_false, view, view2, view1, view0, ofRes, fw]))
    refine hk ⟨i + 1, by omega, all_step ha hx hs⟩ _ _ (by dsimp only; omega) ?_
    dsimp only
    refine Ent_gc [] (by rfl) (by simp) (by simp [keptW]) (by simp [lk_hit, lk_miss, D.pt0, viewS_own', pull, pull2, pull1, pull0, idx_nil, gate, List.mem_cons, or_false, view0])
   ·have d4 : (x < 0) = False := by simpa using n5
    repeat' ((first | apply Run_seq | apply Run_skip | apply Run_block | apply Run_blk | refine Run_exit rfl ?_ | apply Run_ret | apply Run_nil | apply Run_condK | apply Run_ops mixed | with_reducible refine PostV_open ?_ | with_reducible refine ro_callV ?_ | simp (disch := omega) only [w64] | ((first | refine GuardK_split ?_ ?_ | refine CondK_split ?_ ?_) <;> intro hc <;> (try simp only [hc]) <;> try simp at hc) | (with_reducible refine And.intro ?_ ?_; (focus ((repeat' (with_reducible refine And.intro ?_ ?_)) <;> first | exact trivial | assumption | (simp; done) | (simp only [List.length_map] at *; omega) | omega | (simp [D.cells, D.ok, D.one, D.pt, D.pt1]; done)))) | (with_reducible intro x hx) | omega) <;> (try simp only [row1_len, c2, d1, d2, d4, rx, Nat.reduceBEq, reduceIte, binD, binInt, okD, unD, pickD, loadD, D.pt0, D.norm1, cond_true, cond_false, view, view2, view1, view0, ofRes, fw]))
    refine hk ⟨i + 1, by omega, all_step ha hx hs⟩ _ _ (by dsimp only; omega) ?_
    dsimp only
    refine Ent_gc [] (by rfl) (by simp) (by simp [keptW]) (by simp [lk_hit, lk_miss, D.pt0, viewS_own', pull, pull2, pull1, pull0, idx_nil, gate, List.mem_cons, or_false, view0])
  ·have hs' : numB most below x = false := by simpa using hs
   have e : rrowB most below l = false := by simp only [rrowB, all_no hx hs', Bool.false_and]
   rw [e]
   by_cases n1 : x = 0
   ·have d1 : (x == 0) = true := by simpa using n1
    repeat' ((first | apply Run_seq | apply Run_skip | apply Run_block | apply Run_blk | refine Run_exit rfl ?_ | apply Run_ret | apply Run_nil | apply Run_condK | apply Run_ops mixed | with_reducible refine PostV_open ?_ | with_reducible refine ro_callV ?_ | simp (disch := omega) only [w64, wu64, wu32, wu16, wu8, Int.tdiv_eq_ediv_of_nonneg, Int.tmod_eq_emod_of_nonneg] | ((first | refine GuardK_split ?_ ?_ | refine CondK_split ?_ ?_) <;> intro hc <;> (try simp only [hc]) <;> try simp at hc) | (with_reducible refine And.intro ?_ ?_; (focus ((repeat' (with_reducible refine And.intro ?_ ?_)) <;> first | exact trivial | assumption | (simp; done) | (simp only [List.length_map] at *; omega) | omega | (simp [D.cells, D.ok, D.one, D.pt, D.pt1]; done)))) | (with_reducible intro x hx) | omega) <;> (try simp only [row1_len, c2, d1, rx, Nat.reduceBEq, reduceIte, binD, binInt, pickD, loadD, D.pt0, D.norm1, cond_true, view, view2, view1, view0, ofRes, fw]))
   have d1 : (x == 0) = false := by simpa using n1
   by_cases n2 : x > most
   ·have d2 : (x > most) = True := by simpa using n2
    repeat' ((first | apply Run_seq | apply Run_skip | apply Run_block | apply Run_blk | refine Run_exit rfl ?_ | apply Run_ret | apply Run_nil | apply Run_condK | apply Run_ops mixed | with_reducible refine PostV_open ?_ | with_reducible refine ro_callV ?_ | simp (disch := omega) only [w64, wu64, wu32, wu16, wu8, Int.tdiv_eq_ediv_of_nonneg, Int.tmod_eq_emod_of_nonneg] | ((first | refine GuardK_split ?_ ?_ | refine CondK_split ?_ ?_) <;> intro hc <;> (try simp only [hc]) <;> try simp at hc) | (with_reducible refine And.intro ?_ ?_; (focus ((repeat' (with_reducible refine And.intro ?_ ?_)) <;> first | exact trivial | assumption | (simp; done) | (simp only [List.length_map] at *; omega) | omega | (simp [D.cells, D.ok, D.one, D.pt, D.pt1]; done)))) | (with_reducible intro x hx) | omega) <;> (try simp only [row1_len, c2, d1, d2, rx, Nat.reduceBEq, reduceIte, binD, binInt, pickD, loadD, D.pt0, D.norm1, cond_true, cond_false, view, view2, view1, view0, ofRes, fw]))
   have d2 : (x > most) = False := by simpa using n2
   by_cases n3 : x < -most
   ·have d3 : (x < -most) = True := by simpa using n3
    repeat' ((first | apply Run_seq | apply Run_skip | apply Run_block | apply Run_blk | refine Run_exit rfl ?_ | apply Run_ret | apply Run_nil | apply Run_condK | apply Run_ops mixed | with_reducible refine PostV_open ?_ | with_reducible refine ro_callV ?_ | simp (disch := omega) only [w64] | ((first | refine GuardK_split ?_ ?_ | refine CondK_split ?_ ?_) <;> intro hc <;> (try simp only [hc]) <;> try simp at hc) | (with_reducible refine And.intro ?_ ?_; (focus ((repeat' (with_reducible refine And.intro ?_ ?_)) <;> first | exact trivial | assumption | (simp; done) | (simp only [List.length_map] at *; omega) | omega | (simp [D.cells, D.ok, D.one, D.pt, D.pt1]; done)))) | (with_reducible intro x hx) | omega) <;> (try simp only [row1_len, c2, d1, d2, rx, Nat.reduceBEq, reduceIte, binD, binInt, okD, unD, pickD, loadD, D.pt0, D.norm1, cond_true, cond_false, view, view2, view1, view0, ofRes, fw]))
   have d3 : (x < -most) = False := by simpa using n3
   have h5 : below = false ∧ x < 0 := by
    have : decide (x ≠ 0 ∧ x ≤ most ∧ -most ≤ x) = true := by simp; omega
    rw [numB, this, Bool.true_and] at hs'
    simpa using hs'
   have d4 : (x < 0) = True := by simpa using h5.2
   rw [h5.1]
   repeat' ((first | apply Run_seq | apply Run_skip | apply Run_block | apply Run_blk | refine Run_exit rfl ?_ | apply Run_ret | apply Run_nil | apply Run_condK | apply Run_ops mixed | with_reducible refine PostV_open ?_ | with_reducible refine ro_callV ?_ | simp (disch := omega) only [w64] | ((first | refine GuardK_split ?_ ?_ | refine CondK_split ?_ ?_) <;> intro hc <;> (try simp only [hc]) <;> try simp at hc) | (with_reducible refine And.intro ?_ ?_; (focus ((repeat' (with_reducible refine And.intro ?_ ?_)) <;> first | exact trivial | assumption | (simp; done) | (simp only [List.length_map] at *; omega) | omega | (simp [D.cells, D.ok, D.one, D.pt, D.pt1]; done)))) | (with_reducible intro x hx) | omega) <;> (try simp only [row1_len, c2, d1, d2, d4, rx, Nat.reduceBEq, reduceIte, binD, binInt, okD, unD, pickD, loadD, D.pt0, D.norm1, cond_true, cond_false, view, view2, view1, view0, ofRes, fw]))
 ·have c2 : ((i : Int) < (l.length : Int)) = False := by simp; omega
  obtain rfl : i = l.length := by omega
  rw [List.take_length] at ha
  have rs := risI_p l hl
  have e : rrowB most below l = risB l := by unfold rrowB; rw [ha, Bool.true_and]
  rw [e]
  repeat' ((first | apply Run_seq | apply Run_skip | apply Run_block | apply Run_blk | refine Run_exit rfl ?_ | apply Run_ret | apply Run_nil | apply Run_condK | apply Run_ops mixed | with_reducible refine PostV_open ?_ | with_reducible refine ro_callV ?_ | refine CallV_pure (rs) ?_ ?_ | simp (disch := omega) only [w64, wu64, wu32, wu16, wu8, Int.tdiv_eq_ediv_of_nonneg, Int.tmod_eq_emod_of_nonneg] | ((first | refine GuardK_split ?_ ?_ | refine CondK_split ?_ ?_) <;> intro hc <;> (try simp only [hc]) <;> try simp at hc) | (with_reducible refine And.intro ?_ ?_; (focus ((repeat' (with_reducible refine And.intro ?_ ?_)) <;> first | exact trivial | assumption | (simp; done) | (simp only [List.length_map] at *; omega) | omega | (simp [D.cells, D.ok, D.one, D.pt, D.pt1]; done)))) | (with_reducible intro x hx) | omega) <;> (try simp only [c2, Nat.reduceBEq, reduceIte, binD, binInt, D.pt, D.pt1, D.pt0, D.norm1, view, view2, view1, view0, mapO, D.sc, D.sc1, D.sc2, ofRes, fw]))
def nthB (r : Ru) : Bool := decide (r.freq = 3 ∨ r.freq = 4 ∧ 0 < r.bm.length)
def dayB (nth : Bool) (d : Int × Int) : Bool := decide (0 ≤ d.2 ∧ d.2 ≤ 6 ∧ -5 ≤ d.1 ∧ d.1 ≤ 5) && (nth || decide (d.1 = 0))
def daysB (r : Ru) : Bool := r.bd.all (dayB (nthB r)) && risD r.bd
set_option maxHeartbeats 4000000 in
theorem days_p (r : Ru) (h1 : r.bm.length ≤ 140737488351232) (hl : r.bd.length ≤ 140737488351232) : PureD Try.prog 100 [.agg r.cells] (.bool (daysB r)) := by
 refine pureV Try.func100 low100 (by simp [c100]) ?_
 simp only [c100, Ru.cells]
 obtain ⟨b1, hb1⟩ : ∃ b, b = (r.freq == 3) := ⟨_, rfl⟩
 obtain ⟨b2, hb2⟩ : ∃ b, b = (r.freq == 4) := ⟨_, rfl⟩
 obtain ⟨b3, hb3⟩ : ∃ b, b = decide ((r.bm.length : Int) > 0) := ⟨_, rfl⟩
 have hn : nthB r = (b1 || b2 && b3) := by rw [hb1, hb2, hb3, Bool.eq_iff_iff]; simp [nthB]
 have d1 := hb1.symm
 have d2 := hb2.symm
 have d3 := hb3.symm
 have hcs : b1 = true ∨ (b1 = false ∧ b2 = false) ∨ (b1 = false ∧ b2 = true ∧ b3 = false) ∨ (b1 = false ∧ b2 = true ∧ b3 = true) := by
  cases b1 <;> cases b2 <;> cases b3 <;> simp
 rcases hcs with rfl | ⟨rfl, rfl⟩ | ⟨rfl, rfl, rfl⟩ | ⟨rfl, rfl, rfl⟩ <;> simp only [Bool.true_or, Bool.false_or, Bool.true_and, Bool.false_and] at hn
 all_goals
  repeat' ((first | apply Run_seq | apply Run_skip | apply Run_block | apply Run_blk | refine Run_exit rfl ?_ | apply Run_ret | apply Run_nil | apply Run_condK | apply Run_ops mixed | with_reducible refine PostV_open ?_ | with_reducible refine ro_callV ?_ | simp (disch := omega) only [w64, wu64, wu32, wu16, wu8, Int.tdiv_eq_ediv_of_nonneg, Int.tmod_eq_emod_of_nonneg] | ((first | refine GuardK_split ?_ ?_ | refine CondK_split ?_ ?_) <;> intro hc <;> (try simp only [hc]) <;> try simp at hc) | (with_reducible refine And.intro ?_ ?_; (focus ((repeat' (with_reducible refine And.intro ?_ ?_)) <;> first | exact trivial | assumption | (simp; done) | (simp only [List.length_map] at *; omega) | omega | (simp [D.cells, D.ok, D.one, D.pt, D.pt1]; done)))) | (with_reducible intro x hx) | omega) <;> (try simp only [row1_len, row2_len, d1, d2, d3, Nat.reduceBEq, argEnv, reduceIte, Nat.reduceAdd, reduceCtorEq, binD, binInt, pickD, faddrD, lenD, loadD, D.cells, D.ok, D.one, D.pt1, cond_true, cond_false, ne_eq, fw]))
  refine Run_loop (ι := {i : Nat // i ≤ r.bd.length ∧ (r.bd.take i).all (dayB (nthB r)) = true}) (fun i => ([(1, .ptr 0 0 0 1), (3, .bool (nthB r)), (21, L (row2 .i64 .i64 r.bd)), (22, .int .i64 r.bd.length), (23, .int .i64 i.1)], [⟨true, false, true, false, 9, [r.cells], some 0⟩])) (fun i => r.bd.length - i.1) ⟨0, by simp⟩ ?_ ?_
  ·rw [hn]
   simp only [Ru.cells]
   refine Ent_gc [0] (by rfl) (by simp) (by simp [keptW, ObKW, ObW, imp_self, pullOb, or_false]) (by simp [lk_hit, lk_miss, D.pt0, viewS_own', pull, pull2, pull1, pull0, idx_hit, gate, List.mem_cons, or_false, view0])
  clear d1 d2 d3 hb1 hb2 hb3 hn
  rintro ⟨i, hi, ha⟩ hk
  dsimp only [Ru.cells] at hk ⊢
  by_cases hlt : i < r.bd.length
  ·have c2 : ((i : Int) < (r.bd.length : Int)) = True := by simp; omega
   obtain ⟨x, hx⟩ : ∃ x, r.bd[i]? = some x := ⟨_, List.getElem?_eq_getElem hlt⟩
   have rx := row2_get (k := .i64) (m := .i64) hx
   by_cases hs : dayB (nthB r) x = true
   ·have hs' := hs
    simp only [dayB, Bool.and_eq_true, Bool.or_eq_true, decide_eq_true_eq] at hs'
    obtain ⟨⟨n1, n2, n3, n4⟩, n5⟩ := hs'
    have e1 : (x.2 < 0) = False := by simp; omega
    have e2 : (x.2 > 6) = False := by simp; omega
    have e3 : (x.1 < -5) = False := by simp; omega
    have e4 : (x.1 > 5) = False := by simp; omega
    by_cases n6 : x.1 = 0
    ·have e5 : (x.1 == 0) = true := by simpa using n6
     repeat' ((first | apply Run_seq | apply Run_skip | apply Run_block | apply Run_blk | refine Run_exit rfl ?_ | apply Run_ret | apply Run_nil | apply Run_condK | apply Run_ops mixed | with_reducible refine PostV_open ?_ | with_reducible refine ro_callV ?_ | simp (disch := omega) only [w64] | ((first | refine GuardK_split ?_ ?_ | refine CondK_split ?_ ?_) <;> intro hc <;> (try simp only [hc]) <;> try simp at hc) | (with_reducible refine And.intro ?_ ?_; (focus ((repeat' (with_reducible refine And.intro ?_ ?_)) <;> first | exact trivial | assumption | (simp; done) | (simp only [List.length_map] at *; omega) | omega | (simp [D.cells, D.ok, D.one, D.pt, D.pt1]; done)))) | (with_reducible intro x hx) | omega) <;> (try simp only [row2_len, c2, e1, e2, e3, e4, rx, Nat.reduceBEq, reduceIte, Nat.reduceAdd, reduceCtorEq, binD, binInt, okD, unD, pickD, faddrD, loadD, splice, D.cells, D.ok, D.one, D.pt1, D.pt0, D.norm1, cond_true, cond_false, ne_eq, Int.reduceNeg, view, view2, view1, view0, ofRes, fw]))
     refine hk ⟨i + 1, by omega, all_step ha hx hs⟩ _ _ (by dsimp only; omega) ?_
     dsimp only [Ru.cells]
     refine Ent_gc [0] (by rfl) (by simp) (by simp [keptW, ObKW, ObW, imp_self, pullOb, or_false]) (by simp [lk_hit, lk_miss, D.pt0, viewS_own', pull, pull2, pull1, pull0, idx_hit, gate, List.mem_cons, or_false, view0])
    ·have e5 : (x.1 == 0) = false := by simpa using n6
     have e6 : nthB r = true := by
      rcases n5 with h | h
      ·exact h
      ·exact absurd h n6
     repeat' ((first | apply Run_seq | apply Run_skip | apply Run_block | apply Run_blk | refine Run_exit rfl ?_ | apply Run_ret | apply Run_nil | apply Run_condK | apply Run_ops mixed | with_reducible refine PostV_open ?_ | with_reducible refine ro_callV ?_ | simp (disch := omega) only [w64] | ((first | refine GuardK_split ?_ ?_ | refine CondK_split ?_ ?_) <;> intro hc <;> (try simp only [hc]) <;> try simp at hc) | (with_reducible refine And.intro ?_ ?_; (focus ((repeat' (with_reducible refine And.intro ?_ ?_)) <;> first | exact trivial | assumption | (simp; done) | (simp only [List.length_map] at *; omega) | omega | (simp [D.cells, D.ok, D.one, D.pt, D.pt1]; done)))) | (with_reducible intro x hx) | omega) <;> (try simp only [row2_len, c2, e1, e2, e3, e4, e6, rx, Nat.reduceBEq, reduceIte, Nat.reduceAdd, reduceCtorEq, binD, binInt, okD, unD, pickD, faddrD, loadD, splice, D.cells, D.ok, D.one, D.pt1, cond_true, cond_false, ne_eq, Int.reduceNeg, fw]))
     refine hk ⟨i + 1, by omega, all_step ha hx hs⟩ _ _ (by dsimp only; omega) ?_
     dsimp only [Ru.cells]
     rw [e6]
     refine Ent_gc [0] (by rfl) (by simp) (by simp [keptW, ObKW, ObW, imp_self, pullOb, or_false]) (by simp [lk_hit, lk_miss, D.pt0, viewS_own', pull, pull2, pull1, pull0, idx_hit, gate, List.mem_cons, or_false, view0])
   ·have hs' : dayB (nthB r) x = false := by simpa using hs
    have e : daysB r = false := by simp only [daysB, all_no hx hs', Bool.false_and]
    rw [e]
    by_cases n1 : x.2 < 0
    ·have e1 : (x.2 < 0) = True := by simpa using n1
     repeat' ((first | apply Run_seq | apply Run_skip | apply Run_block | apply Run_blk | refine Run_exit rfl ?_ | apply Run_ret | apply Run_nil | apply Run_condK | apply Run_ops mixed | with_reducible refine PostV_open ?_ | with_reducible refine ro_callV ?_ | simp (disch := omega) only [w64, wu64, wu32, wu16, wu8, Int.tdiv_eq_ediv_of_nonneg, Int.tmod_eq_emod_of_nonneg] | ((first | refine GuardK_split ?_ ?_ | refine CondK_split ?_ ?_) <;> intro hc <;> (try simp only [hc]) <;> try simp at hc) | (with_reducible refine And.intro ?_ ?_; (focus ((repeat' (with_reducible refine And.intro ?_ ?_)) <;> first | exact trivial | assumption | (simp; done) | (simp only [List.length_map] at *; omega) | omega | (simp [D.cells, D.ok, D.one, D.pt, D.pt1]; done)))) | (with_reducible intro x hx) | omega) <;> (try simp only [row2_len, c2, e1, rx, Nat.reduceBEq, reduceIte, Nat.reduceAdd, reduceCtorEq, binD, binInt, pickD, faddrD, loadD, splice, D.cells, D.ok, D.one, D.pt1, D.pt0, D.norm1, cond_true, ne_eq, Int.reduceNeg, view, view2, view1, view0, ofRes, fw]))
    have e1 : (x.2 < 0) = False := by simpa using n1
    by_cases n2 : x.2 > 6
    ·have e2 : (x.2 > 6) = True := by simpa using n2
     repeat' ((first | apply Run_seq | apply Run_skip | apply Run_block | apply Run_blk | refine Run_exit rfl ?_ | apply Run_ret | apply Run_nil | apply Run_condK | apply Run_ops mixed | with_reducible refine PostV_open ?_ | with_reducible refine ro_callV ?_ | simp (disch := omega) only [w64, wu64, wu32, wu16, wu8, Int.tdiv_eq_ediv_of_nonneg, Int.tmod_eq_emod_of_nonneg] | ((first | refine GuardK_split ?_ ?_ | refine CondK_split ?_ ?_) <;> intro hc <;> (try simp only [hc]) <;> try simp at hc) | (with_reducible refine And.intro ?_ ?_; (focus ((repeat' (with_reducible refine And.intro ?_ ?_)) <;> first | exact trivial | assumption | (simp; done) | (simp only [List.length_map] at *; omega) | omega | (simp [D.cells, D.ok, D.one, D.pt, D.pt1]; done)))) | (with_reducible intro x hx) | omega) <;> (try simp only [row2_len, c2, e1, e2, rx, Nat.reduceBEq, reduceIte, Nat.reduceAdd, reduceCtorEq, binD, binInt, pickD, faddrD, loadD, splice, D.cells, D.ok, D.one, D.pt1, D.pt0, D.norm1, cond_true, cond_false, ne_eq, Int.reduceNeg, view, view2, view1, view0, ofRes, fw]))
    have e2 : (x.2 > 6) = False := by simpa using n2
    by_cases n3 : x.1 < -5
    ·have e3 : (x.1 < -5) = True := by simpa using n3
     repeat' ((first | apply Run_seq | apply Run_skip | apply Run_block | apply Run_blk | refine Run_exit rfl ?_ | apply Run_ret | apply Run_nil | apply Run_condK | apply Run_ops mixed | with_reducible refine PostV_open ?_ | with_reducible refine ro_callV ?_ | simp (disch := omega) only [w64, wu64, wu32, wu16, wu8, Int.tdiv_eq_ediv_of_nonneg, Int.tmod_eq_emod_of_nonneg] | ((first | refine GuardK_split ?_ ?_ | refine CondK_split ?_ ?_) <;> intro hc <;> (try simp only [hc]) <;> try simp at hc) | (with_reducible refine And.intro ?_ ?_; (focus ((repeat' (with_reducible refine And.intro ?_ ?_)) <;> first | exact trivial | assumption | (simp; done) | (simp only [List.length_map] at *; omega) | omega | (simp [D.cells, D.ok, D.one, D.pt, D.pt1]; done)))) | (with_reducible intro x hx) | omega) <;> (try simp only [row2_len, c2, e1, e2, e3, rx, Nat.reduceBEq, reduceIte, Nat.reduceAdd, reduceCtorEq, binD, binInt, pickD, faddrD, loadD, splice, D.cells, D.ok, D.one, D.pt1, D.pt0, D.norm1, cond_true, cond_false, ne_eq, Int.reduceNeg, view, view2, view1, view0, ofRes, fw]))
    have e3 : (x.1 < -5) = False := by simpa using n3
    by_cases n4 : x.1 > 5
    ·have e4 : (x.1 > 5) = True := by simpa using n4
     repeat' ((first | apply Run_seq | apply Run_skip | apply Run_block | apply Run_blk | refine Run_exit rfl ?_ | apply Run_ret | apply Run_nil | apply Run_condK | apply Run_ops mixed | with_reducible refine PostV_open ?_ | with_reducible refine ro_callV ?_ | simp (disch := omega) only [w64, wu64, wu32, wu16, wu8, Int.tdiv_eq_ediv_of_nonneg, Int.tmod_eq_emod_of_nonneg] | ((first | refine GuardK_split ?_ ?_ | refine CondK_split ?_ ?_) <;> intro hc <;> (try simp only [hc]) <;> try simp at hc) | (with_reducible refine And.intro ?_ ?_; (focus ((repeat' (with_reducible refine And.intro ?_ ?_)) <;> first | exact trivial | assumption | (simp; done) | (simp only [List.length_map] at *; omega) | omega | (simp [D.cells, D.ok, D.one, D.pt, D.pt1]; done)))) | (with_reducible intro x hx) | omega) <;> (try simp only [row2_len, c2, e1, e2, e3, e4, rx, Nat.reduceBEq, reduceIte, Nat.reduceAdd, reduceCtorEq, binD, binInt, pickD, faddrD, loadD, splice, D.cells, D.ok, D.one, D.pt1, D.pt0, D.norm1, cond_true, cond_false, ne_eq, Int.reduceNeg, view, view2, view1, view0, ofRes, fw]))
    have e4 : (x.1 > 5) = False := by simpa using n4
    have h5 : nthB r = false ∧ ¬ x.1 = 0 := by
     have : decide (0 ≤ x.2 ∧ x.2 ≤ 6 ∧ -5 ≤ x.1 ∧ x.1 ≤ 5) = true := by simp; omega
     rw [dayB, this, Bool.true_and] at hs'
     simpa using hs'
    have e5 : (x.1 == 0) = false := by simpa using h5.2
    have e6 := h5.1
    repeat' ((first | apply Run_seq | apply Run_skip | apply Run_block | apply Run_blk | refine Run_exit rfl ?_ | apply Run_ret | apply Run_nil | apply Run_condK | apply Run_ops mixed | with_reducible refine PostV_open ?_ | with_reducible refine ro_callV ?_ | simp (disch := omega) only [w64] | ((first | refine GuardK_split ?_ ?_ | refine CondK_split ?_ ?_) <;> intro hc <;> (try simp only [hc]) <;> try simp at hc) | (with_reducible refine And.intro ?_ ?_; (focus ((repeat' (with_reducible refine And.intro ?_ ?_)) <;> first | exact trivial | assumption | (simp; done) | (simp only [List.length_map] at *; omega) | omega | (simp [D.cells, D.ok, D.one, D.pt, D.pt1]; done)))) | (with_reducible intro x hx) | omega) <;> (try simp only [row2_len, c2, e1, e2, e3, e4, e6, rx, Nat.reduceBEq, reduceIte, Nat.reduceAdd, reduceCtorEq, binD, binInt, okD, unD, pickD, faddrD, loadD, splice, D.cells, D.ok, D.one, D.pt1, D.pt0, D.norm1, cond_true, cond_false, ne_eq, Int.reduceNeg, view, view2, view1, view0, ofRes, fw]))
  ·have c2 : ((i : Int) < (r.bd.length : Int)) = False := by simp; omega
   obtain rfl : i = r.bd.length := by omega
   rw [List.take_length] at ha
   have rs := risD_p r.bd hl
   have e : daysB r = risD r.bd := by unfold daysB; rw [ha, Bool.true_and]
   rw [e]
   repeat' ((first | apply Run_seq | apply Run_skip | apply Run_block | apply Run_blk | refine Run_exit rfl ?_ | apply Run_ret | apply Run_nil | apply Run_condK | apply Run_ops mixed | with_reducible refine PostV_open ?_ | with_reducible refine ro_callV ?_ | refine CallV_pure (rs) ?_ ?_ | simp (disch := omega) only [w64, wu64, wu32, wu16, wu8, Int.tdiv_eq_ediv_of_nonneg, Int.tmod_eq_emod_of_nonneg] | ((first | refine GuardK_split ?_ ?_ | refine CondK_split ?_ ?_) <;> intro hc <;> (try simp only [hc]) <;> try simp at hc) | (with_reducible refine And.intro ?_ ?_; (focus ((repeat' (with_reducible refine And.intro ?_ ?_)) <;> first | exact trivial | assumption | (simp; done) | (simp only [List.length_map] at *; omega) | omega | (simp [D.cells, D.ok, D.one, D.pt, D.pt1]; done)))) | (with_reducible intro x hx) | omega) <;> (try simp only [c2, Nat.reduceBEq, reduceIte, binD, binInt, faddrD, loadD, D.pt, D.pt1, D.pt0, D.norm1, view, view2, view1, view0, mapO, D.sc, D.sc1, D.sc2, ofRes, fw]))
def endsB (r : Ru) : Bool := decide (0 ≤ r.count ∧ r.count ≤ 5000) && decide (r.til = -1 ∨ 0 ≤ r.til ∧ r.til < 158310720 ∧ r.count = 0)
theorem ends_p (r : Ru) : PureD Try.prog 98 [.agg r.cells] (.bool (endsB r)) := by
 refine pureV Try.func98 low98 (by simp [c98]) ?_
 simp only [c98, Ru.cells]
 repeat' ((first | apply Run_seq | apply Run_skip | apply Run_ret | apply Run_nil | apply Run_condK | apply Run_ops mixed | with_reducible refine PostV_open ?_ | ((first | refine GuardK_split ?_ ?_ | refine CondK_split ?_ ?_) <;> intro hc <;> (try simp only [hc]) <;> try simp at hc) | (with_reducible refine And.intro ?_ ?_; (focus ((repeat' (with_reducible refine And.intro ?_ ?_)) <;> first | exact trivial | assumption | (simp; done) | (simp only [List.length_map] at *; omega) | omega | (simp [D.cells, D.ok, D.one, D.pt, D.pt1]; done)))) | (with_reducible intro x hx) | omega) <;> (try simp only [Nat.reduceBEq, argEnv, reduceIte, Nat.reduceAdd, reduceCtorEq, binD, binInt, pickD, faddrD, loadD, D.cells, D.ok, D.one, D.pt1, D.pt0, D.norm1, cond_true, cond_false, ne_eq, Int.reduceNeg, view, view2, view1, view0, ofRes, fw]))
 all_goals (unfold endsB; rw [Bool.eq_iff_iff]; simp [*]; try omega)
def mayR (r : Ru) : Bool := decide (1 ≤ r.freq ∧ r.freq ≤ 4 ∧ 1 ≤ r.interval ∧ r.interval ≤ 999) && (endsB r && (rrowB 12 false r.bm && (rrowB 31 true r.bmd && (decide (r.freq ≠ 2 ∨ r.bmd.length = 0) && (daysB r && (rrowB 366 true r.bsp && decide ((0 < r.bm.length + r.bmd.length + r.bd.length ∨ r.bsp.length = 0) ∧ 0 ≤ r.start ∧ r.start ≤ 6)))))))
set_option maxHeartbeats 4000000 in
theorem ruleMay_p (r : Ru) (hf : r.fits) : PureD Try.prog 78 [.agg r.cells] (.bool (mayR r)) := by
 obtain ⟨f1, f2, f3, f4⟩ := hf
 refine pureV Try.func78 low78 (by simp [c78]) ?_
 have h1 := ends_p r
 have h2 := ruleRow_p r.bm 12 false (by omega) (by omega) f1
 have h3 := ruleRow_p r.bmd 31 true (by omega) (by omega) f2
 have h4 := days_p r f1 f3
 have h5 := ruleRow_p r.bsp 366 true (by omega) (by omega) f4
 unfold mayR
 generalize endsB r = x1 at h1 ⊢
 generalize rrowB 12 false r.bm = x2 at h2 ⊢
 generalize rrowB 31 true r.bmd = x3 at h3 ⊢
 generalize daysB r = x4 at h4 ⊢
 generalize rrowB 366 true r.bsp = x5 at h5 ⊢
 simp only [c78, Ru.cells] at h1 h4 ⊢
 repeat' ((first | apply Run_seq | apply Run_ret | apply Run_nil | apply Run_ops mixed | with_reducible refine PostV_open ?_ | with_reducible refine ro_callV ?_ | refine CallV_pure (h1) ?_ ?_ | refine CallV_pure (h2) ?_ ?_ | refine CallV_pure (h3) ?_ ?_ | refine CallV_pure (h4) ?_ ?_ | refine CallV_pure (h5) ?_ ?_ | simp (disch := omega) only [w64] | (refine GuardK_split ?_ ?_ <;> intro hc <;> (try simp only [hc]) <;> try simp at hc) | (with_reducible refine And.intro ?_ ?_; (focus ((repeat' (with_reducible refine And.intro ?_ ?_)) <;> first | exact trivial | assumption | (simp; done) | (simp only [List.length_map] at *; omega) | omega | (simp [D.cells, D.ok, D.one, D.pt, D.pt1]; done)))) | (with_reducible intro x hx) | omega) <;> (try simp only [row1_len, row2_len, Nat.reduceBEq, argEnv, reduceIte, Nat.reduceAdd, reduceCtorEq, binD, binInt, pickD, faddrD, lenD, loadD, D.cells, D.ok, D.one, D.pt, D.pt1, D.pt0, D.norm1, cond_true, cond_false, ne_eq, view, view2, view1, view0, mapO, D.sc, D.sc1, D.sc2, ofRes, fw]))
 all_goals (rw [Bool.eq_iff_iff]; simp [*]; first | done | omega | (simp_all; done) | (simp_all; omega) | (intros; left; simp_all; omega))
theorem ruleSame_p (a b : Ru) (ha : a.fits) (hb : b.fits) : PureD Try.prog 77 [.agg a.cells, .agg b.cells] (.bool (decide (a = b))) := by
 obtain ⟨f1, f2, f3, f4⟩ := ha
 obtain ⟨g1, g2, g3, g4⟩ := hb
 refine pureV Try.func77 low77 (by simp [c77]) ?_
 have h1 := eqInt_p a.bm b.bm f1 g1
 have h2 := eqInt_p a.bmd b.bmd f2 g2
 have h3 := eqDay_p a.bd b.bd f3 g3
 have h4 := eqInt_p a.bsp b.bsp f4 g4
 obtain ⟨a1, a2, a3, a4, a5, a6, a7, a8, a9⟩ := a
 obtain ⟨b1, b2, b3, b4, b5, b6, b7, b8, b9⟩ := b
 dsimp only at h1 h2 h3 h4
 have e : decide (Ru.mk a1 a2 a3 a4 a5 a6 a7 a8 a9 = Ru.mk b1 b2 b3 b4 b5 b6 b7 b8 b9) = ((a1 == b1) && ((a2 == b2) && ((a3 == b3) && ((a4 == b4) && ((a9 == b9) && (decide (a5 = b5) && (decide (a6 = b6) && (decide (a7 = b7) && decide (a8 = b8))))))))) := by
  rw [Bool.eq_iff_iff]; simp
  intros
  exact ⟨fun ⟨p, q, r, s, t⟩ => ⟨t, p, q, r, s⟩, fun ⟨t, p, q, r, s⟩ => ⟨p, q, r, s, t⟩⟩
 rw [e]
 clear e f1 f2 f3 f4 g1 g2 g3 g4
 generalize decide (a5 = b5) = x1 at h1 ⊢
 generalize decide (a6 = b6) = x2 at h2 ⊢
 generalize decide (a7 = b7) = x3 at h3 ⊢
 generalize decide (a8 = b8) = x4 at h4 ⊢
 simp only [c77, Ru.cells]
 repeat' ((first | apply Run_seq | apply Run_ret | apply Run_nil | apply Run_ops mixed | with_reducible refine PostV_open ?_ | with_reducible refine ro_callV ?_ | refine CallV_pure (h1) ?_ ?_ | refine CallV_pure (h2) ?_ ?_ | refine CallV_pure (h3) ?_ ?_ | refine CallV_pure (h4) ?_ ?_ | (refine GuardK_split ?_ ?_ <;> intro hc <;> (try simp only [hc]) <;> try simp at hc) | (with_reducible refine And.intro ?_ ?_; (focus ((repeat' (with_reducible refine And.intro ?_ ?_)) <;> first | exact trivial | assumption | (simp; done) | (simp only [List.length_map] at *; omega) | omega | (simp [D.cells, D.ok, D.one, D.pt, D.pt1]; done)))) | (with_reducible intro x hx) | omega) <;> (try simp only [Nat.reduceBEq, argEnv, reduceIte, Nat.reduceAdd, reduceCtorEq, binD, binInt, pickD, faddrD, loadD, D.cells, D.ok, D.one, D.pt, D.pt1, D.pt0, D.norm1, cond_true, cond_false, ne_eq, view, view2, view1, view0, mapO, D.sc, D.sc1, D.sc2, ofRes, fw]))
 all_goals (rw [Bool.eq_iff_iff]; simp [*])
end Go.Proofs.Ytoleaiaeghbffaa

namespace Go.Proofs.Ytoleaiaeghbffaa
open Go Go.Vi


def zRu : Ru := ⟨0, 0, 0, 0, [], [], [], [], 0⟩
def mayE (e : Ev) : Bool := stampB e.start && (decide (1 ≤ e.long ∧ e.long ≤ 10080) && if e.again then !e.world && (mayR e.rule && (rowB e.ex && (rowB e.plus && chB e.ch))) else decide (e.rule = zRu) && decide (e.ex.length + e.plus.length + e.ch.length = 0))
set_option maxHeartbeats 4000000 in
theorem mayE_p (e : Ev) (hf : e.fits) (hc : e.ch.length ≤ 14073748835123) : PureD Try.prog 53 [.agg e.cells] (.bool (mayE e)) := by
 obtain ⟨f0, f1, f2, f3⟩ := hf
 refine pureV Try.func53 low53 (by simp [c53]) ?_
 have h1 := stamp_p e.start
 have h2 := ruleMay_p e.rule f0
 have h3 := evRow_p e.ex f1
 have h4 := evRow_p e.plus f2
 have h5 := changes_p e.ch hc
 have h6 := ruleSame_p e.rule zRu f0 (by simp [Ru.fits, zRu])
 unfold mayE
 generalize stampB e.start = x1 at h1 ⊢
 generalize mayR e.rule = x2 at h2 ⊢
 generalize rowB e.ex = x3 at h3 ⊢
 generalize rowB e.plus = x4 at h4 ⊢
 generalize chB e.ch = x5 at h5 ⊢
 generalize decide (e.rule = zRu) = x6 at h6 ⊢
 simp only [c53, Ev.cells, Ru.cells, zRu, row1, row2, List.map_nil] at h2 h6 ⊢
 repeat' ((first | apply Run_seq | apply Run_skip | apply Run_ret | apply Run_nil | apply Run_condK | apply Run_ops mixed | with_reducible refine PostV_open ?_ | with_reducible refine ro_callV ?_ | refine CallV_pure (h1) ?_ ?_ | refine CallV_pure (h2) ?_ ?_ | refine CallV_pure (h3) ?_ ?_ | refine CallV_pure (h4) ?_ ?_ | refine CallV_pure (h5) ?_ ?_ | refine CallV_pure (h6) ?_ ?_ | simp (disch := omega) only [w64] | ((first | refine GuardK_split ?_ ?_ | refine CondK_split ?_ ?_) <;> intro hc <;> (try simp only [hc]) <;> try simp at hc) | (with_reducible refine And.intro ?_ ?_; (focus ((repeat' (with_reducible refine And.intro ?_ ?_)) <;> first | exact trivial | assumption | (simp; done) | (simp only [List.length_map] at *; omega) | omega | (simp [D.cells, D.ok, D.one, D.pt, D.pt1]; done)))) | (with_reducible intro x hx) | omega) <;> (try simp only [row3_len, Nat.reduceBEq, argEnv, reduceIte, Nat.reduceAdd, Nat.reduceLeDiff, reduceCtorEq, binD, binInt, okD, aggD, unD, pickD, faddrD, lenD, loadD, fillD, D.cells, D.ok, D.one, D.pt, D.pt1, D.pt0, D.norm1, cond_true, cond_false, ne_eq, view, view2, view1, view0, mapO, D.sc, D.sc1, D.sc2, ofRes, fw]))
 all_goals (rw [Bool.eq_iff_iff]; simp [*]; try (simp only [← List.length_eq_zero_iff]; omega))
end Go.Proofs.Ytoleaiaeghbffaa

namespace Go.Proofs.Ytoleaiaeghbffaa
open Go Go.Vi


theorem place1E_p (d : En) (id : Int) : PureD Try.prog 75 [.agg d.row, .int .u32 id] (.int .i64 (cmp d.id id)) := by
 refine pureV Try.func75 low75 (by simp [c75]) ?_
 simp only [c75, En.row]
 repeat' ((first | apply Run_seq | apply Run_ret | apply Run_nil | apply Run_ops mixed | with_reducible refine PostV_open ?_ | with_reducible refine ro_callV ?_ | refine CallV_pure (cmp_p _ _) ?_ ?_ | (with_reducible refine And.intro ?_ ?_; (focus ((repeat' (with_reducible refine And.intro ?_ ?_)) <;> first | exact trivial | assumption | (simp; done) | (simp only [List.length_map] at *; omega) | omega | (simp [D.cells, D.ok, D.one, D.pt, D.pt1]; done)))) | (with_reducible intro x hx) | omega) <;> (try simp only [Nat.reduceBEq, argEnv, reduceIte, Nat.reduceAdd, reduceCtorEq, faddrD, loadD, D.cells, D.ok, D.one, D.pt, D.pt1, D.pt0, D.norm1, ne_eq, view, view2, view1, view0, mapO, D.sc, D.sc1, D.sc2, ofRes, fw]))
theorem binE_p (l : List En) (id : Int) (k : Nat) (hl : l.length ≤ 140737488351232) (hk : k ≤ l.length) (hs : ∀ (h : Nat) (d : En), l[h]? = some d → (d.id < id ↔ h < k)) :
  PureD Try.prog 74 [L (rowsE l), .int .u32 id, .fn 75 []] (.tup [.int .i64 k, .bool (isAtB En.id l k id)]) := by
 refine pureV Try.func74 low74 (by simp [c74]) ?_
 simp only [c74]
 repeat' ((first | apply Run_seq | apply Run_skip | apply Run_block | apply Run_blk | refine Run_exit rfl ?_ | apply Run_ret | apply Run_nil | apply Run_condK | apply Run_ops mixed | with_reducible refine PostV_open ?_ | with_reducible refine ro_callV ?_ | simp (disch := omega) only [w64, wu64, wu32, wu16, wu8, Int.tdiv_eq_ediv_of_nonneg, Int.tmod_eq_emod_of_nonneg] | ((first | refine GuardK_split ?_ ?_ | refine CondK_split ?_ ?_) <;> intro hc <;> (try simp only [hc]) <;> try simp at hc) | (with_reducible refine And.intro ?_ ?_; (focus ((repeat' (with_reducible refine And.intro ?_ ?_)) <;> first | exact trivial | assumption | (simp; done) | (simp only [List.length_map] at *; omega) | omega | (simp [D.cells, D.ok, D.one, D.pt, D.pt1]; done)))) | (with_reducible intro x hx) | omega) <;> (try simp only [rowsE_len, Nat.reduceBEq, argEnv, Nat.reduceAdd, lenD, fw]))
 refine Run_loop (ι := {p : Nat × Nat // p.1 ≤ k ∧ k ≤ p.2 ∧ p.2 ≤ l.length}) (fun p => ([(0, L (rowsE l)), (1, .int .u32 id), (2, .fn 75 []), (8, .int .i64 l.length), (9, .int .i64 p.1.1), (10, .int .i64 p.1.2)], [])) (fun p => p.1.2 - p.1.1) ⟨(0, l.length), by simp, hk, by simp⟩ ?_ ?_
 ·refine Ent_gc [] (by rfl) (by simp) (by simp [keptW]) (by simp [lk_hit, lk_miss, D.pt0, viewS_own', pull, pull2, pull1, pull0, idx_nil, gate, List.mem_cons, or_false, view0, mapO])
 rintro ⟨⟨i, j⟩, h1, h2, h3⟩ hk'
 dsimp only at h1 h2 h3 hk' ⊢
 by_cases hij : i < j
 ·have c1 : ((i : Int) < (j : Int)) = True := by simp; omega
  obtain ⟨h, hh⟩ : ∃ h : Nat, h = (i + j) / 2 := ⟨_, rfl⟩
  have e2 : ((i : Int) + (j : Int)) / 2 = (h : Int) := by omega
  obtain ⟨d, hd⟩ : ∃ d, l[h]? = some d := ⟨_, List.getElem?_eq_getElem (by omega)⟩
  have hsd := hs h d hd
  have hd' := rowsE_get hd
  have pl := place1E_p d id
  simp only [En.row] at pl
  by_cases hlt : h < k
  ·have c2 : (cmp d.id id < 0) = True := by simp; exact cmp_neg.2 (hsd.2 hlt)
   repeat' ((first | apply Run_seq | apply Run_skip | apply Run_block | apply Run_blk | refine Run_exit rfl ?_ | apply Run_ret | apply Run_nil | apply Run_condK | apply Run_ops mixed | with_reducible refine PostV_open ?_ | with_reducible refine ro_callV ?_ | refine CallV_pure (pl) ?_ ?_ | simp (disch := omega) only [w64, wu64] | ((first | refine GuardK_split ?_ ?_ | refine CondK_split ?_ ?_) <;> intro hc <;> (try simp only [hc]) <;> try simp at hc) | (with_reducible refine And.intro ?_ ?_; (focus ((repeat' (with_reducible refine And.intro ?_ ?_)) <;> first | exact trivial | assumption | (simp; done) | (simp only [List.length_map] at *; omega) | omega | (simp [D.cells, D.ok, D.one, D.pt, D.pt1]; done)))) | (with_reducible intro x hx) | omega) <;> (try simp only [rowsE_len, c1, e2, hd', c2, En.row, Nat.reduceBEq, reduceIte, Nat.reduceAdd, Nat.reduceLeDiff, binD, binInt, convD, loadD, D.pt, D.pt1, D.pt0, D.norm1, Int.reduceToNat, Int.reduceLE, IntKind.bits, Int.reducePow, view, view2, view1, view0, mapO, D.sc, D.sc1, D.sc2, fw]))
   refine hk' ⟨(h + 1, j), by omega, by omega, by omega⟩ _ _ (by dsimp only; omega) ?_
   dsimp only
   refine Ent_gc [] (by rfl) (by simp) (by simp [keptW]) (by simp [lk_hit, lk_miss, D.pt0, viewS_own', pull, pull2, pull1, pull0, idx_nil, gate, List.mem_cons, or_false, view0, mapO])
  ·have c2 : (cmp d.id id < 0) = False := by simp; have := mt hsd.1 hlt; have := mt cmp_neg.1 this; omega
   repeat' ((first | apply Run_seq | apply Run_skip | apply Run_block | apply Run_blk | refine Run_exit rfl ?_ | apply Run_ret | apply Run_nil | apply Run_condK | apply Run_ops mixed | with_reducible refine PostV_open ?_ | with_reducible refine ro_callV ?_ | refine CallV_pure (pl) ?_ ?_ | simp (disch := omega) only [w64, wu64] | ((first | refine GuardK_split ?_ ?_ | refine CondK_split ?_ ?_) <;> intro hc <;> (try simp only [hc]) <;> try simp at hc) | (with_reducible refine And.intro ?_ ?_; (focus ((repeat' (with_reducible refine And.intro ?_ ?_)) <;> first | exact trivial | assumption | (simp; done) | (simp only [List.length_map] at *; omega) | omega | (simp [D.cells, D.ok, D.one, D.pt, D.pt1]; done)))) | (with_reducible intro x hx) | omega) <;> (try simp only [rowsE_len, c1, e2, hd', c2, En.row, Nat.reduceBEq, reduceIte, Nat.reduceAdd, Nat.reduceLeDiff, binD, binInt, convD, loadD, D.pt, D.pt1, D.pt0, D.norm1, Int.reduceToNat, Int.reduceLE, IntKind.bits, Int.reducePow, view, view2, view1, view0, mapO, D.sc, D.sc1, D.sc2, fw]))
   refine hk' ⟨(i, h), by omega, by omega, by omega⟩ _ _ (by dsimp only; omega) ?_
   dsimp only
   refine Ent_gc [] (by rfl) (by simp) (by simp [keptW]) (by simp [lk_hit, lk_miss, D.pt0, viewS_own', pull, pull2, pull1, pull0, idx_nil, gate, List.mem_cons, or_false, view0, mapO])
 ·have c1 : ((i : Int) < (j : Int)) = False := by simp; omega
  obtain rfl : i = k := by omega
  by_cases hkl : i < l.length
  ·have c2 : ((i : Int) < (l.length : Int)) = True := by simp; omega
   obtain ⟨d, hd⟩ : ∃ d, l[i]? = some d := ⟨_, List.getElem?_eq_getElem (by omega)⟩
   have hd' := rowsE_get hd
   have pl := place1E_p d id
   simp only [En.row] at pl
   have e : isAtB En.id l i id = (cmp d.id id == 0) := by
    unfold isAtB; rw [hd, Bool.eq_iff_iff]; simp [cmp_zero]
   rw [e]
   repeat' ((first | apply Run_seq | apply Run_skip | apply Run_block | apply Run_blk | refine Run_exit rfl ?_ | apply Run_ret | apply Run_nil | apply Run_condK | apply Run_ops mixed | with_reducible refine PostV_open ?_ | with_reducible refine ro_callV ?_ | refine CallV_pure (pl) ?_ ?_ | simp (disch := omega) only [w64, wu64, wu32, wu16, wu8, Int.tdiv_eq_ediv_of_nonneg, Int.tmod_eq_emod_of_nonneg] | ((first | refine GuardK_split ?_ ?_ | refine CondK_split ?_ ?_) <;> intro hc <;> (try simp only [hc]) <;> try simp at hc) | (with_reducible refine And.intro ?_ ?_; (focus ((repeat' (with_reducible refine And.intro ?_ ?_)) <;> first | exact trivial | assumption | (simp; done) | (simp only [List.length_map] at *; omega) | omega | (simp [D.cells, D.ok, D.one, D.pt, D.pt1]; done)))) | (with_reducible intro x hx) | omega) <;> (try simp only [rowsE_len, c1, c2, hd', En.row, Nat.reduceBEq, reduceIte, Nat.reduceAdd, binD, binInt, pickD, loadD, D.pt, D.pt1, D.pt0, D.norm1, cond_true, view, view2, view1, view0, mapO, D.sc, D.sc1, D.sc2, ofRes, fw]))
  ·have c2 : ((i : Int) < (l.length : Int)) = False := by simp; omega
   have e : isAtB En.id l i id = false := by unfold isAtB; rw [List.getElem?_eq_none (by omega)]
   rw [e]
   repeat' ((first | apply Run_seq | apply Run_skip | apply Run_block | apply Run_blk | refine Run_exit rfl ?_ | apply Run_ret | apply Run_nil | apply Run_condK | apply Run_ops mixed | with_reducible refine PostV_open ?_ | with_reducible refine ro_callV ?_ | simp (disch := omega) only [w64, wu64, wu32, wu16, wu8, Int.tdiv_eq_ediv_of_nonneg, Int.tmod_eq_emod_of_nonneg] | ((first | refine GuardK_split ?_ ?_ | refine CondK_split ?_ ?_) <;> intro hc <;> (try simp only [hc]) <;> try simp at hc) | (with_reducible refine And.intro ?_ ?_; (focus ((repeat' (with_reducible refine And.intro ?_ ?_)) <;> first | exact trivial | assumption | (simp; done) | (simp only [List.length_map] at *; omega) | omega | (simp [D.cells, D.ok, D.one, D.pt, D.pt1]; done)))) | (with_reducible intro x hx) | omega) <;> (try simp only [c1, c2, Nat.reduceBEq, reduceIte, binD, binInt, pickD, D.pt0, D.norm1, cond_false, view, view2, view1, view0, mapO, ofRes, fw]))
theorem entry_p (u : Us) (id : Int) (hl : u.evs.length ≤ 140737488351232) (hs : u.evs.Pairwise fun a b => a.id < b.id) :
  PureD Try.prog 52 [.agg u.row, .int .u32 id] (.tup [.int .i64 (lowB En.id u.evs id), .bool (isAtB En.id u.evs (lowB En.id u.evs id) id)]) := by
 refine pureV Try.func52 low52 (by simp [c52]) ?_
 simp only [c52, Us.row]
 repeat' ((first | apply Run_seq | apply Run_ret | apply Run_nil | apply Run_ops mixed | with_reducible refine PostV_open ?_ | with_reducible refine ro_callV ?_ | refine CallV_pure (binE_p u.evs id _ hl (lowB_le En.id u.evs id) (lowB_spec En.id u.evs id hs)) ?_ ?_ | (with_reducible refine And.intro ?_ ?_; (focus ((repeat' (with_reducible refine And.intro ?_ ?_)) <;> first | exact trivial | assumption | (simp; done) | (simp only [List.length_map] at *; omega) | omega | (simp [D.cells, D.ok, D.one, D.pt, D.pt1]; done)))) | (with_reducible intro x hx) | omega) <;> (try simp only [Nat.reduceBEq, argEnv, reduceIte, Nat.reduceAdd, reduceCtorEq, faddrD, extD, loadD, D.cells, D.ok, D.one, D.pt, D.pt1, D.pt0, D.norm1, ne_eq, view, view2, view1, view0, mapO, D.sc, D.sc1, D.sc2, ofRes, fw]))
end Go.Proofs.Ytoleaiaeghbffaa

namespace Go.Proofs.Ytoleaiaeghbffaa
open Go Go.Vi
theorem clE_ne (tg : Bool) (l : List (List D)) (hne : l ≠ []) (hsz : ∀ r ∈ l, r.length = 17) (hl : l.length ≤ 400000000000) : CallG Try.prog 54 [.list none tg l] [] (.own 0 0 l.length l.length 17 none) [acc true 17 true l] := by
 refine callG Try.func54 low54 (by simp [c54]) ?_
 simp only [c54]
 refine Run_nils 0 rfl fun b hb => ?_
 obtain rfl : b = false := by
  cases b with
  | false => rfl
  | true => exact absurd (hb rfl) hne
 repeat' ((first | apply Run_seq | apply Run_skip | apply Run_ret | apply Run_nil | apply Run_condK | apply Run_ops mixed | with_reducible refine PostG_open ?_ | (refine CondK_split ?_ ?_ <;> intro hc <;> (try simp only [hc]) <;> try simp at hc) | (with_reducible refine And.intro ?_ ?_; (focus ((repeat' (with_reducible refine And.intro ?_ ?_)) <;> first | exact trivial | assumption | (simp; done) | (simp only [List.length_map] at *; omega) | omega | (simp [D.cells, D.ok, D.one, D.pt, D.pt1]; done)))) | (with_reducible intro x hx) | omega) <;> (try simp only [Nat.reduceBEq, argEnv, eqD, eqN, boolD, D.cells, D.ok, D.one, cond_false, implies_true, ofRes, fw]))
 rw [acc_b' (by simpa using hne)]
 refine GcTo_own [0] (by rfl) (by simp) (by simp [keptW, ObKW, ObW, imp_self, acc_real, acc_nl, acc_pure, acc_fz, acc_sz, acc_rows, acc_spare, pull, pull2, pull1, pull0, idx_hit, pullOb])
theorem clE_nil (tg : Bool) : CallG Try.prog 54 [.list (some true) tg []] [] (.list (some true) true []) [] := by
 refine callG Try.func54 low54 (by simp [c54]) ?_
 simp only [c54]
 repeat' ((first | apply Run_seq | apply Run_skip | apply Run_ret | apply Run_nil | apply Run_condK | apply Run_ops mixed | with_reducible refine PostG_open ?_ | (refine CondK_split ?_ ?_ <;> intro hc <;> (try simp only [hc]) <;> try simp at hc) | (with_reducible refine And.intro ?_ ?_; (focus ((repeat' (with_reducible refine And.intro ?_ ?_)) <;> first | exact trivial | assumption | (simp; done) | (simp only [List.length_map] at *; omega) | omega | (simp [D.cells, D.ok, D.one, D.pt, D.pt1]; done)))) | (with_reducible intro x hx) | omega) <;> (try simp only [Nat.reduceBEq, argEnv, eqD, eqN, boolD, cond_false, ofRes, fw]))
 refine GcTo_own [] (by rfl) (by simp) (by simp [keptW, D.pt0, pull, pull2, pull1, pull0])
theorem clE_emp (tg : Bool) : CallG Try.prog 54 [.list (some false) tg []] [] (.own 0 0 0 0 17 none) [acc false 17 true []] := by
 refine callG Try.func54 low54 (by simp [c54]) ?_
 simp only [c54]
 repeat' ((first | apply Run_seq | apply Run_skip | apply Run_ret | apply Run_nil | apply Run_condK | apply Run_ops mixed | with_reducible refine PostG_open ?_ | (refine CondK_split ?_ ?_ <;> intro hc <;> (try simp only [hc]) <;> try simp at hc) | (with_reducible refine And.intro ?_ ?_; (focus ((repeat' (with_reducible refine And.intro ?_ ?_)) <;> first | exact trivial | assumption | (simp; done) | (simp only [List.length_map] at *; omega) | omega | (simp [D.cells, D.ok, D.one, D.pt, D.pt1]; done)))) | (with_reducible intro x hx) | omega) <;> (try simp only [Nat.reduceBEq, argEnv, Nat.reduceMul, Nat.reduceLeDiff, eqD, eqN, boolD, D.cells, D.ok, D.one, cond_false, implies_true, ofRes, fw]))
 refine GcTo_own [0] (by rfl) (by simp) (by simp [keptW, ObKW, ObW, imp_self, acc_real, acc_nl, acc_pure, acc_fz, acc_sz, acc_rows, acc_spare, pull, pull2, pull1, pull0, idx_hit, pullOb])
theorem inE_nil (b : Bool) (d : List D) (hd : d.length = 17) (tg : Bool) (nl : Option Bool) : CallG Try.prog 55 [.list (some b) true [], .int .i64 0, .list nl tg [d]] []
  (.own 0 0 1 1 17 none) [acc true 17 true [d]] := by
 refine callG Try.func55 low55 (by simp [c55]) ?_
 simp only [c55]
 repeat' ((first | apply Run_seq | apply Run_skip | apply Run_ret | apply Run_nil | apply Run_condK | apply Run_ops mixed | apply Run_opsX mixed | with_reducible refine PostG_open ?_ | with_reducible refine ro_callV ?_ | simp (disch := omega) only [w64, wu64, wu32, wu16, wu8, Int.tdiv_eq_ediv_of_nonneg, Int.tmod_eq_emod_of_nonneg] | (with_reducible refine SliceK_own rfl rfl ?_ ?_; (focus ((try simp only [reduceIte, Nat.sub_zero, fw]) <;> ((repeat' (with_reducible refine And.intro ?_ ?_)) <;> first | exact trivial | assumption | (simp; done) | (simp only [List.length_map] at *; omega) | omega | (simp [D.cells, D.ok, D.one, D.pt, D.pt1]; done))))) | (refine CondK_split ?_ ?_ <;> intro hc <;> (try simp only [hc]) <;> try simp at hc) | (with_reducible refine And.intro ?_ ?_; (focus ((repeat' (with_reducible refine And.intro ?_ ?_)) <;> first | exact trivial | assumption | (simp; done) | (simp only [List.length_map] at *; omega) | omega | (simp [D.cells, D.ok, D.one, D.pt, D.pt1]; done)))) | (with_reducible intro x hx) | omega) <;> (try simp only [hd, forall_eq, Nat.reduceBEq, argEnv, reduceIte, Nat.reduceAdd, Nat.reduceMul, Nat.reduceLeDiff, binD, binInt, lenD, sliceD, bndD, implies_true, Int.reduceToNat, ofRes, fw]))
 refine GcTo_own [0] (by rfl) (by simp) (by simp [keptW, ObKW, ObW, imp_self, acc_real, acc_nl, acc_pure, acc_fz, acc_sz, acc_rows, acc_spare, pull, pull2, pull1, pull0, idx_hit, pullOb])
set_option maxHeartbeats 1000000 in
theorem inE_p (l : List (List D)) (k : Nat) (d : List D) (tg : Bool) (nl : Option Bool) (hne : l ≠ []) (hsz : ∀ r ∈ l, r.length = 17) (hd : d.length = 17) (hp : (l.all fun r => r.all D.pt1) = true) (hpd : (d.all D.pt1) = true) (hl : l.length ≤ 400000000000) (hk : k ≤ l.length) : CallG Try.prog 55 [.own 0 0 l.length l.length 17 none, .int .i64 k, .list nl tg [d]] [acc true 17 true l]
  (.own 0 0 (l.length + 1) (l.length + 1) 17 none) [acc true 17 true (l.take k ++ d :: l.drop k)] := by
 refine callG Try.func55 low55 (by simp [c55]) ?_
 simp only [c55]
 have hne' : l.isEmpty = false := by simpa using hne
 have hdn : (d = []) = False := by
  rw [eq_iff_iff]
  refine ⟨fun h => ?_, False.elim⟩
  rw [h] at hd
  cases hd
 have hszd : ∀ r ∈ l.drop k, r.length = 17 := fun r hr => hsz r (List.mem_of_mem_drop hr)
 by_cases hkl : k = l.length
 ·subst hkl
  have c2 : ((l.length : Int) == (l.length : Int)) = true := by simp
  repeat' ((first | apply Run_seq | apply Run_skip | apply Run_ret | apply Run_nil | apply Run_condK | apply Run_ops mixed | apply Run_opsX mixed | with_reducible refine PostG_open ?_ | with_reducible refine ro_callV ?_ | simp (disch := omega) only [w64, wu64, wu32, wu16, wu8, Int.tdiv_eq_ediv_of_nonneg, Int.tmod_eq_emod_of_nonneg] | (with_reducible refine SliceK_own rfl rfl ?_ ?_; (focus ((try simp only [Int.natCast_nonneg, Int.le_refl]) <;> ((repeat' (with_reducible refine And.intro ?_ ?_)) <;> first | exact trivial | assumption | (simp; done) | (simp only [List.length_map] at *; omega) | omega | (simp [D.cells, D.ok, D.one, D.pt, D.pt1]; done))))) | (refine CondK_split ?_ ?_ <;> intro hc <;> (try simp only [hc]) <;> try simp at hc) | (with_reducible refine And.intro ?_ ?_; (focus ((repeat' (with_reducible refine And.intro ?_ ?_)) <;> first | exact trivial | assumption | (simp; done) | (simp only [List.length_map] at *; omega) | omega | (simp [D.cells, D.ok, D.one, D.pt, D.pt1]; done)))) | (with_reducible intro x hx) | omega) <;> (try simp only [c2, hd, forall_eq, Nat.reduceBEq, argEnv, reduceIte, Nat.reduceAdd, Nat.reduceLeDiff, binD, binInt, lenD, ofRes, fw]))
  have e : l.take l.length ++ d :: l.drop l.length = l ++ [d] := by simp
  rw [e]
  refine GcTo_own [0] (by rfl) (by simp) (by simp [keptW, ObKW, ObW, imp_self, acc_real, acc_nl, acc_pure, acc_fz, acc_sz, acc_rows, acc_spare, pull, pull2, pull1, pull0, idx_hit, pullOb])
 ·have c2 : ((k : Int) == (l.length : Int)) = false := by simp; omega
  have e3 : ((l.length : Int) + ((1 : Nat) : Int) - (k : Int)).toNat = l.length + 1 - k := by omega
  have c4 : ((k : Int) ≤ (l.length : Int)) = True := by simp; omega
  repeat' ((first | apply Run_seq | apply Run_skip | apply Run_ret | apply Run_nil | apply Run_condK | apply Run_ops mixed | apply Run_opsX mixed | with_reducible refine PostG_open ?_ | with_reducible refine ro_callV ?_ | simp (disch := omega) only [w64] | (with_reducible refine SliceK_own rfl rfl ?_ ?_; (focus ((try simp only [Int.natCast_nonneg, Int.le_refl]) <;> ((repeat' (with_reducible refine And.intro ?_ ?_)) <;> first | exact trivial | assumption | (simp; done) | (simp only [List.length_map] at *; omega) | omega | (simp []; done))))) | (refine CondK_split ?_ ?_ <;> intro hc <;> (try simp only [hc]) <;> try simp at hc) | (with_reducible refine And.intro ?_ ?_; (focus ((repeat' (with_reducible refine And.intro ?_ ?_)) <;> first | exact trivial | assumption | (simp; done) | (simp only [List.length_map] at *; omega) | omega | (simp [D.cells, D.ok, D.one, D.pt, D.pt1]; done)))) | (with_reducible intro x hx) | omega) <;> (try simp only [hne', c2, e3, CapO, Nat.reduceBEq, argEnv, reduceIte, Nat.reduceAdd, binD, binInt, lenD, D.pt1, fw]))
  ·refine AppO_over (c := x) (by omega) ⟨by simp, by simp only [List.length_replicate]; omega, by simp only [List.length_replicate]; omega⟩ ⟨by simp only [List.length_replicate]; omega, rfl, rfl, by simp only [List.length_replicate]; omega, rfl⟩ ?_
   have e4 : k - 0 + (l.length + 1 - k) = l.length + 1 := by omega
   have e5 : winD 0 (k - 0) l.length l = l.take k := by
    unfold winD
    simp [hkl]
   have e6 : min k l.length = k := by omega
   have e7 : min 1 (l.length + 1 - k) = 1 := by omega
   have e8 : winD k (l.length - k) l.length l = l.drop k := by
    unfold winD
    split
    ·rename_i h; rw [h.1]; rfl
    ·rw [List.take_of_length_le (by simp)]
   have e9 : ((k : Int) + ((1 : Nat) : Int)).toNat = k + 1 := by omega
   have e10 : min (l.length - k) (l.length + 1 - (k + 1)) = l.length - k := by omega
   simp only [e4, List.length_replicate, e5]
   repeat' ((first | apply Run_seq | apply Run_skip | apply Run_ret | apply Run_nil | apply Run_condK | apply Run_ops mixed | apply Run_opsX mixed | with_reducible refine PostG_open ?_ | with_reducible refine ro_callV ?_ | simp (disch := omega) only [w64] | (with_reducible refine SliceK_own rfl rfl ?_ ?_; (focus ((try simp only [Int.natCast_nonneg, Int.le_refl]) <;> ((repeat' (with_reducible refine And.intro ?_ ?_)) <;> first | exact trivial | assumption | (simp; done) | (simp only [List.length_map] at *; omega) | omega | (simp [D.cells, D.ok, D.one, D.pt, D.pt1]; done))))) | (refine CondK_split ?_ ?_ <;> intro hc <;> (try simp only [hc]) <;> try simp at hc) | (with_reducible refine And.intro ?_ ?_; (focus ((repeat' (with_reducible refine And.intro ?_ ?_)) <;> first | exact trivial | assumption | (simp; done) | (simp only [List.length_map] at *; omega) | omega | (simp [D.cells, D.ok, D.one, D.pt, D.pt1]; done)))) | (with_reducible intro x hx) | omega) <;> (try simp only [e6, e7, e8, e9, e10, hd, forall_eq, Nat.reduceBEq, reduceIte, binD, binInt, binStr, ofRes, fw]))
   have e11 : List.take (l.length + 1 - (k + 1)) (List.drop k l) = l.drop k := by rw [List.take_of_length_le (by simp)]
   rw [e11, ins_eqA (by rw [List.length_take]; omega) (by omega), acc_ne' ins_isE]
   refine GcTo_reb [1] (by first | (simp [preW, acc_sz, acc_rows]; done) | (simp [preW, acc_sz, acc_rows]; omega)) (by simp) (by simp [keptW, ObKW, ObW, imp_self, pull, pull2, pull1, pull0, idx_hit, pullOb])
  ·refine SliceK_spare (c := x) rfl rfl rfl ⟨rfl, by omega, by omega, by omega⟩ ⟨by simp, rfl, rfl, by omega, rfl, by omega⟩ ?_
   have e4 : ((l.length : Int) + ((1 : Nat) : Int)).toNat = l.length + 1 := by omega
   have e9 : ((k : Int) + ((1 : Nat) : Int)).toNat = k + 1 := by omega
   have f1 : l.length + 1 - l.length = 1 := by omega
   obtain ⟨u, hu⟩ : ∃ u, List.replicate 17 D.undef = u := ⟨_, rfl⟩
   obtain ⟨U, hU⟩ : ∃ U, List.replicate 1 u = U := ⟨_, rfl⟩
   have hUl : U.length = 1 := by rw [← hU]; rfl
   have f2 : winD k (l.length + 1 - k) (l.length + 1) (l ++ U) = l.drop k ++ U := by
    unfold winD
    split
    ·rename_i h; rw [h.1]; rfl
    ·rw [List.drop_append_of_le_length (by omega), List.take_of_length_le (by simp [hUl]; omega)]
   have f3 : List.take (l.length + 1 - (k + 1)) (l.drop k ++ U) = l.drop k := List.take_left' (by simp)
   have f6 : (∀ r ∈ l.drop k ++ U, r.length = 17) = True := by
    rw [eq_iff_iff]
    refine ⟨fun _ => trivial, fun _ r hr => ?_⟩
    rcases List.mem_append.1 hr with h | h
    ·exact hszd r h
    ·rw [← hU] at h; rw [List.eq_of_mem_replicate h, ← hu]; rfl
   have f4 : (l.drop k).all (fun r => r.all D.one) = true := by
    simp only [List.all_eq_true]
    intro r hr d hd
    exact pt1_one (List.all_eq_true.1 (List.all_eq_true.1 hp r (List.mem_of_mem_drop hr)) d hd)
   have f5 : min (l.length - k + 1) (l.length + 1 - (k + 1)) = l.length - k := by omega
   simp only [e4, Nat.sub_zero, hu]
   repeat' ((first | apply Run_seq | apply Run_skip | apply Run_nil | apply Run_condK | apply Run_ops mixed | apply Run_opsX mixed | with_reducible refine PostG_open ?_ | with_reducible refine ro_callV ?_ | simp (disch := omega) only [w64] | (with_reducible refine SliceK_own rfl rfl ?_ ?_; (focus ((try simp only [Int.natCast_nonneg, Int.le_refl]) <;> ((repeat' (with_reducible refine And.intro ?_ ?_)) <;> first | exact trivial | assumption | (simp; done) | (simp only [List.length_map] at *; omega) | omega | (simp [D.cells, D.ok, D.one, D.pt, D.pt1]; done))))) | (refine CondK_split ?_ ?_ <;> intro hc <;> (try simp only [hc]) <;> try simp at hc) | (with_reducible refine And.intro ?_ ?_; (focus ((repeat' (with_reducible refine And.intro ?_ ?_)) <;> first | exact trivial | assumption | (simp; done) | (simp only [List.length_map] at *; omega) | omega | (simp [D.cells, D.ok, D.one, D.pt, D.pt1]; done)))) | (with_reducible intro x hx) | omega) <;> (try simp only [e9, f1, f2, f3, f4, f5, f6, hUl, hU, Nat.sub_zero, hd, hdn, forall_eq, Nat.reduceBEq, reduceIte, binD, binInt, binStr, okD, unD, ne_eq, fw]))
   rw [ins_eqB rfl hUl (by omega), acc_ne' ins_isE]
   refine Run_ent (Ent_pure 0 rfl rfl (by
    show (l.take k ++ d :: l.drop k).all (fun r => r.all D.pt1) = true
    simp only [List.all_append, List.all_cons, Bool.and_eq_true]
    exact ⟨List.all_eq_true.2 fun r hr => List.all_eq_true.1 hp r (List.mem_of_mem_take hr), hpd, List.all_eq_true.2 fun r hr => List.all_eq_true.1 hp r (List.mem_of_mem_drop hr)⟩)) ?_
   repeat' ((first | apply Run_seq | apply Run_skip | apply Run_ret | apply Run_nil | apply Run_condK | apply Run_ops mixed | apply Run_opsX mixed | with_reducible refine PostG_open ?_ | with_reducible refine ro_callV ?_ | simp (disch := omega) only [w64, wu64, wu32, wu16, wu8, Int.tdiv_eq_ediv_of_nonneg, Int.tmod_eq_emod_of_nonneg] | (with_reducible refine SliceK_own rfl rfl ?_ ?_; (focus ((try simp only [reduceIte, Nat.sub_zero, fw]) <;> ((repeat' (with_reducible refine And.intro ?_ ?_)) <;> first | exact trivial | assumption | (simp; done) | (simp only [List.length_map] at *; omega) | omega | (simp [D.cells, D.ok, D.one, D.pt, D.pt1]; done))))) | (refine CondK_split ?_ ?_ <;> intro hc <;> (try simp only [hc]) <;> try simp at hc) | (with_reducible refine And.intro ?_ ?_; (focus ((repeat' (with_reducible refine And.intro ?_ ?_)) <;> first | exact trivial | assumption | (simp; done) | (simp only [List.length_map] at *; omega) | omega | (simp [D.cells, D.ok, D.one, D.pt, D.pt1]; done)))) | (with_reducible intro x hx) | omega) <;> (try simp only [ofRes, fw]))
   refine GcTo_own [0] (by rfl) (by simp) (by simp [keptW, ObKW, ObW, or_true, imp_self, pull, pull2, pull1, pull0, idx_hit, pullOb])
theorem clE_any (tg : Bool) : CallG Try.prog 54 [.list none tg []] [] (.list none true []) [] :=
 CallG.nils fun b _ => by
  cases b
  ·exact (clE_emp tg).emp
  ·exact (clE_nil tg).nl
theorem inE_any (d : List D) (hd : d.length = 17) (tg : Bool) (nl : Option Bool) : CallG Try.prog 55 [.list none true [], .int .i64 0, .list nl tg [d]] []
  (.own 0 0 1 1 17 none) [acc true 17 true [d]] := CallG.nils fun b _ => inE_nil b d hd tg nl
end Go.Proofs.Ytoleaiaeghbffaa

namespace Go.Proofs.Ytoleaiaeghbffaa
open Go Go.Vi

def zrE : List D := [.int .u32 0, .int .i64 0, .int .i64 0, .bool false, .bool false, .int .i64 0, .int .i64 0, .int .i64 0, .int .i64 0, .list (some true) true [], .list (some true) true [], .list (some true) true [], .list (some true) true [], .int .i64 0, .list (some true) true [], .list (some true) true [], .list (some true) true []]
set_option maxHeartbeats 1000000 in
theorem delE_p (l : List (List D)) (k : Nat) (hsz : ∀ r ∈ l, r.length = 17) (hp : (l.all fun r => r.all D.pt1) = true) (hl : l.length ≤ 400000000000) (hk : k < l.length) : CallG Try.prog 56 [.own 0 0 l.length l.length 17 none, .int .i64 k, .int .i64 (k + 1)] [acc true 17 true l]
  (.own 0 0 (l.length - 1) l.length 17 none) [acc true 17 true (l.take k ++ l.drop (k + 1) ++ [zrE])] := by
 refine callG Try.func56 low56 (by simp [c56]) ?_
 simp only [c56]
 have hne' : l.isEmpty = false := by
  cases l with
  | nil => simp at hk
  | cons => rfl
 have c2 : ((k : Int) == (k : Int) + 1) = false := by simp; omega
 have e1 : (1 : Int) + (k : Int) = (k : Int) + 1 := by omega
 have e2 : ((k : Int) + 1).toNat = k + 1 := by omega
 have e3 : winD (k + 1) (l.length - (k + 1)) l.length l = l.drop (k + 1) := by
  unfold winD
  rw [if_neg (by omega), List.take_of_length_le (by simp)]
 repeat' ((first | apply Run_seq | apply Run_skip | apply Run_ret | apply Run_nil | apply Run_condK | apply Run_ops mixed | apply Run_opsX mixed | with_reducible refine PostG_open ?_ | (with_reducible refine SliceK_own rfl rfl ?_ ?_; (focus ((try simp only [Int.natCast_nonneg, Int.le_refl]) <;> ((repeat' (with_reducible refine And.intro ?_ ?_)) <;> first | exact trivial | assumption | (simp; done) | (simp only [List.length_map] at *; omega) | omega | (simp [D.cells, D.ok, D.one, D.pt, D.pt1]; done))))) | (refine CondK_split ?_ ?_ <;> intro hc <;> (try simp only [hc]) <;> try simp at hc) | (with_reducible refine And.intro ?_ ?_; (focus ((repeat' (with_reducible refine And.intro ?_ ?_)) <;> first | exact trivial | assumption | (simp; done) | (simp only [List.length_map] at *; omega) | omega | (simp [D.cells, D.ok, D.one, D.pt, D.pt1]; done)))) | (with_reducible intro x hx) | omega) <;> (try simp only [c2, e2, e3, Nat.reduceBEq, argEnv, reduceIte, Nat.reduceAdd, binD, binInt, lenD, slice3D, bndD, fw]))
 refine ⟨fun r hr => hsz r (List.mem_of_mem_drop hr), ?_⟩
 have e4 : k + (l.length - (k + 1)) = l.length - 1 := by omega
 refine AppO_in (by omega) ⟨rfl, by simp only [List.length_drop]; omega, by simp only [List.length_drop]; omega⟩ ⟨rfl, by simp only [List.length_drop]; omega, by simp⟩ ?_
 simp only [Nat.sub_zero, Nat.zero_add, List.length_drop, e4]
 repeat' ((first | apply Run_seq | apply Run_skip | apply Run_ret | apply Run_nil | apply Run_condK | apply Run_ops mixed | apply Run_opsX mixed | with_reducible refine PostG_open ?_ | (with_reducible refine SliceK_own rfl rfl ?_ ?_; (focus ((try simp only [Int.natCast_nonneg]) <;> ((repeat' (with_reducible refine And.intro ?_ ?_)) <;> first | exact trivial | assumption | (simp; done) | (simp only [List.length_map] at *; omega) | omega | (simp []; done))))) | (refine CondK_split ?_ ?_ <;> intro hc <;> (try simp only [hc]) <;> try simp at hc) | (with_reducible refine And.intro ?_ ?_; (focus ((repeat' (with_reducible refine And.intro ?_ ?_)) <;> first | exact trivial | assumption | (simp; done) | (simp only [List.length_map] at *; omega) | omega | (simp [D.cells, D.ok, D.one, D.pt, D.pt1]; done)))) | (with_reducible intro x hx) | omega) <;> (try simp only [hne', Nat.reduceBEq, lenD, fw]))
 have e5 : (l.take k ++ l.drop (k + 1) ++ l.drop (l.length - 1)).length = l.length := by simp only [List.length_append, List.length_take, List.length_drop]; omega
 have e6 : List.take (l.length - 1) (l.take k ++ l.drop (k + 1) ++ l.drop (l.length - 1)) = l.take k ++ l.drop (k + 1) := List.take_left' (by simp only [List.length_append, List.length_take, List.length_drop]; omega)
 have e7 : List.drop (l.length - 1 + 1) (l.take k ++ l.drop (k + 1) ++ l.drop (l.length - 1)) = [] := List.drop_eq_nil_of_le (by rw [e5]; omega)
 generalize l.take k ++ l.drop (k + 1) ++ l.drop (l.length - 1) = m at e5 e6 e7 ⊢
 refine SliceK_more rfl rfl rfl ⟨rfl, by omega, by omega, by omega⟩ ⟨e5, rfl, by omega⟩ ?_
 have e8 : l.length - (l.length - 1) = 1 := by omega
 simp only [e5, e6, e7, e8, List.replicate_one, ro_nil, ro_clear, ClearK_own, ClearO_some, lk_hit, put_some, put_none, ev_t, Nat.reduceAdd, D.pt1, true_and, and_self, Bool.and_true, List.getElem?_cons_zero, List.length_cons, List.length_nil, List.append_nil, List.all_cons, List.all_nil, List.set_cons_zero, Nat.zero_add, Int.toNat_natCast]
 repeat' ((first | apply Run_seq | apply Run_skip | apply Run_ret | apply Run_nil | apply Run_condK | apply Run_ops mixed | apply Run_opsX mixed | with_reducible refine PostG_open ?_ | (with_reducible refine SliceK_own rfl rfl ?_ ?_; (focus ((try simp only [reduceIte, Nat.sub_zero, fw]) <;> ((repeat' (with_reducible refine And.intro ?_ ?_)) <;> first | exact trivial | assumption | (simp; done) | (simp only [List.length_map] at *; omega) | omega | (simp [D.cells, D.ok, D.one, D.pt, D.pt1]; done))))) | (refine CondK_split ?_ ?_ <;> intro hc <;> (try simp only [hc]) <;> try simp at hc) | (with_reducible refine And.intro ?_ ?_; (focus ((repeat' (with_reducible refine And.intro ?_ ?_)) <;> first | exact trivial | assumption | (simp; done) | (simp only [List.length_map] at *; omega) | omega | (simp [D.cells, D.ok, D.one, D.pt, D.pt1]; done)))) | (with_reducible intro x hx) | omega) <;> (try simp only [Nat.reduceBEq, ofRes, fw]))
 rw [acc_ne' (rows := l.take k ++ l.drop (k + 1) ++ [zrE]) (by simp)]
 unfold zrE
 refine GcTo_own [0] (by rfl) (by simp) (by simp [keptW, ObKW, ObW, imp_self, pull, pull2, pull1, pull0, idx_hit, pullOb])
end Go.Proofs.Ytoleaiaeghbffaa
