import Derived.Test.YtoleaiaeghbffaaCMD
import Derived.Test.YtoleaiaeghbffaaVi25
set_option linter.unusedVariables false
set_option linter.unusedSimpArgs false
set_option linter.unnecessarySimpa false
namespace Go.Proofs.Ytoleaiaeghbffaa
open Go Go.Vi


def wideB (n : Int) : Bool := decide (n < -900 ∨ 900 < n)
theorem wide_p (n : Int) : PureD Try.prog 90 [.int .i64 n] (.bool (wideB n)) := by
 refine pureV Try.func90 low90 (by simp [c90]) ?_
 simp only [c90]
 repeat' ((first | apply Run_seq | apply Run_ret | apply Run_nil | apply Run_ops mixed | with_reducible refine PostV_open ?_ | (refine GuardK_split ?_ ?_ <;> intro hc <;> (try simp only [hc]) <;> try simp at hc) | (with_reducible refine And.intro ?_ ?_; (focus ((repeat' (with_reducible refine And.intro ?_ ?_)) <;> first | exact trivial | assumption | (simp; done) | (simp only [List.length_map] at *; omega) | omega | (simp [D.cells, D.ok, D.one, D.pt, D.pt1]; done)))) | (with_reducible intro x hx) | omega) <;> (try simp only [Nat.reduceBEq, argEnv, reduceIte, binD, binInt, pickD, D.pt0, D.norm1, cond_true, cond_false, Int.reduceNeg, view, view2, view1, view0, ofRes, fw]))
 all_goals (unfold wideB; rw [Bool.eq_iff_iff]; simp [*]; try omega)
/-- A zone's turn may be; two turns are far enough from each other. -/
def turnB (t : Int × Int) : Bool := !wideB t.2 && decide (0 ≤ t.1 ∧ t.1 ≤ 158310720)
def farT (a b : Int × Int) : Prop := a.1 + 2880 ≤ b.1
instance (a b : Int × Int) : Decidable (farT a b) := inferInstanceAs (Decidable (_ ≤ _))
theorem farT_trans (a b c : Int × Int) (h : farT a b) (h' : farT b c) : farT a c := by unfold farT at *; omega
def zoneB (base : Int) (l : List (Int × Int)) : Bool := (!wideB base && decide (l.length ≤ 700)) && (l.all turnB && decide (l.Pairwise farT))
set_option maxHeartbeats 4000000 in
theorem zoneMay_p (base : Int) (l : List (Int × Int)) (hl : l.length ≤ 140737488351232) : PureD Try.prog 70 [.agg [.int .i64 base, L (row2 .i64 .i64 l)]] (.bool (zoneB base l)) := by
 refine pureV Try.func70 low70 (by simp [c70]) ?_
 simp only [c70]
 have wb := wide_p base
 by_cases hb : wideB base = true
 ·rw [hb] at wb
  have e : zoneB base l = false := by simp [zoneB, hb]
  rw [e]
  repeat' ((first | apply Run_seq | apply Run_skip | apply Run_block | apply Run_blk | refine Run_exit rfl ?_ | apply Run_ret | apply Run_nil | apply Run_condK | apply Run_ops mixed | apply Run_opsX mixed | with_reducible refine PostV_open ?_ | with_reducible refine ro_callV ?_ | with_reducible refine ro_callVX ?_ | refine CallV_pure (wb) ?_ ?_ | simp (disch := omega) only [w64, wu64, wu32, wu16, wu8, Int.tdiv_eq_ediv_of_nonneg, Int.tmod_eq_emod_of_nonneg] | ((first | refine GuardK_split ?_ ?_ | refine CondK_split ?_ ?_) <;> intro hc <;> (try simp only [hc]) <;> try simp at hc) | (with_reducible refine And.intro ?_ ?_; (focus ((repeat' (with_reducible refine And.intro ?_ ?_)) <;> first | exact trivial | assumption | (simp; done) | (simp only [List.length_map] at *; omega) | omega | (simp [D.cells, D.ok, D.one, D.pt, D.pt1]; done)))) | (with_reducible intro x hx) | omega) <;> (try simp only [Nat.reduceBEq, argEnv, reduceIte, Nat.reduceAdd, reduceCtorEq, pickD, faddrD, loadD, D.cells, D.ok, D.one, D.pt, D.pt1, D.pt0, D.norm1, cond_true, ne_eq, view, view2, view1, view0, mapO, D.sc, D.sc1, D.sc2, ofRes, fw]))
 have hb' : wideB base = false := by simpa using hb
 rw [hb'] at wb
 by_cases hbig : 700 < l.length
 ·have c0 : ((l.length : Int) > 700) = True := by simp; omega
  have e : zoneB base l = false := by
   have : ¬ l.length ≤ 700 := by omega
   simp [zoneB, this]
  rw [e]
  repeat' ((first | apply Run_seq | apply Run_skip | apply Run_block | apply Run_blk | refine Run_exit rfl ?_ | apply Run_ret | apply Run_nil | apply Run_condK | apply Run_ops mixed | apply Run_opsX mixed | with_reducible refine PostV_open ?_ | with_reducible refine ro_callV ?_ | with_reducible refine ro_callVX ?_ | refine CallV_pure (wb) ?_ ?_ | simp (disch := omega) only [w64, wu64, wu32, wu16, wu8, Int.tdiv_eq_ediv_of_nonneg, Int.tmod_eq_emod_of_nonneg] | ((first | refine GuardK_split ?_ ?_ | refine CondK_split ?_ ?_) <;> intro hc <;> (try simp only [hc]) <;> try simp at hc) | (with_reducible refine And.intro ?_ ?_; (focus ((repeat' (with_reducible refine And.intro ?_ ?_)) <;> first | exact trivial | assumption | (simp; done) | (simp only [List.length_map] at *; omega) | omega | (simp [D.cells, D.ok, D.one, D.pt, D.pt1]; done)))) | (with_reducible intro x hx) | omega) <;> (try simp only [row2_len, c0, Nat.reduceBEq, argEnv, reduceIte, Nat.reduceAdd, reduceCtorEq, binD, binInt, pickD, faddrD, lenD, loadD, D.cells, D.ok, D.one, D.pt, D.pt1, D.pt0, D.norm1, cond_false, ne_eq, view, view2, view1, view0, mapO, D.sc, D.sc1, D.sc2, ofRes, fw]))
 have c0 : ((l.length : Int) > 700) = False := by simp; omega
 have e0 : zoneB base l = (l.all turnB && decide (l.Pairwise farT)) := by
  have : l.length ≤ 700 := by omega
  simp [zoneB, hb', this]
 rw [e0]
 repeat' ((first | apply Run_seq | apply Run_skip | apply Run_block | apply Run_blk | refine Run_exit rfl ?_ | apply Run_ret | apply Run_nil | apply Run_condK | apply Run_ops mixed | apply Run_opsX mixed | with_reducible refine PostV_open ?_ | with_reducible refine ro_callV ?_ | with_reducible refine ro_callVX ?_ | refine CallV_pure (wb) ?_ ?_ | simp (disch := omega) only [w64, wu64, wu32, wu16, wu8, Int.tdiv_eq_ediv_of_nonneg, Int.tmod_eq_emod_of_nonneg] | ((first | refine GuardK_split ?_ ?_ | refine CondK_split ?_ ?_) <;> intro hc <;> (try simp only [hc]) <;> try simp at hc) | (with_reducible refine And.intro ?_ ?_; (focus ((repeat' (with_reducible refine And.intro ?_ ?_)) <;> first | exact trivial | assumption | (simp; done) | (simp only [List.length_map] at *; omega) | omega | (simp [D.cells, D.ok, D.one, D.pt, D.pt1]; done)))) | (with_reducible intro x hx) | omega) <;> (try simp only [row2_len, c0, Nat.reduceBEq, argEnv, reduceIte, Nat.reduceAdd, reduceCtorEq, binD, binInt, pickD, faddrD, lenD, loadD, D.cells, D.ok, D.one, D.pt, D.pt1, D.pt0, D.norm1, cond_false, ne_eq, view, view2, view1, view0, mapO, D.sc, D.sc1, D.sc2, fw]))
 refine Run_loop (ι := {i : Nat // i ≤ l.length ∧ (l.take i).all turnB = true ∧ (l.take i).Pairwise farT}) (fun i => ([(1, .ptr 0 0 0 1), (15, L (row2 .i64 .i64 l)), (16, .int .i64 l.length), (17, .int .i64 i.1)], [⟨true, false, true, false, 2, [[.int .i64 base, L (row2 .i64 .i64 l)]], some 0⟩])) (fun i => l.length - i.1) ⟨0, by simp⟩ ?_ ?_
 ·refine Ent_gc [0] (by rfl) (by simp) (by simp [keptW, ObKW, ObW, imp_self, pullOb, or_false]) (by simp [lk_hit, lk_miss, D.pt0, viewS_own', pull, pull2, pull1, pull0, idx_hit, gate, List.mem_cons, or_false, view0])
 rintro ⟨i, hi, ha, hp⟩ hk
 dsimp only at hk ⊢
 by_cases hlt : i < l.length
 ·have c2 : ((i : Int) < (l.length : Int)) = True := by simp; omega
  obtain ⟨x, hx⟩ : ∃ x, l[i]? = some x := ⟨_, List.getElem?_eq_getElem hlt⟩
  have rx := row2_get (k := .i64) (m := .i64) hx
  have wx := wide_p x.2
  by_cases hs : turnB x = true
  ·have hs' := hs
   simp only [turnB, Bool.and_eq_true, Bool.not_eq_true', decide_eq_true_eq] at hs'
   obtain ⟨n1, n2, n3⟩ := hs'
   rw [n1] at wx
   have d1 : (x.1 < 0) = False := by simp; omega
   have d2 : (x.1 > 158310720) = False := by simp; omega
   cases i with
   | zero =>
    repeat' ((first | apply Run_seq | apply Run_skip | apply Run_block | apply Run_blk | refine Run_exit rfl ?_ | apply Run_ret | apply Run_nil | apply Run_condK | apply Run_ops mixed | apply Run_opsX mixed | with_reducible refine PostV_open ?_ | with_reducible refine ro_callV ?_ | with_reducible refine ro_callVX ?_ | refine CallV_pure (wx) ?_ ?_ | simp (disch := omega) only [w64] | ((first | refine GuardK_split ?_ ?_ | refine CondK_split ?_ ?_) <;> intro hc <;> (try simp only [hc]) <;> try simp at hc) | (with_reducible refine And.intro ?_ ?_; (focus ((repeat' (with_reducible refine And.intro ?_ ?_)) <;> first | exact trivial | assumption | (simp; done) | (simp only [List.length_map] at *; omega) | omega | (simp [D.cells, D.ok, D.one, D.pt, D.pt1]; done)))) | (with_reducible intro x hx) | omega) <;> (try simp only [row2_len, c2, rx, d1, d2, Nat.reduceBEq, reduceIte, Nat.reduceAdd, reduceCtorEq, binD, binInt, pickD, faddrD, loadD, splice, D.cells, D.ok, D.one, D.pt, D.pt1, D.pt0, D.norm1, cond_false, ne_eq, view, view2, view1, view0, mapO, D.sc, D.sc1, D.sc2, fw]))
    refine hk ⟨1, by omega, all_step ha hx hs, by rw [List.take_add_one, hx]; simp⟩ _ _ (by dsimp only; omega) ?_
    dsimp only
    refine Ent_gc [0] (by rfl) (by simp) (by simp [keptW, ObKW, ObW, imp_self, pullOb, or_false]) (by simp [lk_hit, lk_miss, D.pt0, viewS_own', pull, pull2, pull1, pull0, idx_hit, gate, List.mem_cons, or_false, view0])
   | succ i =>
    obtain ⟨y, hy⟩ : ∃ y, l[i]? = some y := ⟨_, List.getElem?_eq_getElem (by omega)⟩
    have ry := row2_get (k := .i64) (m := .i64) hy
    have hty : turnB y = true := by
     have hm : y ∈ l.take (i + 1) := List.mem_of_getElem? (i := i) (by rw [List.getElem?_take, if_pos (by omega)]; exact hy)
     exact List.all_eq_true.1 ha y hm
    simp only [turnB, Bool.and_eq_true, Bool.not_eq_true', decide_eq_true_eq] at hty
    obtain ⟨_, m2, m3⟩ := hty
    have c7 : (((i + 1 : Nat) : Int) > 0) = True := by rw [eq_iff_iff]; exact ⟨fun _ => trivial, fun _ => by omega⟩
    have c8 : (((i + 1 : Nat) : Int) - 1) = (i : Int) := by omega
    by_cases hyx : farT y x
    ·have h9 := hyx
     unfold farT at h9
     have c9 : (x.1 < y.1) = False := by simp; omega
     have c10 : (x.1 - y.1 < 2880) = False := by simp; omega
     repeat' ((first | apply Run_seq | apply Run_skip | apply Run_block | apply Run_blk | refine Run_exit rfl ?_ | apply Run_ret | apply Run_nil | apply Run_condK | apply Run_ops mixed | apply Run_opsX mixed | with_reducible refine PostV_open ?_ | with_reducible refine ro_callV ?_ | with_reducible refine ro_callVX ?_ | refine CallV_pure (wx) ?_ ?_ | simp (disch := omega) only [w64] | ((first | refine GuardK_split ?_ ?_ | refine CondK_split ?_ ?_) <;> intro hc <;> (try simp only [hc]) <;> try simp at hc) | (with_reducible refine And.intro ?_ ?_; (focus ((repeat' (with_reducible refine And.intro ?_ ?_)) <;> first | exact trivial | assumption | (simp; done) | (simp only [List.length_map] at *; omega) | omega | (simp [D.cells, D.ok, D.one, D.pt, D.pt1]; done)))) | (with_reducible intro x hx) | omega) <;> (try simp only [row2_len, c2, c7, c8, c9, c10, d1, d2, rx, ry, Nat.reduceBEq, reduceIte, Nat.reduceAdd, reduceCtorEq, binD, binInt, pickD, faddrD, loadD, splice, D.cells, D.ok, D.one, D.pt, D.pt1, D.pt0, D.norm1, cond_true, cond_false, ne_eq, view, view2, view1, view0, mapO, D.sc, D.sc1, D.sc2, fw]))
     refine hk ⟨i + 1 + 1, by omega, all_step ha hx hs, pw_step farT_trans hp hy hx hyx⟩ _ _ (by dsimp only; omega) ?_
     dsimp only
     refine Ent_gc [0] (by rfl) (by simp) (by simp [keptW, ObKW, ObW, imp_self, pullOb, or_false]) (by simp [lk_hit, lk_miss, D.pt0, viewS_own', pull, pull2, pull1, pull0, idx_hit, gate, List.mem_cons, or_false, view0])
    ·have e : (l.all turnB && decide (l.Pairwise farT)) = false := by
      have : decide (l.Pairwise farT) = false := by simpa using pw_no hy hx hyx
      rw [this, Bool.and_false]
     rw [e]
     unfold farT at hyx
     by_cases h9 : x.1 < y.1
     ·have c9 : (x.1 < y.1) = True := by simpa using h9
      repeat' ((first | apply Run_seq | apply Run_skip | apply Run_block | apply Run_blk | refine Run_exit rfl ?_ | apply Run_ret | apply Run_nil | apply Run_condK | apply Run_ops mixed | apply Run_opsX mixed | with_reducible refine PostV_open ?_ | with_reducible refine ro_callV ?_ | with_reducible refine ro_callVX ?_ | refine CallV_pure (wx) ?_ ?_ | simp (disch := omega) only [w64] | ((first | refine GuardK_split ?_ ?_ | refine CondK_split ?_ ?_) <;> intro hc <;> (try simp only [hc]) <;> try simp at hc) | (with_reducible refine And.intro ?_ ?_; (focus ((repeat' (with_reducible refine And.intro ?_ ?_)) <;> first | exact trivial | assumption | (simp; done) | (simp only [List.length_map] at *; omega) | omega | (simp [D.cells, D.ok, D.one, D.pt, D.pt1]; done)))) | (with_reducible intro x hx) | omega) <;> (try simp only [row2_len, c2, c7, c8, c9, d1, d2, rx, ry, Nat.reduceBEq, reduceIte, Nat.reduceAdd, reduceCtorEq, binD, binInt, pickD, faddrD, loadD, splice, D.cells, D.ok, D.one, D.pt, D.pt1, D.pt0, D.norm1, cond_true, cond_false, ne_eq, view, view2, view1, view0, mapO, D.sc, D.sc1, D.sc2, ofRes, fw]))
     ·have c9 : (x.1 < y.1) = False := by simpa using h9
      have c10 : (x.1 - y.1 < 2880) = True := by simp; omega
      repeat' ((first | apply Run_seq | apply Run_skip | apply Run_block | apply Run_blk | refine Run_exit rfl ?_ | apply Run_ret | apply Run_nil | apply Run_condK | apply Run_ops mixed | apply Run_opsX mixed | with_reducible refine PostV_open ?_ | with_reducible refine ro_callV ?_ | with_reducible refine ro_callVX ?_ | refine CallV_pure (wx) ?_ ?_ | simp (disch := omega) only [w64] | ((first | refine GuardK_split ?_ ?_ | refine CondK_split ?_ ?_) <;> intro hc <;> (try simp only [hc]) <;> try simp at hc) | (with_reducible refine And.intro ?_ ?_; (focus ((repeat' (with_reducible refine And.intro ?_ ?_)) <;> first | exact trivial | assumption | (simp; done) | (simp only [List.length_map] at *; omega) | omega | (simp [D.cells, D.ok, D.one, D.pt, D.pt1]; done)))) | (with_reducible intro x hx) | omega) <;> (try simp only [row2_len, c2, c7, c8, c9, c10, d1, d2, rx, ry, Nat.reduceBEq, reduceIte, Nat.reduceAdd, reduceCtorEq, binD, binInt, pickD, faddrD, loadD, splice, D.cells, D.ok, D.one, D.pt, D.pt1, D.pt0, D.norm1, cond_true, cond_false, ne_eq, view, view2, view1, view0, mapO, D.sc, D.sc1, D.sc2, ofRes, fw]))
  ·have hs' : turnB x = false := by simpa using hs
   have e : (l.all turnB && decide (l.Pairwise farT)) = false := by rw [all_no hx hs', Bool.false_and]
   rw [e]
   by_cases n1 : wideB x.2 = true
   ·rw [n1] at wx
    repeat' ((first | apply Run_seq | apply Run_skip | apply Run_block | apply Run_blk | refine Run_exit rfl ?_ | apply Run_ret | apply Run_nil | apply Run_condK | apply Run_ops mixed | apply Run_opsX mixed | with_reducible refine PostV_open ?_ | with_reducible refine ro_callV ?_ | with_reducible refine ro_callVX ?_ | refine CallV_pure (wx) ?_ ?_ | simp (disch := omega) only [w64, wu64, wu32, wu16, wu8, Int.tdiv_eq_ediv_of_nonneg, Int.tmod_eq_emod_of_nonneg] | ((first | refine GuardK_split ?_ ?_ | refine CondK_split ?_ ?_) <;> intro hc <;> (try simp only [hc]) <;> try simp at hc) | (with_reducible refine And.intro ?_ ?_; (focus ((repeat' (with_reducible refine And.intro ?_ ?_)) <;> first | exact trivial | assumption | (simp; done) | (simp only [List.length_map] at *; omega) | omega | (simp [D.cells, D.ok, D.one, D.pt, D.pt1]; done)))) | (with_reducible intro x hx) | omega) <;> (try simp only [row2_len, c2, rx, Nat.reduceBEq, reduceIte, Nat.reduceAdd, reduceCtorEq, binD, binInt, pickD, faddrD, loadD, splice, D.cells, D.ok, D.one, D.pt, D.pt1, D.pt0, D.norm1, cond_true, ne_eq, view, view2, view1, view0, mapO, D.sc, D.sc1, D.sc2, ofRes, fw]))
   have n1' : wideB x.2 = false := by simpa using n1
   rw [n1'] at wx
   by_cases n2 : x.1 < 0
   ·have d1 : (x.1 < 0) = True := by simpa using n2
    repeat' ((first | apply Run_seq | apply Run_skip | apply Run_block | apply Run_blk | refine Run_exit rfl ?_ | apply Run_ret | apply Run_nil | apply Run_condK | apply Run_ops mixed | apply Run_opsX mixed | with_reducible refine PostV_open ?_ | with_reducible refine ro_callV ?_ | with_reducible refine ro_callVX ?_ | refine CallV_pure (wx) ?_ ?_ | simp (disch := omega) only [w64, wu64, wu32, wu16, wu8, Int.tdiv_eq_ediv_of_nonneg, Int.tmod_eq_emod_of_nonneg] | ((first | refine GuardK_split ?_ ?_ | refine CondK_split ?_ ?_) <;> intro hc <;> (try simp only [hc]) <;> try simp at hc) | (with_reducible refine And.intro ?_ ?_; (focus ((repeat' (with_reducible refine And.intro ?_ ?_)) <;> first | exact trivial | assumption | (simp; done) | (simp only [List.length_map] at *; omega) | omega | (simp [D.cells, D.ok, D.one, D.pt, D.pt1]; done)))) | (with_reducible intro x hx) | omega) <;> (try simp only [row2_len, c2, rx, d1, Nat.reduceBEq, reduceIte, Nat.reduceAdd, reduceCtorEq, binD, binInt, pickD, faddrD, loadD, splice, D.cells, D.ok, D.one, D.pt, D.pt1, D.pt0, D.norm1, cond_true, cond_false, ne_eq, view, view2, view1, view0, mapO, D.sc, D.sc1, D.sc2, ofRes, fw]))
   have d1 : (x.1 < 0) = False := by simpa using n2
   have d2 : (x.1 > 158310720) = True := by
    simp only [turnB, n1', Bool.not_false, Bool.true_and, decide_eq_false_iff_not] at hs'
    simp; omega
   repeat' ((first | apply Run_seq | apply Run_skip | apply Run_block | apply Run_blk | refine Run_exit rfl ?_ | apply Run_ret | apply Run_nil | apply Run_condK | apply Run_ops mixed | apply Run_opsX mixed | with_reducible refine PostV_open ?_ | with_reducible refine ro_callV ?_ | with_reducible refine ro_callVX ?_ | refine CallV_pure (wx) ?_ ?_ | simp (disch := omega) only [w64, wu64, wu32, wu16, wu8, Int.tdiv_eq_ediv_of_nonneg, Int.tmod_eq_emod_of_nonneg] | ((first | refine GuardK_split ?_ ?_ | refine CondK_split ?_ ?_) <;> intro hc <;> (try simp only [hc]) <;> try simp at hc) | (with_reducible refine And.intro ?_ ?_; (focus ((repeat' (with_reducible refine And.intro ?_ ?_)) <;> first | exact trivial | assumption | (simp; done) | (simp only [List.length_map] at *; omega) | omega | (simp [D.cells, D.ok, D.one, D.pt, D.pt1]; done)))) | (with_reducible intro x hx) | omega) <;> (try simp only [row2_len, c2, rx, d1, d2, Nat.reduceBEq, reduceIte, Nat.reduceAdd, reduceCtorEq, binD, binInt, pickD, faddrD, loadD, splice, D.cells, D.ok, D.one, D.pt, D.pt1, D.pt0, D.norm1, cond_true, cond_false, ne_eq, view, view2, view1, view0, mapO, D.sc, D.sc1, D.sc2, ofRes, fw]))
 ·have c2 : ((i : Int) < (l.length : Int)) = False := by simp; omega
  obtain rfl : i = l.length := by omega
  rw [List.take_length] at ha hp
  rw [ha, decide_eq_true hp]
  repeat' ((first | apply Run_seq | apply Run_skip | apply Run_block | apply Run_blk | refine Run_exit rfl ?_ | apply Run_ret | apply Run_nil | apply Run_condK | apply Run_ops mixed | apply Run_opsX mixed | with_reducible refine PostV_open ?_ | with_reducible refine ro_callV ?_ | with_reducible refine ro_callVX ?_ | simp (disch := omega) only [w64, wu64, wu32, wu16, wu8, Int.tdiv_eq_ediv_of_nonneg, Int.tmod_eq_emod_of_nonneg] | ((first | refine GuardK_split ?_ ?_ | refine CondK_split ?_ ?_) <;> intro hc <;> (try simp only [hc]) <;> try simp at hc) | (with_reducible refine And.intro ?_ ?_; (focus ((repeat' (with_reducible refine And.intro ?_ ?_)) <;> first | exact trivial | assumption | (simp; done) | (simp only [List.length_map] at *; omega) | omega | (simp [D.cells, D.ok, D.one, D.pt, D.pt1]; done)))) | (with_reducible intro x hx) | omega) <;> (try simp only [c2, Nat.reduceBEq, reduceIte, binD, binInt, D.pt0, D.norm1, view, view2, view1, view0, ofRes, fw]))
/-- Hours. -/
def shiftB (s : Int × Int × Int) : Bool := decide (1 ≤ s.1 ∧ s.1 ≤ 127 ∧ 0 ≤ s.2.1 ∧ s.2.1 < s.2.2 ∧ s.2.2 ≤ 1440)
theorem shift_p (s : Int × Int × Int) : PureD Try.prog 93 [.agg [.int .i64 s.1, .int .i64 s.2.1, .int .i64 s.2.2]] (.bool (shiftB s)) := by
 refine pureV Try.func93 low93 (by simp [c93]) ?_
 simp only [c93]
 repeat' ((first | apply Run_seq | apply Run_ret | apply Run_nil | apply Run_ops mixed | with_reducible refine PostV_open ?_ | (refine GuardK_split ?_ ?_ <;> intro hc <;> (try simp only [hc]) <;> try simp at hc) | (with_reducible refine And.intro ?_ ?_; (focus ((repeat' (with_reducible refine And.intro ?_ ?_)) <;> first | exact trivial | assumption | (simp; done) | (simp only [List.length_map] at *; omega) | omega | (simp [D.cells, D.ok, D.one, D.pt, D.pt1]; done)))) | (with_reducible intro x hx) | omega) <;> (try simp only [Nat.reduceBEq, argEnv, reduceIte, Nat.reduceAdd, reduceCtorEq, binD, binInt, pickD, faddrD, loadD, D.cells, D.ok, D.one, D.pt1, D.pt0, D.norm1, cond_true, cond_false, ne_eq, view, view2, view1, view0, ofRes, fw]))
 all_goals (unfold shiftB; rw [Bool.eq_iff_iff]; simp [*]; try omega)
theorem noShift_p (s : Int × Int × Int) : PureD Try.prog 92 [.agg [.int .i64 s.1, .int .i64 s.2.1, .int .i64 s.2.2]] (.bool (!shiftB s)) := by
 refine pureV Try.func92 low92 (by simp [c92]) ?_
 have h := shift_p s
 generalize shiftB s = b at h ⊢
 simp only [c92]
 repeat' ((first | apply Run_seq | apply Run_ret | apply Run_nil | apply Run_ops mixed | with_reducible refine PostV_open ?_ | with_reducible refine ro_callV ?_ | refine CallV_pure (h) ?_ ?_ | (with_reducible refine And.intro ?_ ?_; (focus ((repeat' (with_reducible refine And.intro ?_ ?_)) <;> first | exact trivial | assumption | (simp; done) | (simp only [List.length_map] at *; omega) | omega | (simp [D.cells, D.ok, D.one, D.pt, D.pt1]; done)))) | (with_reducible intro x hx) | omega) <;> (try simp only [Nat.reduceBEq, argEnv, reduceIte, Nat.reduceAdd, reduceCtorEq, okD, unD, loadD, D.cells, D.ok, D.one, D.pt, D.pt1, D.pt0, D.norm1, ne_eq, view, view2, view1, view0, mapO, D.sc, D.sc1, D.sc2, ofRes, fw]))
def idxS : List (Int × Int × Int) → Nat → Int
 | [], _ => -1
 | s :: l, n => if shiftB s = true then idxS l (n + 1) else n
theorem idxS_neg : ∀ (l : List (Int × Int × Int)) (n : Nat), (decide (idxS l n ≥ 0)) = !l.all shiftB
 | [], n => by simp [idxS]
 | s :: l, n => by
  by_cases h : shiftB s = true
  ·simp [idxS, h]; simpa using idxS_neg l (n + 1)
  ·have h' : shiftB s = false := by simpa using h
   simp [idxS, h']
theorem idxS_p (l : List (Int × Int × Int)) (hl : l.length ≤ 140737488351232) : PureD Try.prog 104 [L (row3 l), .fn 92 []] (.int .i64 (idxS l 0)) := by
 refine pureV Try.func104 low104 (by simp [c104]) ?_
 simp only [c104]
 repeat' ((first | apply Run_seq | apply Run_skip | apply Run_block | apply Run_blk | refine Run_exit rfl ?_ | apply Run_ret | apply Run_nil | apply Run_condK | apply Run_ops mixed | with_reducible refine PostV_open ?_ | with_reducible refine ro_callV ?_ | simp (disch := omega) only [w64, wu64, wu32, wu16, wu8, Int.tdiv_eq_ediv_of_nonneg, Int.tmod_eq_emod_of_nonneg] | (refine CondK_split ?_ ?_ <;> intro hc <;> (try simp only [hc]) <;> try simp at hc) | (with_reducible refine And.intro ?_ ?_; (focus ((repeat' (with_reducible refine And.intro ?_ ?_)) <;> first | exact trivial | assumption | (simp; done) | (simp only [List.length_map] at *; omega) | omega | (simp [D.cells, D.ok, D.one, D.pt, D.pt1]; done)))) | (with_reducible intro x hx) | omega) <;> (try simp only [row3_len, Nat.reduceBEq, argEnv, lenD, fw]))
 refine Run_loop (ι := {i : Nat // i ≤ l.length ∧ idxS l 0 = idxS (l.drop i) i}) (fun i => ([(0, L (row3 l)), (1, .fn 92 []), (7, .int .i64 l.length), (8, .int .i64 i.1)], [])) (fun i => l.length - i.1) ⟨0, by simp⟩ ?_ ?_
 ·refine Ent_gc [] (by rfl) (by simp) (by simp [keptW]) (by simp [lk_hit, lk_miss, D.pt0, viewS_own', pull, pull2, pull1, pull0, idx_nil, gate, List.mem_cons, or_false, view0, mapO])
 rintro ⟨i, hi, hx⟩ hk
 dsimp only at hk ⊢
 by_cases hlt : i < l.length
 ·have c1 : ((i : Int) < (l.length : Int)) = True := by simp; omega
  obtain ⟨p, hp⟩ : ∃ p, l[i]? = some p := ⟨_, List.getElem?_eq_getElem hlt⟩
  have hr := row3_get hp
  have hdr : l.drop i = p :: l.drop (i + 1) := by
   rw [List.getElem?_eq_getElem hlt] at hp; cases hp; exact List.drop_eq_getElem_cons hlt
  have lv := noShift_p p
  by_cases hc : shiftB p = true
  ·rw [hc] at lv
   have e : idxS l 0 = idxS (l.drop (i + 1)) (i + 1) := by rw [hx, hdr]; simp [idxS, hc]
   simp only [Bool.not_true] at lv
   repeat' ((first | apply Run_seq | apply Run_skip | apply Run_block | apply Run_blk | refine Run_exit rfl ?_ | apply Run_ret | apply Run_nil | apply Run_condK | apply Run_ops mixed | with_reducible refine PostV_open ?_ | with_reducible refine ro_callV ?_ | refine CallV_pure (lv) ?_ ?_ | simp (disch := omega) only [w64] | (refine CondK_split ?_ ?_ <;> intro hc <;> (try simp only [hc]) <;> try simp at hc) | (with_reducible refine And.intro ?_ ?_; (focus ((repeat' (with_reducible refine And.intro ?_ ?_)) <;> first | exact trivial | assumption | (simp; done) | (simp only [List.length_map] at *; omega) | omega | (simp [D.cells, D.ok, D.one, D.pt, D.pt1]; done)))) | (with_reducible intro x hx) | omega) <;> (try simp only [row3_len, c1, hr, Nat.reduceBEq, reduceIte, Nat.reduceAdd, binD, binInt, loadD, D.pt, D.pt1, D.pt0, D.norm1, view, view2, view1, view0, mapO, D.sc, D.sc1, D.sc2, fw]))
   refine hk ⟨i + 1, by omega, e⟩ _ _ (by dsimp only; omega) ?_
   dsimp only
   refine Ent_gc [] (by rfl) (by simp) (by simp [keptW]) (by simp [lk_hit, lk_miss, D.pt0, viewS_own', pull, pull2, pull1, pull0, idx_nil, gate, List.mem_cons, or_false, view0, mapO])
  ·have hc' : shiftB p = false := by simpa using hc
   rw [hc'] at lv
   have e : idxS l 0 = i := by rw [hx, hdr]; simp [idxS, hc']
   rw [e]
   simp only [Bool.not_false] at lv
   repeat' ((first | apply Run_seq | apply Run_skip | apply Run_block | apply Run_blk | refine Run_exit rfl ?_ | apply Run_ret | apply Run_nil | apply Run_condK | apply Run_ops mixed | with_reducible refine PostV_open ?_ | with_reducible refine ro_callV ?_ | refine CallV_pure (lv) ?_ ?_ | simp (disch := omega) only [w64, wu64, wu32, wu16, wu8, Int.tdiv_eq_ediv_of_nonneg, Int.tmod_eq_emod_of_nonneg] | (refine CondK_split ?_ ?_ <;> intro hc <;> (try simp only [hc]) <;> try simp at hc) | (with_reducible refine And.intro ?_ ?_; (focus ((repeat' (with_reducible refine And.intro ?_ ?_)) <;> first | exact trivial | assumption | (simp; done) | (simp only [List.length_map] at *; omega) | omega | (simp [D.cells, D.ok, D.one, D.pt, D.pt1]; done)))) | (with_reducible intro x hx) | omega) <;> (try simp only [row3_len, c1, hr, Nat.reduceBEq, reduceIte, Nat.reduceAdd, binD, binInt, loadD, D.pt, D.pt1, D.pt0, D.norm1, view, view2, view1, view0, mapO, D.sc, D.sc1, D.sc2, ofRes, fw]))
 ·have c1 : ((i : Int) < (l.length : Int)) = False := by simp; omega
  have e : idxS l 0 = -1 := by rw [hx, List.drop_eq_nil_of_le (by omega)]; rfl
  rw [e]
  repeat' ((first | apply Run_seq | apply Run_skip | apply Run_block | apply Run_blk | refine Run_exit rfl ?_ | apply Run_ret | apply Run_nil | apply Run_condK | apply Run_ops mixed | with_reducible refine PostV_open ?_ | with_reducible refine ro_callV ?_ | simp (disch := omega) only [w64, wu64, wu32, wu16, wu8, Int.tdiv_eq_ediv_of_nonneg, Int.tmod_eq_emod_of_nonneg] | (refine CondK_split ?_ ?_ <;> intro hc <;> (try simp only [hc]) <;> try simp at hc) | (with_reducible refine And.intro ?_ ?_; (focus ((repeat' (with_reducible refine And.intro ?_ ?_)) <;> first | exact trivial | assumption | (simp; done) | (simp only [List.length_map] at *; omega) | omega | (simp [D.cells, D.ok, D.one, D.pt, D.pt1]; done)))) | (with_reducible intro x hx) | omega) <;> (try simp only [c1, Nat.reduceBEq, reduceIte, binD, binInt, D.pt0, D.norm1, Int.reduceNeg, view, view2, view1, view0, ofRes, fw]))
theorem conS_p (l : List (Int × Int × Int)) (hl : l.length ≤ 140737488351232) : PureD Try.prog 91 [L (row3 l), .fn 92 []] (.bool (!l.all shiftB)) := by
 refine pureV Try.func91 low91 (by simp [c91]) ?_
 simp only [c91]
 have ix := idxS_p l hl
 rw [← idxS_neg l 0]
 generalize idxS l 0 = n at ix ⊢
 repeat' ((first | apply Run_seq | apply Run_ret | apply Run_nil | apply Run_ops mixed | with_reducible refine PostV_open ?_ | with_reducible refine ro_callV ?_ | refine CallV_pure (ix) ?_ ?_ | (with_reducible refine And.intro ?_ ?_; (focus ((repeat' (with_reducible refine And.intro ?_ ?_)) <;> first | exact trivial | assumption | (simp; done) | (simp only [List.length_map] at *; omega) | omega | (simp [D.cells, D.ok, D.one, D.pt, D.pt1]; done)))) | (with_reducible intro x hx) | omega) <;> (try simp only [Nat.reduceBEq, argEnv, reduceIte, binD, binInt, D.pt, D.pt1, D.pt0, D.norm1, view, view2, view1, view0, mapO, D.sc, D.sc1, D.sc2, ofRes, fw]))
def dayOffB (n : Int) : Bool := decide (0 ≤ n ∧ n < 109938)
def hoursB (s : List (Int × Int × Int)) (off : List Int) : Bool := decide (s.length ≤ 10 ∧ off.length ≤ 60) && ((off.all dayOffB && risB off) && s.all shiftB)
set_option maxHeartbeats 4000000 in
theorem hoursMay_p (s : List (Int × Int × Int)) (l : List Int) (hs : s.length ≤ 140737488351232) (hl : l.length ≤ 140737488351232) : PureD Try.prog 71 [.agg [L (row3 s), L (row1 .i64 l)]] (.bool (hoursB s l)) := by
 refine pureV Try.func71 low71 (by simp [c71]) ?_
 simp only [c71]
 have cs := conS_p s hs
 by_cases hbig : 10 < s.length
 ·have c0 : ((s.length : Int) > 10) = True := by simp; omega
  have e : hoursB s l = false := by
   have : ¬ s.length ≤ 10 := by omega
   simp [hoursB, this]
  rw [e]
  repeat' ((first | apply Run_seq | apply Run_skip | apply Run_block | apply Run_blk | refine Run_exit rfl ?_ | apply Run_ret | apply Run_nil | apply Run_condK | apply Run_ops mixed | with_reducible refine PostV_open ?_ | with_reducible refine ro_callV ?_ | simp (disch := omega) only [w64, wu64, wu32, wu16, wu8, Int.tdiv_eq_ediv_of_nonneg, Int.tmod_eq_emod_of_nonneg] | ((first | refine GuardK_split ?_ ?_ | refine CondK_split ?_ ?_) <;> intro hc <;> (try simp only [hc]) <;> try simp at hc) | (with_reducible refine And.intro ?_ ?_; (focus ((repeat' (with_reducible refine And.intro ?_ ?_)) <;> first | exact trivial | assumption | (simp; done) | (simp only [List.length_map] at *; omega) | omega | (simp [D.cells, D.ok, D.one, D.pt, D.pt1]; done)))) | (with_reducible intro x hx) | omega) <;> (try simp only [row3_len, c0, Nat.reduceBEq, argEnv, reduceIte, Nat.reduceAdd, reduceCtorEq, binD, binInt, pickD, faddrD, lenD, loadD, D.cells, D.ok, D.one, D.pt1, D.pt0, D.norm1, cond_true, ne_eq, view, view2, view1, view0, ofRes, fw]))
 have c0 : ((s.length : Int) > 10) = False := by simp; omega
 by_cases hbig2 : 60 < l.length
 ·have c1 : ((l.length : Int) > 60) = True := by simp; omega
  have e : hoursB s l = false := by
   have : ¬ l.length ≤ 60 := by omega
   simp [hoursB, this]
  rw [e]
  repeat' ((first | apply Run_seq | apply Run_skip | apply Run_block | apply Run_blk | refine Run_exit rfl ?_ | apply Run_ret | apply Run_nil | apply Run_condK | apply Run_ops mixed | with_reducible refine PostV_open ?_ | with_reducible refine ro_callV ?_ | simp (disch := omega) only [w64, wu64, wu32, wu16, wu8, Int.tdiv_eq_ediv_of_nonneg, Int.tmod_eq_emod_of_nonneg] | ((first | refine GuardK_split ?_ ?_ | refine CondK_split ?_ ?_) <;> intro hc <;> (try simp only [hc]) <;> try simp at hc) | (with_reducible refine And.intro ?_ ?_; (focus ((repeat' (with_reducible refine And.intro ?_ ?_)) <;> first | exact trivial | assumption | (simp; done) | (simp only [List.length_map] at *; omega) | omega | (simp [D.cells, D.ok, D.one, D.pt, D.pt1]; done)))) | (with_reducible intro x hx) | omega) <;> (try simp only [row1_len, row3_len, c0, c1, Nat.reduceBEq, argEnv, reduceIte, Nat.reduceAdd, reduceCtorEq, binD, binInt, pickD, faddrD, lenD, loadD, D.cells, D.ok, D.one, D.pt1, D.pt0, D.norm1, cond_false, ne_eq, view, view2, view1, view0, ofRes, fw]))
 have c1 : ((l.length : Int) > 60) = False := by simp; omega
 have e0 : hoursB s l = ((l.all dayOffB && risB l) && s.all shiftB) := by
  have h1 : s.length ≤ 10 := by omega
  have h2 : l.length ≤ 60 := by omega
  simp [hoursB, h1, h2]
 rw [e0]
 generalize s.all shiftB = sb at cs ⊢
 repeat' ((first | apply Run_seq | apply Run_skip | apply Run_block | apply Run_blk | refine Run_exit rfl ?_ | apply Run_ret | apply Run_nil | apply Run_condK | apply Run_ops mixed | with_reducible refine PostV_open ?_ | with_reducible refine ro_callV ?_ | simp (disch := omega) only [w64, wu64, wu32, wu16, wu8, Int.tdiv_eq_ediv_of_nonneg, Int.tmod_eq_emod_of_nonneg] | ((first | refine GuardK_split ?_ ?_ | refine CondK_split ?_ ?_) <;> intro hc <;> (try simp only [hc]) <;> try simp at hc) | (with_reducible refine And.intro ?_ ?_; (focus ((repeat' (with_reducible refine And.intro ?_ ?_)) <;> first | exact trivial | assumption | (simp; done) | (simp only [List.length_map] at *; omega) | omega | (simp [D.cells, D.ok, D.one, D.pt, D.pt1]; done)))) | (with_reducible intro x hx) | omega) <;> (try simp only [row1_len, row3_len, c0, c1, Nat.reduceBEq, argEnv, reduceIte, Nat.reduceAdd, reduceCtorEq, binD, binInt, pickD, faddrD, lenD, loadD, D.cells, D.ok, D.one, D.pt1, cond_false, ne_eq, fw]))
 refine Run_loop (ι := {i : Nat // i ≤ l.length ∧ (l.take i).all dayOffB = true ∧ (l.take i).Pairwise fun a b => a < b}) (fun i => ([(1, .ptr 0 0 0 1), (16, L (row1 .i64 l)), (17, .int .i64 l.length), (18, .int .i64 i.1)], [⟨true, false, true, false, 2, [[L (row3 s), L (row1 .i64 l)]], some 0⟩])) (fun i => l.length - i.1) ⟨0, by simp⟩ ?_ ?_
 ·refine Ent_gc [0] (by rfl) (by simp) (by simp [keptW, ObKW, ObW, imp_self, pullOb, or_false]) (by simp [lk_hit, lk_miss, D.pt0, viewS_own', pull, pull2, pull1, pull0, idx_hit, gate, List.mem_cons, or_false, view0])
 rintro ⟨i, hi, ha, hp⟩ hk
 dsimp only at hk ⊢
 by_cases hlt : i < l.length
 ·have c2 : ((i : Int) < (l.length : Int)) = True := by simp; omega
  obtain ⟨x, hx⟩ : ∃ x, l[i]? = some x := ⟨_, List.getElem?_eq_getElem hlt⟩
  have rx := row1_get (k := .i64) hx
  by_cases hss : dayOffB x = true
  ·have hs' := hss
   simp only [dayOffB, decide_eq_true_eq] at hs'
   have d1 : (x < 0) = False := by simp; omega
   have d2 : (x ≥ 109938) = False := by simp; omega
   cases i with
   | zero =>
    repeat' ((first | apply Run_seq | apply Run_skip | apply Run_block | apply Run_blk | refine Run_exit rfl ?_ | apply Run_ret | apply Run_nil | apply Run_condK | apply Run_ops mixed | with_reducible refine PostV_open ?_ | with_reducible refine ro_callV ?_ | simp (disch := omega) only [w64] | ((first | refine GuardK_split ?_ ?_ | refine CondK_split ?_ ?_) <;> intro hc <;> (try simp only [hc]) <;> try simp at hc) | (with_reducible refine And.intro ?_ ?_; (focus ((repeat' (with_reducible refine And.intro ?_ ?_)) <;> first | exact trivial | assumption | (simp; done) | (simp only [List.length_map] at *; omega) | omega | (simp [D.cells, D.ok, D.one, D.pt, D.pt1]; done)))) | (with_reducible intro x hx) | omega) <;> (try simp only [row1_len, c2, d1, d2, rx, Nat.reduceBEq, reduceIte, binD, binInt, pickD, loadD, cond_false, fw]))
    refine hk ⟨1, by omega, all_step ha hx hss, by rw [List.take_add_one, hx]; simp⟩ _ _ (by dsimp only; omega) ?_
    dsimp only
    refine Ent_gc [0] (by rfl) (by simp) (by simp [keptW, ObKW, ObW, imp_self, pullOb, or_false]) (by simp [lk_hit, lk_miss, D.pt0, viewS_own', pull, pull2, pull1, pull0, idx_hit, gate, List.mem_cons, or_false, view0])
   | succ i =>
    obtain ⟨y, hy⟩ : ∃ y, l[i]? = some y := ⟨_, List.getElem?_eq_getElem (by omega)⟩
    have ry := row1_get (k := .i64) hy
    have c7 : (((i + 1 : Nat) : Int) > 0) = True := by rw [eq_iff_iff]; exact ⟨fun _ => trivial, fun _ => by omega⟩
    have c8 : (((i + 1 : Nat) : Int) - 1) = (i : Int) := by omega
    by_cases hyx : y < x
    ·have c9 : (y ≥ x) = False := by simp; omega
     repeat' ((first | apply Run_seq | apply Run_skip | apply Run_block | apply Run_blk | refine Run_exit rfl ?_ | apply Run_ret | apply Run_nil | apply Run_condK | apply Run_ops mixed | with_reducible refine PostV_open ?_ | with_reducible refine ro_callV ?_ | simp (disch := omega) only [w64] | ((first | refine GuardK_split ?_ ?_ | refine CondK_split ?_ ?_) <;> intro hc <;> (try simp only [hc]) <;> try simp at hc) | (with_reducible refine And.intro ?_ ?_; (focus ((repeat' (with_reducible refine And.intro ?_ ?_)) <;> first | exact trivial | assumption | (simp; done) | (simp only [List.length_map] at *; omega) | omega | (simp [D.cells, D.ok, D.one, D.pt, D.pt1]; done)))) | (with_reducible intro x hx) | omega) <;> (try simp only [row1_len, c2, c7, c8, c9, d1, d2, rx, ry, Nat.reduceBEq, reduceIte, binD, binInt, pickD, faddrD, loadD, cond_true, cond_false, fw]))
     refine hk ⟨i + 1 + 1, by omega, all_step ha hx hss, pw_step (R := fun a b : Int => a < b) (fun _ _ _ => Int.lt_trans) hp hy hx hyx⟩ _ _ (by dsimp only; omega) ?_
     dsimp only
     refine Ent_gc [0] (by rfl) (by simp) (by simp [keptW, ObKW, ObW, imp_self, pullOb, or_false]) (by simp [lk_hit, lk_miss, D.pt0, viewS_own', pull, pull2, pull1, pull0, idx_hit, gate, List.mem_cons, or_false, view0])
    ·have c9 : (y ≥ x) = True := by simp; omega
     have e : ((l.all dayOffB && risB l) && sb) = false := by
      have : risB l = false := by simpa [risB] using pw_no hy hx hyx
      simp [this]
     rw [e]
     repeat' ((first | apply Run_seq | apply Run_skip | apply Run_block | apply Run_blk | refine Run_exit rfl ?_ | apply Run_ret | apply Run_nil | apply Run_condK | apply Run_ops mixed | with_reducible refine PostV_open ?_ | with_reducible refine ro_callV ?_ | simp (disch := omega) only [w64] | ((first | refine GuardK_split ?_ ?_ | refine CondK_split ?_ ?_) <;> intro hc <;> (try simp only [hc]) <;> try simp at hc) | (with_reducible refine And.intro ?_ ?_; (focus ((repeat' (with_reducible refine And.intro ?_ ?_)) <;> first | exact trivial | assumption | (simp; done) | (simp only [List.length_map] at *; omega) | omega | (simp [D.cells, D.ok, D.one, D.pt, D.pt1]; done)))) | (with_reducible intro x hx) | omega) <;> (try simp only [row1_len, c2, c7, c8, c9, d1, d2, rx, ry, Nat.reduceBEq, reduceIte, binD, binInt, pickD, faddrD, loadD, D.pt0, D.norm1, cond_true, cond_false, view, view2, view1, view0, ofRes, fw]))
  ·have hs' : dayOffB x = false := by simpa using hss
   have e : ((l.all dayOffB && risB l) && sb) = false := by simp only [all_no hx hs', Bool.false_and]
   rw [e]
   by_cases n1 : x < 0
   ·have d1 : (x < 0) = True := by simpa using n1
    repeat' ((first | apply Run_seq | apply Run_skip | apply Run_block | apply Run_blk | refine Run_exit rfl ?_ | apply Run_ret | apply Run_nil | apply Run_condK | apply Run_ops mixed | with_reducible refine PostV_open ?_ | with_reducible refine ro_callV ?_ | simp (disch := omega) only [w64, wu64, wu32, wu16, wu8, Int.tdiv_eq_ediv_of_nonneg, Int.tmod_eq_emod_of_nonneg] | ((first | refine GuardK_split ?_ ?_ | refine CondK_split ?_ ?_) <;> intro hc <;> (try simp only [hc]) <;> try simp at hc) | (with_reducible refine And.intro ?_ ?_; (focus ((repeat' (with_reducible refine And.intro ?_ ?_)) <;> first | exact trivial | assumption | (simp; done) | (simp only [List.length_map] at *; omega) | omega | (simp [D.cells, D.ok, D.one, D.pt, D.pt1]; done)))) | (with_reducible intro x hx) | omega) <;> (try simp only [row1_len, c2, d1, rx, Nat.reduceBEq, reduceIte, binD, binInt, pickD, loadD, D.pt0, D.norm1, cond_true, view, view2, view1, view0, ofRes, fw]))
   have d1 : (x < 0) = False := by simpa using n1
   have d2 : (x ≥ 109938) = True := by
    simp only [dayOffB, decide_eq_false_iff_not] at hs'
    simp; omega
   repeat' ((first | apply Run_seq | apply Run_skip | apply Run_block | apply Run_blk | refine Run_exit rfl ?_ | apply Run_ret | apply Run_nil | apply Run_condK | apply Run_ops mixed | with_reducible refine PostV_open ?_ | with_reducible refine ro_callV ?_ | simp (disch := omega) only [w64, wu64, wu32, wu16, wu8, Int.tdiv_eq_ediv_of_nonneg, Int.tmod_eq_emod_of_nonneg] | ((first | refine GuardK_split ?_ ?_ | refine CondK_split ?_ ?_) <;> intro hc <;> (try simp only [hc]) <;> try simp at hc) | (with_reducible refine And.intro ?_ ?_; (focus ((repeat' (with_reducible refine And.intro ?_ ?_)) <;> first | exact trivial | assumption | (simp; done) | (simp only [List.length_map] at *; omega) | omega | (simp [D.cells, D.ok, D.one, D.pt, D.pt1]; done)))) | (with_reducible intro x hx) | omega) <;> (try simp only [row1_len, c2, d1, d2, rx, Nat.reduceBEq, reduceIte, binD, binInt, pickD, loadD, D.pt0, D.norm1, cond_true, cond_false, view, view2, view1, view0, ofRes, fw]))
 ·have c2 : ((i : Int) < (l.length : Int)) = False := by simp; omega
  obtain rfl : i = l.length := by omega
  rw [List.take_length] at ha hp
  have hr : risB l = true := by simpa [risB] using hp
  rw [ha, hr, Bool.true_and, Bool.true_and]
  repeat' ((first | apply Run_seq | apply Run_skip | apply Run_block | apply Run_blk | refine Run_exit rfl ?_ | apply Run_ret | apply Run_nil | apply Run_condK | apply Run_ops mixed | with_reducible refine PostV_open ?_ | with_reducible refine ro_callV ?_ | refine CallV_pure (cs) ?_ ?_ | simp (disch := omega) only [w64, wu64, wu32, wu16, wu8, Int.tdiv_eq_ediv_of_nonneg, Int.tmod_eq_emod_of_nonneg] | ((first | refine GuardK_split ?_ ?_ | refine CondK_split ?_ ?_) <;> intro hc <;> (try simp only [hc]) <;> try simp at hc) | (with_reducible refine And.intro ?_ ?_; (focus ((repeat' (with_reducible refine And.intro ?_ ?_)) <;> first | exact trivial | assumption | (simp; done) | (simp only [List.length_map] at *; omega) | omega | (simp [D.cells, D.ok, D.one, D.pt, D.pt1]; done)))) | (with_reducible intro x hx) | omega) <;> (try simp only [c2, Nat.reduceBEq, reduceIte, binD, binInt, okD, unD, faddrD, loadD, D.pt, D.pt1, D.pt0, D.norm1, view, view2, view1, view0, mapO, D.sc, D.sc1, D.sc2, ofRes, fw]))
  all_goals simp
def setB (x : Se) : Bool := zoneB x.base x.turns && (hoursB x.shifts x.off && decide (0 ≤ x.before ∧ x.before ≤ 240 ∧ 0 ≤ x.after ∧ x.after ≤ 240))
theorem settings_p (x : Se) (hx : x.fits) : PureD Try.prog 45 [.agg x.cells] (.bool (setB x)) := by
 obtain ⟨f1, f2, f3⟩ := hx
 refine pureV Try.func45 low45 (by simp [c45]) ?_
 have h1 := zoneMay_p x.base x.turns f1
 have h2 := hoursMay_p x.shifts x.off f2 f3
 unfold setB
 generalize zoneB x.base x.turns = x1 at h1 ⊢
 generalize hoursB x.shifts x.off = x2 at h2 ⊢
 simp only [c45, Se.cells]
 repeat' ((first | apply Run_seq | apply Run_ret | apply Run_nil | apply Run_ops mixed | with_reducible refine PostV_open ?_ | with_reducible refine ro_callV ?_ | refine CallV_pure (h1) ?_ ?_ | refine CallV_pure (h2) ?_ ?_ | (refine GuardK_split ?_ ?_ <;> intro hc <;> (try simp only [hc]) <;> try simp at hc) | (with_reducible refine And.intro ?_ ?_; (focus ((repeat' (with_reducible refine And.intro ?_ ?_)) <;> first | exact trivial | assumption | (simp; done) | (simp only [List.length_map] at *; omega) | omega | (simp [D.cells, D.ok, D.one, D.pt, D.pt1]; done)))) | (with_reducible intro x hx) | omega) <;> (try simp only [Nat.reduceBEq, argEnv, reduceIte, Nat.reduceAdd, Nat.reduceLeDiff, reduceCtorEq, binD, binInt, pickD, faddrD, loadD, D.cells, D.ok, D.one, D.pt, D.pt1, D.pt0, D.norm1, cond_true, cond_false, ne_eq, view, view2, view1, view0, mapO, D.sc, D.sc1, D.sc2, ofRes, fw]))
 all_goals (rw [Bool.eq_iff_iff]; simp [*]; try omega)
end Go.Proofs.Ytoleaiaeghbffaa

namespace Go.Proofs.Ytoleaiaeghbffaa
open Go Go.Vi


theorem fold_no (u : Us) : ∀ (l acc : List Us), (l.Pairwise fun a b => a.id < b.id) → (∀ x ∈ l, x.id ≠ u.id) → l.foldl (withS u) (acc, false) = if lowB Us.id l u.id < l.length then (acc ++ (l.take (lowB Us.id l u.id) ++ u :: l.drop (lowB Us.id l u.id)), true) else (acc ++ l, false)
 | [], acc, _, _ => by simp [lowB]
 | x :: l, acc, hs, hn => by
  obtain ⟨h1, h2⟩ := List.pairwise_cons.1 hs
  have hx := hn x (by simp)
  have hl : ∀ y ∈ l, y.id ≠ u.id := fun y hy => hn y (by simp [hy])
  rw [List.foldl_cons]
  by_cases hlt : x.id < u.id
  ·have e : withS u (acc, false) x = (acc ++ [x], false) := by
    have : ¬ u.id ≤ x.id := by omega
    simp [withS, hx, this]
   have el : lowB Us.id (x :: l) u.id = lowB Us.id l u.id + 1 := by
    rw [lowB, if_pos hlt]
   rw [e, fold_no u l _ h2 hl, el]
   simp only [List.length_cons, Nat.add_lt_add_iff_right]
   split <;> simp
  ·have hle : u.id ≤ x.id := by omega
   have e : withS u (acc, false) x = (acc ++ [u] ++ [x], true) := by simp [withS, hx, hle]
   have el : lowB Us.id (x :: l) u.id = 0 := by
    rw [lowB, if_neg hlt]
   rw [e, fold_true u l _ hl, el]
   simp
theorem withR_no {us : List Us} {u : Us} (hs : us.Pairwise fun a b => a.id < b.id) (h : ∀ x ∈ us, x.id ≠ u.id) : withR us u = us.take (lowB Us.id us u.id) ++ u :: us.drop (lowB Us.id us u.id) := by
 have hf := fold_no u us [] hs h
 have hg : withG u us = us.foldl (withS u) ([], false) := rfl
 have hle := lowB_le Us.id us u.id
 unfold withR
 rw [hg, hf]
 by_cases hlt : lowB Us.id us u.id < us.length
 ·simp [hlt]
 ·have e : lowB Us.id us u.id = us.length := by omega
  simp [e]
theorem findU_no {us : List Us} {user : Int} (h : findU us user = none) : ∀ x ∈ us, x.id ≠ user := fun x hx => by
 unfold findU at h
 have := List.find?_eq_none.1 h x hx
 simpa using this
theorem with_i (t : Int) (us : List Us) (ps : List Po) (ds : List Dn) (k : Nat) (u : Us) (hk : k ≤ us.length) (hl : us.length ≤ 400000000000) : PureD Try.prog 46 [St t us ps ds, .int .i64 k, .bool false, .agg u.row] (St t (us.take k ++ u :: us.drop k) ps ds) := by
 by_cases hn : us = []
 ·subst hn
  have : k = 0 := by simpa using hk
  subst this
  have w := with_0 t u ps ds
  simpa [St, rowsU] using w
 ·refine pureV Try.func46 low46 (by simp [c46]) ?_
  have hune : rowsU us ≠ [] := by
   cases us with
   | nil => exact absurd rfl hn
   | cons => simp [rowsU]
  have cu := clU_ne false (rowsU us) hune (sz_rows us) (by rw [rowsU_len]; omega)
  have iu := inU_p (rowsU us) k u.row true (some false) hune (sz_rows us) rfl (pt_rows us) (by simp [Us.row, D.pt1]) (by rw [rowsU_len]; omega) (by rw [rowsU_len]; exact hk)
  have e : List.take k (rowsU us) ++ u.row :: List.drop k (rowsU us) = rowsU (us.take k ++ u :: us.drop k) := by simp [rowsU, List.map_take, List.map_drop]
  rw [e, rowsU_len] at iu
  rw [rowsU_len] at cu
  have el : (us.take k ++ u :: us.drop k).length = us.length + 1 := by simp; omega
  generalize us.take k ++ u :: us.drop k = us' at iu el ⊢
  simp only [c46, St, Us.row] at iu ⊢
  repeat' ((first | apply Run_seq | apply Run_ret | apply Run_nil | apply Run_condK | apply Run_ops mixed | with_reducible refine PostV_open ?_ | with_reducible refine ro_callA (f := .c (.fn 48 [])) ?_ | with_reducible refine ro_callA' (f := .c (.fn 48 [])) ?_ | with_reducible refine ro_callA (f := .c (.fn 72 [])) ?_ | with_reducible refine ro_callA' (f := .c (.fn 72 [])) ?_ | with_reducible refine ro_callV ?_ | with_reducible refine CallE_use (cu) (by simp) ?_ | with_reducible refine CallE_use (iu) (by simp) ?_ | (refine CondK_split ?_ ?_ <;> intro hc <;> (try simp only [hc]) <;> try simp at hc) | (with_reducible refine And.intro ?_ ?_; (focus ((repeat' (with_reducible refine And.intro ?_ ?_)) <;> first | exact trivial | assumption | (simp; done) | (simp only [List.length_map] at *; omega) | omega | (simp [D.one]; done)))) | (with_reducible intro x hx) | omega) <;> (try simp only [rowsU_len, el, Nat.reduceBEq, argEnv, reduceIte, Nat.reduceAdd, Nat.reduceSub, Nat.reduceLeDiff, reduceCtorEq, faddrD, loadD, splice, D.cells, D.ok, D.one, D.pt, D.pt1, D.pt0, D.norm1, ne_eq, view, view2, view1, view0, mapO, pull, pull2, pull1, pull0, pullσ, pullOb, Go.Vi.freeze, capt, reachL, reachO, isin, merge, mset, renOb, fr, D.ren, ofRes, fw]))
def setU (us : List Us) (user : Int) (x : Se) : Us := { (findU us user).getD zU with id := user, se := x, ver := IntKind.u64.wrap (((findU us user).getD zU).ver + 1) }
def putUF (us : List Us) (user : Int) (x : Se) : List Us × Int × Int :=
 if user = 0 ∨ setB x = false then (us, 0, 2) else if (findU us user).isSome = false ∧ 100 ≤ us.length then (us, 0, 6) else (withR us (setU us user x), (setU us user x).ver, 0)
set_option maxHeartbeats 4000000 in
theorem putUser_p (t : Int) (us : List Us) (ps : List Po) (ds : List Dn) (user : Int) (x : Se) (hl : us.length ≤ 400000000000) (hs : us.Pairwise fun a b => a.id < b.id) (hx : x.fits) :
  PureD Try.prog 23 [St t us ps ds, .int .u32 user, .agg x.cells] (.tup [St t (putUF us user x).1 ps ds, .int .u64 (putUF us user x).2.1, .int .i64 (putUF us user x).2.2]) := by
 have pl := placeU_p t us ps ds user (by omega) hs
 have se := settings_p x hx
 unfold putUF
 refine pureV Try.func23 low23 (by simp [c23]) ?_
 by_cases h0 : user = 0
 ·have c1 : (user == 0) = true := by simpa using h0
  rw [if_pos (.inl h0)]
  generalize isAtB Us.id us (lowB Us.id us user) user = b at pl
  generalize lowB Us.id us user = k at pl
  simp only [c23, St, Se.cells] at pl se ⊢
  repeat' ((first | apply Run_seq | apply Run_skip | apply Run_block | apply Run_blk | refine Run_exit rfl ?_ | apply Run_ret | apply Run_nil | apply Run_condK | apply Run_ops mixed | apply Run_opsX mixed | with_reducible refine PostV_open ?_ | with_reducible refine ro_callV ?_ | with_reducible refine ro_callVX ?_ | refine CallV_pure (pl) ?_ ?_ | simp (disch := omega) only [w64, wu64, wu32, wu16, wu8, Int.tdiv_eq_ediv_of_nonneg, Int.tmod_eq_emod_of_nonneg] | ((first | refine GuardK_split ?_ ?_ | refine CondK_split ?_ ?_) <;> intro hc <;> (try simp only [hc]) <;> try simp at hc) | (with_reducible refine And.intro ?_ ?_; (focus ((repeat' (with_reducible refine And.intro ?_ ?_)) <;> first | exact trivial | assumption | (simp; done) | (simp only [List.length_map] at *; omega) | omega | (simp [D.cells, D.ok, D.one, D.pt, D.pt1]; done)))) | (with_reducible intro x hx) | omega) <;> (try simp only [c1, Nat.reduceBEq, argEnv, reduceIte, Nat.reduceAdd, reduceCtorEq, binD, binInt, pickD, extD, loadD, splice, D.cells, D.ok, D.one, D.pt, D.pt1, D.pt0, D.norm1, cond_true, ne_eq, view, view2, view1, view0, mapO, D.sc, D.sc1, D.sc2, ofRes, fw]))
 have c1 : (user == 0) = false := by simpa using h0
 by_cases hb : setB x = false
 ·rw [if_pos (.inr hb)]
  rw [hb] at se
  generalize isAtB Us.id us (lowB Us.id us user) user = b at pl
  generalize lowB Us.id us user = k at pl
  simp only [c23, St, Se.cells] at pl se ⊢
  repeat' ((first | apply Run_seq | apply Run_skip | apply Run_block | apply Run_blk | refine Run_exit rfl ?_ | apply Run_ret | apply Run_nil | apply Run_condK | apply Run_ops mixed | apply Run_opsX mixed | with_reducible refine PostV_open ?_ | with_reducible refine ro_callV ?_ | with_reducible refine ro_callVX ?_ | refine CallV_pure (pl) ?_ ?_ | refine CallV_pure (se) ?_ ?_ | simp (disch := omega) only [w64, wu64, wu32, wu16, wu8, Int.tdiv_eq_ediv_of_nonneg, Int.tmod_eq_emod_of_nonneg] | ((first | refine GuardK_split ?_ ?_ | refine CondK_split ?_ ?_) <;> intro hc <;> (try simp only [hc]) <;> try simp at hc) | (with_reducible refine And.intro ?_ ?_; (focus ((repeat' (with_reducible refine And.intro ?_ ?_)) <;> first | exact trivial | assumption | (simp; done) | (simp only [List.length_map] at *; omega) | omega | (simp [D.cells, D.ok, D.one, D.pt, D.pt1]; done)))) | (with_reducible intro x hx) | omega) <;> (try simp only [c1, Nat.reduceBEq, argEnv, reduceIte, Nat.reduceAdd, reduceCtorEq, binD, binInt, okD, unD, pickD, extD, loadD, splice, D.cells, D.ok, D.one, D.pt, D.pt1, D.pt0, D.norm1, cond_false, ne_eq, view, view2, view1, view0, mapO, D.sc, D.sc1, D.sc2, ofRes, fw]))
 have hb' : setB x = true := by simpa using hb
 rw [hb'] at se
 rw [if_neg (by rintro (h | h); exact h0 h; exact hb h)]
 cases hu : findU us user with
 | none =>
  have hat := u_no hs hu
  rw [hat] at pl
  simp only [Option.isSome_none, true_and]
  by_cases hq : 100 ≤ us.length
  ·rw [if_pos hq]
   have c2 : ((us.length : Int) ≥ 100) = True := by simp; omega
   generalize lowB Us.id us user = k at pl
   simp only [c23, St, Se.cells] at pl se ⊢
   repeat' ((first | apply Run_seq | apply Run_skip | apply Run_block | apply Run_blk | refine Run_exit rfl ?_ | apply Run_ret | apply Run_nil | apply Run_condK | apply Run_ops mixed | apply Run_opsX mixed | with_reducible refine PostV_open ?_ | with_reducible refine ro_callV ?_ | with_reducible refine ro_callVX ?_ | refine CallV_pure (pl) ?_ ?_ | refine CallV_pure (se) ?_ ?_ | simp (disch := omega) only [w64, wu64, wu32, wu16, wu8, Int.tdiv_eq_ediv_of_nonneg, Int.tmod_eq_emod_of_nonneg] | ((first | refine GuardK_split ?_ ?_ | refine CondK_split ?_ ?_) <;> intro hc <;> (try simp only [hc]) <;> try simp at hc) | (with_reducible refine And.intro ?_ ?_; (focus ((repeat' (with_reducible refine And.intro ?_ ?_)) <;> first | exact trivial | assumption | (simp; done) | (simp only [List.length_map] at *; omega) | omega | (simp [D.cells, D.ok, D.one, D.pt, D.pt1]; done)))) | (with_reducible intro x hx) | omega) <;> (try simp only [rowsU_len, c1, c2, Nat.reduceBEq, argEnv, reduceIte, Nat.reduceAdd, reduceCtorEq, binD, binInt, okD, unD, pickD, faddrD, extD, lenD, loadD, splice, D.cells, D.ok, D.one, D.pt, D.pt1, D.pt0, D.norm1, cond_true, cond_false, ne_eq, view, view2, view1, view0, mapO, D.sc, D.sc1, D.sc2, ofRes, fw]))
  ·rw [if_neg hq]
   have c2 : ((us.length : Int) ≥ 100) = False := by simp; omega
   have hno := findU_no hu
   have hle := lowB_le Us.id us user
   have eu : setU us user x = ⟨user, x, 1, []⟩ := by
    unfold setU; rw [hu]; rfl
   have wi := with_i t us ps ds (lowB Us.id us user) ⟨user, x, 1, []⟩ hle hl
   have wr := withR_no (u := ⟨user, x, 1, []⟩) hs hno
   dsimp only at wr
   rw [← wr] at wi
   rw [eu]
   generalize withR us ⟨user, x, 1, []⟩ = us' at wi ⊢
   generalize lowB Us.id us user = k at pl wi
   simp only [c23, St, Se.cells, Us.row, rowsE, List.map_nil] at pl se wi ⊢
   repeat' ((first | apply Run_seq | apply Run_skip | apply Run_block | apply Run_blk | refine Run_exit rfl ?_ | apply Run_ret | apply Run_nil | apply Run_condK | apply Run_ops mixed | apply Run_opsX mixed | with_reducible refine PostV_open ?_ | with_reducible refine ro_callV ?_ | with_reducible refine ro_callVX ?_ | refine CallV_pure (pl) ?_ ?_ | refine CallV_pure (se) ?_ ?_ | refine CallV_pure (wi) ?_ ?_ | simp (disch := omega) only [wu64] | ((first | refine GuardK_split ?_ ?_ | refine CondK_split ?_ ?_) <;> intro hc <;> (try simp only [hc]) <;> try simp at hc) | (with_reducible refine And.intro ?_ ?_; (focus ((repeat' (with_reducible refine And.intro ?_ ?_)) <;> first | exact trivial | assumption | (simp; done) | (simp only [List.length_map] at *; omega) | omega | (simp [D.cells, D.ok, D.one, D.pt, D.pt1]; done)))) | (with_reducible intro x hx) | omega) <;> (try simp only [rowsU_len, c1, c2, D.names, Nat.reduceBEq, argEnv, reduceIte, Nat.reduceAdd, Nat.reduceLeDiff, reduceCtorEq, binD, binInt, okD, aggD, unD, pickD, faddrD, extD, lenD, loadD, fillD, splice, D.cells, D.ok, D.one, D.pt, D.pt1, D.pt0, D.norm1, cond_true, cond_false, ne_eq, view, view2, view1, view0, mapO, D.sc, D.sc1, D.sc2, ofRes, fw]))
 | some u =>
  obtain ⟨h1, h2, h3, h4⟩ := u_at hs hu
  rw [h2] at pl
  have hr := rowsU_get h1
  simp only [Option.isSome_some, Bool.true_eq_false, false_and, if_false]
  have eu : setU us user x = ⟨user, x, IntKind.u64.wrap (u.ver + 1), u.evs⟩ := by
   unfold setU; rw [hu]; rfl
  have w1 := with_1 t us ps ds (lowB Us.id us user) ⟨u.id, x, IntKind.u64.wrap (u.ver + 1), u.evs⟩ h3 hl
  rw [set_rep ⟨u.id, x, IntKind.u64.wrap (u.ver + 1), u.evs⟩ us _ u hs h1 rfl, ← withR_map (u := ⟨u.id, x, IntKind.u64.wrap (u.ver + 1), u.evs⟩) hs ⟨u, (findU_some hu).1, rfl⟩] at w1
  rw [h4] at w1
  rw [eu]
  have h4' : u.id = user := h4
  generalize withR us ⟨user, x, IntKind.u64.wrap (u.ver + 1), u.evs⟩ = us' at w1 ⊢
  generalize lowB Us.id us user = k at pl w1 h3 hr
  rw [← h4'] at w1
  simp only [c23, St, Se.cells, Us.row] at pl se w1 ⊢
  repeat' ((first | apply Run_seq | apply Run_skip | apply Run_block | apply Run_blk | refine Run_exit rfl ?_ | apply Run_ret | apply Run_nil | apply Run_condK | apply Run_ops mixed | apply Run_opsX mixed | with_reducible refine PostV_open ?_ | with_reducible refine ro_callV ?_ | with_reducible refine ro_callVX ?_ | refine CallV_pure (pl) ?_ ?_ | refine CallV_pure (se) ?_ ?_ | refine CallV_pure (w1) ?_ ?_ | simp (disch := omega) only [w64, wu64, wu32, wu16, wu8, Int.tdiv_eq_ediv_of_nonneg, Int.tmod_eq_emod_of_nonneg] | ((first | refine GuardK_split ?_ ?_ | refine CondK_split ?_ ?_) <;> intro hc <;> (try simp only [hc]) <;> try simp at hc) | (with_reducible refine And.intro ?_ ?_; (focus ((repeat' (with_reducible refine And.intro ?_ ?_)) <;> first | exact trivial | assumption | (simp; done) | (simp only [List.length_map] at *; omega) | omega | (simp [D.cells, D.ok, D.one, D.pt, D.pt1]; done)))) | (with_reducible intro x hx) | omega) <;> (try simp only [rowsU_len, c1, hr, Us.row, D.names, Nat.reduceBEq, argEnv, reduceIte, Nat.reduceAdd, Nat.reduceLeDiff, reduceCtorEq, binD, binInt, okD, aggD, unD, pickD, faddrD, extD, loadD, fillD, splice, D.cells, D.ok, D.one, D.pt, D.pt1, D.pt0, D.norm1, cond_false, ne_eq, view, view2, view1, view0, mapO, D.sc, D.sc1, D.sc2, ofRes, fw]))
end Go.Proofs.Ytoleaiaeghbffaa

namespace Go.Proofs.Ytoleaiaeghbffaa
open Go Go.Vi


set_option maxHeartbeats 4000000 in
theorem refZone_p (base : Int) (l : List (Int × Int)) (hl : l.length ≤ 140737488351232) : PureD Try.prog 83 [.agg [.int .i64 base, L (row2 .i64 .i64 l)]] (.bool (zoneB base l)) := by
 refine pureV Try.func83 low83 (by simp [c83]) ?_
 simp only [c83]
 by_cases hb1 : base < -900
 ·have b1 : (base < -900) = True := by simpa using hb1
  have e : zoneB base l = false := by
   have : wideB base = true := by simp [wideB, hb1]
   simp [zoneB, this]
  rw [e]
  repeat' ((first | apply Run_seq | apply Run_skip | apply Run_block | apply Run_blk | refine Run_exit rfl ?_ | apply Run_ret | apply Run_nil | apply Run_condK | apply Run_ops mixed | with_reducible refine PostV_open ?_ | simp (disch := omega) only [w64, wu64, wu32, wu16, wu8, Int.tdiv_eq_ediv_of_nonneg, Int.tmod_eq_emod_of_nonneg] | ((first | refine GuardK_split ?_ ?_ | refine CondK_split ?_ ?_) <;> intro hc <;> (try simp only [hc]) <;> try simp at hc) | (with_reducible refine And.intro ?_ ?_; (focus ((repeat' (with_reducible refine And.intro ?_ ?_)) <;> first | exact trivial | assumption | (simp; done) | (simp only [List.length_map] at *; omega) | omega | (simp [D.cells, D.ok, D.one, D.pt, D.pt1]; done)))) | (with_reducible intro x hx) | omega) <;> (try simp only [b1, Nat.reduceBEq, argEnv, reduceIte, Nat.reduceAdd, reduceCtorEq, binD, binInt, pickD, faddrD, loadD, D.cells, D.ok, D.one, D.pt1, D.pt0, D.norm1, cond_true, ne_eq, Int.reduceNeg, view, view2, view1, view0, ofRes, fw]))
 have b1 : (base < -900) = False := by simpa using hb1
 by_cases hb2 : base > 900
 ·have b2 : (base > 900) = True := by simpa using hb2
  have e : zoneB base l = false := by
   have : wideB base = true := by simp [wideB]; omega
   simp [zoneB, this]
  rw [e]
  repeat' ((first | apply Run_seq | apply Run_skip | apply Run_block | apply Run_blk | refine Run_exit rfl ?_ | apply Run_ret | apply Run_nil | apply Run_condK | apply Run_ops mixed | with_reducible refine PostV_open ?_ | simp (disch := omega) only [w64, wu64, wu32, wu16, wu8, Int.tdiv_eq_ediv_of_nonneg, Int.tmod_eq_emod_of_nonneg] | ((first | refine GuardK_split ?_ ?_ | refine CondK_split ?_ ?_) <;> intro hc <;> (try simp only [hc]) <;> try simp at hc) | (with_reducible refine And.intro ?_ ?_; (focus ((repeat' (with_reducible refine And.intro ?_ ?_)) <;> first | exact trivial | assumption | (simp; done) | (simp only [List.length_map] at *; omega) | omega | (simp [D.cells, D.ok, D.one, D.pt, D.pt1]; done)))) | (with_reducible intro x hx) | omega) <;> (try simp only [b1, b2, Nat.reduceBEq, argEnv, reduceIte, Nat.reduceAdd, reduceCtorEq, binD, binInt, pickD, faddrD, loadD, D.cells, D.ok, D.one, D.pt1, D.pt0, D.norm1, cond_true, cond_false, ne_eq, Int.reduceNeg, view, view2, view1, view0, ofRes, fw]))
 have b2 : (base > 900) = False := by simpa using hb2
 have hb' : wideB base = false := by simp [wideB]; omega
 by_cases hbig : 700 < l.length
 ·have c0 : ((l.length : Int) > 700) = True := by simp; omega
  have e : zoneB base l = false := by
   have : ¬ l.length ≤ 700 := by omega
   simp [zoneB, this]
  rw [e]
  repeat' ((first | apply Run_seq | apply Run_skip | apply Run_block | apply Run_blk | refine Run_exit rfl ?_ | apply Run_ret | apply Run_nil | apply Run_condK | apply Run_ops mixed | with_reducible refine PostV_open ?_ | simp (disch := omega) only [w64, wu64, wu32, wu16, wu8, Int.tdiv_eq_ediv_of_nonneg, Int.tmod_eq_emod_of_nonneg] | ((first | refine GuardK_split ?_ ?_ | refine CondK_split ?_ ?_) <;> intro hc <;> (try simp only [hc]) <;> try simp at hc) | (with_reducible refine And.intro ?_ ?_; (focus ((repeat' (with_reducible refine And.intro ?_ ?_)) <;> first | exact trivial | assumption | (simp; done) | (simp only [List.length_map] at *; omega) | omega | (simp [D.cells, D.ok, D.one, D.pt, D.pt1]; done)))) | (with_reducible intro x hx) | omega) <;> (try simp only [row2_len, b1, b2, c0, Nat.reduceBEq, argEnv, reduceIte, Nat.reduceAdd, reduceCtorEq, binD, binInt, pickD, faddrD, lenD, loadD, D.cells, D.ok, D.one, D.pt1, D.pt0, D.norm1, cond_false, ne_eq, Int.reduceNeg, view, view2, view1, view0, ofRes, fw]))
 have c0 : ((l.length : Int) > 700) = False := by simp; omega
 have e0 : zoneB base l = (l.all turnB && decide (l.Pairwise farT)) := by
  have : l.length ≤ 700 := by omega
  simp [zoneB, hb', this]
 rw [e0]
 repeat' ((first | apply Run_seq | apply Run_skip | apply Run_block | apply Run_blk | refine Run_exit rfl ?_ | apply Run_ret | apply Run_nil | apply Run_condK | apply Run_ops mixed | with_reducible refine PostV_open ?_ | simp (disch := omega) only [w64, wu64, wu32, wu16, wu8, Int.tdiv_eq_ediv_of_nonneg, Int.tmod_eq_emod_of_nonneg] | ((first | refine GuardK_split ?_ ?_ | refine CondK_split ?_ ?_) <;> intro hc <;> (try simp only [hc]) <;> try simp at hc) | (with_reducible refine And.intro ?_ ?_; (focus ((repeat' (with_reducible refine And.intro ?_ ?_)) <;> first | exact trivial | assumption | (simp; done) | (simp only [List.length_map] at *; omega) | omega | (simp [D.cells, D.ok, D.one, D.pt, D.pt1]; done)))) | (with_reducible intro x hx) | omega) <;> (try simp only [row2_len, b1, b2, c0, Nat.reduceBEq, argEnv, reduceIte, Nat.reduceAdd, reduceCtorEq, binD, binInt, pickD, faddrD, lenD, loadD, D.cells, D.ok, D.one, D.pt1, cond_false, ne_eq, Int.reduceNeg, fw]))
 refine Run_loop (ι := {p : Nat × Int // p.1 ≤ l.length ∧ (l.take p.1).all turnB = true ∧ (l.take p.1).Pairwise farT ∧ -2880 ≤ p.2 ∧ p.2 ≤ 158310720 ∧ (p.1 = 0 → p.2 = -2880) ∧ ∀ i x, p.1 = i + 1 → l[i]? = some x → p.2 = x.1}) (fun p => ([(1, .ptr 0 0 0 1), (3, .int .i64 p.1.2), (22, .int .i64 l.length), (23, .int .i64 p.1.1)], [⟨true, false, true, false, 2, [[.int .i64 base, L (row2 .i64 .i64 l)]], some 0⟩])) (fun p => l.length - p.1.1) ⟨(0, -2880), by simp⟩ ?_ ?_
 ·refine Ent_gc [0] (by rfl) (by simp) (by simp [keptW, ObKW, ObW, imp_self, pullOb, or_false]) (by simp [lk_hit, lk_miss, D.pt0, viewS_own', pull, pull2, pull1, pull0, idx_hit, gate, List.mem_cons, or_false, view0])
 rintro ⟨⟨i, last⟩, hi, ha, hp, hl1, hl2, hl3, hl4⟩ hk
 dsimp only at hk hi ha hp hl1 hl2 hl3 hl4 ⊢
 by_cases hlt : i < l.length
 ·have c2 : ((i : Int) < (l.length : Int)) = True := by simp; omega
  obtain ⟨x, hx⟩ : ∃ x, l[i]? = some x := ⟨_, List.getElem?_eq_getElem hlt⟩
  have rx := row2_get (k := .i64) (m := .i64) hx
  by_cases hs : turnB x = true
  ·have hs' := hs
   simp only [turnB, wideB, Bool.and_eq_true, Bool.not_eq_true', decide_eq_true_eq, decide_eq_false_iff_not] at hs'
   obtain ⟨n1, n2, n3⟩ := hs'
   have d0 : (x.2 < -900) = False := by simp; omega
   have d00 : (x.2 > 900) = False := by simp; omega
   have d1 : (x.1 < 0) = False := by simp; omega
   have d2 : (x.1 > 158310720) = False := by simp; omega
   by_cases hd : x.1 - last < 2880
   ·have d3 : (x.1 - last < 2880) = True := by simpa using hd
    have e : (l.all turnB && decide (l.Pairwise farT)) = false := by
     cases i with
     | zero => have := hl3 rfl; omega
     | succ i =>
      obtain ⟨y, hy⟩ : ∃ y, l[i]? = some y := ⟨_, List.getElem?_eq_getElem (by omega)⟩
      have hyl := hl4 i y rfl hy
      have : decide (l.Pairwise farT) = false := by
       simpa using pw_no hy hx (show ¬ farT y x by unfold farT; omega)
      rw [this, Bool.and_false]
    rw [e]
    repeat' ((first | apply Run_seq | apply Run_skip | apply Run_block | apply Run_blk | refine Run_exit rfl ?_ | apply Run_ret | apply Run_nil | apply Run_condK | apply Run_ops mixed | with_reducible refine PostV_open ?_ | simp (disch := omega) only [w64] | ((first | refine GuardK_split ?_ ?_ | refine CondK_split ?_ ?_) <;> intro hc <;> (try simp only [hc]) <;> try simp at hc) | (with_reducible refine And.intro ?_ ?_; (focus ((repeat' (with_reducible refine And.intro ?_ ?_)) <;> first | exact trivial | assumption | (simp; done) | (simp only [List.length_map] at *; omega) | omega | (simp [D.cells, D.ok, D.one, D.pt, D.pt1]; done)))) | (with_reducible intro x hx) | omega) <;> (try simp only [row2_len, c2, rx, d0, d00, d1, d2, d3, Nat.reduceBEq, reduceIte, Nat.reduceAdd, reduceCtorEq, binD, binInt, pickD, faddrD, loadD, splice, D.cells, D.ok, D.one, D.pt1, D.pt0, D.norm1, cond_false, ne_eq, Int.reduceNeg, view, view2, view1, view0, ofRes, fw]))
   ·have d3 : (x.1 - last < 2880) = False := by simpa using hd
    repeat' ((first | apply Run_seq | apply Run_skip | apply Run_block | apply Run_blk | refine Run_exit rfl ?_ | apply Run_ret | apply Run_nil | apply Run_condK | apply Run_ops mixed | with_reducible refine PostV_open ?_ | simp (disch := omega) only [w64] | ((first | refine GuardK_split ?_ ?_ | refine CondK_split ?_ ?_) <;> intro hc <;> (try simp only [hc]) <;> try simp at hc) | (with_reducible refine And.intro ?_ ?_; (focus ((repeat' (with_reducible refine And.intro ?_ ?_)) <;> first | exact trivial | assumption | (simp; done) | (simp only [List.length_map] at *; omega) | omega | (simp [D.cells, D.ok, D.one, D.pt, D.pt1]; done)))) | (with_reducible intro x hx) | omega) <;> (try simp only [row2_len, c2, rx, d0, d00, d1, d2, d3, Nat.reduceBEq, reduceIte, Nat.reduceAdd, reduceCtorEq, binD, binInt, pickD, faddrD, loadD, splice, D.cells, D.ok, D.one, D.pt1, cond_false, ne_eq, Int.reduceNeg, fw]))
    refine hk ⟨(i + 1, x.1), by dsimp only; omega, all_step ha hx hs, ?_, by dsimp only; omega, by dsimp only; omega, by simp, fun j y hj hy => ?_⟩ _ _ (by dsimp only; omega) ?_
    ·cases i with
     | zero => dsimp only; rw [List.take_add_one, hx]; simp
     | succ i =>
      obtain ⟨y, hy⟩ : ∃ y, l[i]? = some y := ⟨_, List.getElem?_eq_getElem (by omega)⟩
      have hyl := hl4 i y rfl hy
      exact pw_step farT_trans hp hy hx (show farT y x by unfold farT; omega)
    ·have : i = j := by dsimp only at hj; omega
     subst this
     rw [hx] at hy
     cases hy
     rfl
    dsimp only
    refine Ent_gc [0] (by rfl) (by simp) (by simp [keptW, ObKW, ObW, imp_self, pullOb, or_false]) (by simp [lk_hit, lk_miss, D.pt0, viewS_own', pull, pull2, pull1, pull0, idx_hit, gate, List.mem_cons, or_false, view0])
  ·have hs' : turnB x = false := by simpa using hs
   have e : (l.all turnB && decide (l.Pairwise farT)) = false := by rw [all_no hx hs', Bool.false_and]
   rw [e]
   by_cases n0 : x.2 < -900
   ·have d0 : (x.2 < -900) = True := by simpa using n0
    repeat' ((first | apply Run_seq | apply Run_skip | apply Run_block | apply Run_blk | refine Run_exit rfl ?_ | apply Run_ret | apply Run_nil | apply Run_condK | apply Run_ops mixed | with_reducible refine PostV_open ?_ | simp (disch := omega) only [w64, wu64, wu32, wu16, wu8, Int.tdiv_eq_ediv_of_nonneg, Int.tmod_eq_emod_of_nonneg] | ((first | refine GuardK_split ?_ ?_ | refine CondK_split ?_ ?_) <;> intro hc <;> (try simp only [hc]) <;> try simp at hc) | (with_reducible refine And.intro ?_ ?_; (focus ((repeat' (with_reducible refine And.intro ?_ ?_)) <;> first | exact trivial | assumption | (simp; done) | (simp only [List.length_map] at *; omega) | omega | (simp [D.cells, D.ok, D.one, D.pt, D.pt1]; done)))) | (with_reducible intro x hx) | omega) <;> (try simp only [row2_len, c2, rx, d0, Nat.reduceBEq, reduceIte, Nat.reduceAdd, reduceCtorEq, binD, binInt, pickD, faddrD, loadD, splice, D.cells, D.ok, D.one, D.pt1, D.pt0, D.norm1, cond_true, ne_eq, Int.reduceNeg, view, view2, view1, view0, ofRes, fw]))
   have d0 : (x.2 < -900) = False := by simpa using n0
   by_cases n00 : x.2 > 900
   ·have d00 : (x.2 > 900) = True := by simpa using n00
    repeat' ((first | apply Run_seq | apply Run_skip | apply Run_block | apply Run_blk | refine Run_exit rfl ?_ | apply Run_ret | apply Run_nil | apply Run_condK | apply Run_ops mixed | with_reducible refine PostV_open ?_ | simp (disch := omega) only [w64, wu64, wu32, wu16, wu8, Int.tdiv_eq_ediv_of_nonneg, Int.tmod_eq_emod_of_nonneg] | ((first | refine GuardK_split ?_ ?_ | refine CondK_split ?_ ?_) <;> intro hc <;> (try simp only [hc]) <;> try simp at hc) | (with_reducible refine And.intro ?_ ?_; (focus ((repeat' (with_reducible refine And.intro ?_ ?_)) <;> first | exact trivial | assumption | (simp; done) | (simp only [List.length_map] at *; omega) | omega | (simp [D.cells, D.ok, D.one, D.pt, D.pt1]; done)))) | (with_reducible intro x hx) | omega) <;> (try simp only [row2_len, c2, rx, d0, d00, Nat.reduceBEq, reduceIte, Nat.reduceAdd, reduceCtorEq, binD, binInt, pickD, faddrD, loadD, splice, D.cells, D.ok, D.one, D.pt1, D.pt0, D.norm1, cond_true, cond_false, ne_eq, Int.reduceNeg, view, view2, view1, view0, ofRes, fw]))
   have d00 : (x.2 > 900) = False := by simpa using n00
   by_cases n2 : x.1 < 0
   ·have d1 : (x.1 < 0) = True := by simpa using n2
    repeat' ((first | apply Run_seq | apply Run_skip | apply Run_block | apply Run_blk | refine Run_exit rfl ?_ | apply Run_ret | apply Run_nil | apply Run_condK | apply Run_ops mixed | with_reducible refine PostV_open ?_ | simp (disch := omega) only [w64, wu64, wu32, wu16, wu8, Int.tdiv_eq_ediv_of_nonneg, Int.tmod_eq_emod_of_nonneg] | ((first | refine GuardK_split ?_ ?_ | refine CondK_split ?_ ?_) <;> intro hc <;> (try simp only [hc]) <;> try simp at hc) | (with_reducible refine And.intro ?_ ?_; (focus ((repeat' (with_reducible refine And.intro ?_ ?_)) <;> first | exact trivial | assumption | (simp; done) | (simp only [List.length_map] at *; omega) | omega | (simp [D.cells, D.ok, D.one, D.pt, D.pt1]; done)))) | (with_reducible intro x hx) | omega) <;> (try simp only [row2_len, c2, rx, d0, d00, d1, Nat.reduceBEq, reduceIte, Nat.reduceAdd, reduceCtorEq, binD, binInt, pickD, faddrD, loadD, splice, D.cells, D.ok, D.one, D.pt1, D.pt0, D.norm1, cond_true, cond_false, ne_eq, Int.reduceNeg, view, view2, view1, view0, ofRes, fw]))
   have d1 : (x.1 < 0) = False := by simpa using n2
   have d2 : (x.1 > 158310720) = True := by
    have n1' : wideB x.2 = false := by simp [wideB]; omega
    simp only [turnB, n1', Bool.not_false, Bool.true_and, decide_eq_false_iff_not] at hs'
    simp; omega
   repeat' ((first | apply Run_seq | apply Run_skip | apply Run_block | apply Run_blk | refine Run_exit rfl ?_ | apply Run_ret | apply Run_nil | apply Run_condK | apply Run_ops mixed | with_reducible refine PostV_open ?_ | simp (disch := omega) only [w64, wu64, wu32, wu16, wu8, Int.tdiv_eq_ediv_of_nonneg, Int.tmod_eq_emod_of_nonneg] | ((first | refine GuardK_split ?_ ?_ | refine CondK_split ?_ ?_) <;> intro hc <;> (try simp only [hc]) <;> try simp at hc) | (with_reducible refine And.intro ?_ ?_; (focus ((repeat' (with_reducible refine And.intro ?_ ?_)) <;> first | exact trivial | assumption | (simp; done) | (simp only [List.length_map] at *; omega) | omega | (simp [D.cells, D.ok, D.one, D.pt, D.pt1]; done)))) | (with_reducible intro x hx) | omega) <;> (try simp only [row2_len, c2, rx, d0, d00, d1, d2, Nat.reduceBEq, reduceIte, Nat.reduceAdd, reduceCtorEq, binD, binInt, pickD, faddrD, loadD, splice, D.cells, D.ok, D.one, D.pt1, D.pt0, D.norm1, cond_true, cond_false, ne_eq, Int.reduceNeg, view, view2, view1, view0, ofRes, fw]))
 ·have c2 : ((i : Int) < (l.length : Int)) = False := by simp; omega
  obtain rfl : i = l.length := by omega
  rw [List.take_length] at ha hp
  rw [ha, decide_eq_true hp]
  repeat' ((first | apply Run_seq | apply Run_skip | apply Run_block | apply Run_blk | refine Run_exit rfl ?_ | apply Run_ret | apply Run_nil | apply Run_condK | apply Run_ops mixed | with_reducible refine PostV_open ?_ | simp (disch := omega) only [w64, wu64, wu32, wu16, wu8, Int.tdiv_eq_ediv_of_nonneg, Int.tmod_eq_emod_of_nonneg] | ((first | refine GuardK_split ?_ ?_ | refine CondK_split ?_ ?_) <;> intro hc <;> (try simp only [hc]) <;> try simp at hc) | (with_reducible refine And.intro ?_ ?_; (focus ((repeat' (with_reducible refine And.intro ?_ ?_)) <;> first | exact trivial | assumption | (simp; done) | (simp only [List.length_map] at *; omega) | omega | (simp [D.cells, D.ok, D.one, D.pt, D.pt1]; done)))) | (with_reducible intro x hx) | omega) <;> (try simp only [c2, Nat.reduceBEq, reduceIte, binD, binInt, D.pt0, D.norm1, view, view2, view1, view0, ofRes, fw]))
set_option maxHeartbeats 4000000 in
theorem refHours_p (s : List (Int × Int × Int)) (l : List Int) (hs : s.length ≤ 140737488351232) (hl : l.length ≤ 140737488351232) : PureD Try.prog 84 [.agg [L (row3 s), L (row1 .i64 l)]] (.bool (hoursB s l)) := by
 refine pureV Try.func84 low84 (by simp [c84]) ?_
 simp only [c84]
 by_cases hbig : 10 < s.length
 ·have c0 : ((s.length : Int) > 10) = True := by simp; omega
  have e : hoursB s l = false := by
   have : ¬ s.length ≤ 10 := by omega
   simp [hoursB, this]
  rw [e]
  repeat' ((first | apply Run_seq | apply Run_skip | apply Run_block | apply Run_blk | refine Run_exit rfl ?_ | apply Run_ret | apply Run_nil | apply Run_condK | apply Run_ops mixed | apply Run_opsX mixed | with_reducible refine PostV_open ?_ | simp (disch := omega) only [w64, wu64, wu32, wu16, wu8, Int.tdiv_eq_ediv_of_nonneg, Int.tmod_eq_emod_of_nonneg] | ((first | refine GuardK_split ?_ ?_ | refine CondK_split ?_ ?_) <;> intro hc <;> (try simp only [hc]) <;> try simp at hc) | (with_reducible refine And.intro ?_ ?_; (focus ((repeat' (with_reducible refine And.intro ?_ ?_)) <;> first | exact trivial | assumption | (simp; done) | (simp only [List.length_map] at *; omega) | omega | (simp [D.cells, D.ok, D.one, D.pt, D.pt1]; done)))) | (with_reducible intro x hx) | omega) <;> (try simp only [row3_len, c0, Nat.reduceBEq, argEnv, reduceIte, Nat.reduceAdd, reduceCtorEq, binD, binInt, pickD, faddrD, lenD, loadD, D.cells, D.ok, D.one, D.pt1, D.pt0, D.norm1, cond_true, ne_eq, view, view2, view1, view0, ofRes, fw]))
 have c0 : ((s.length : Int) > 10) = False := by simp; omega
 by_cases hbig2 : 60 < l.length
 ·have c1 : ((l.length : Int) > 60) = True := by simp; omega
  have e : hoursB s l = false := by
   have : ¬ l.length ≤ 60 := by omega
   simp [hoursB, this]
  rw [e]
  repeat' ((first | apply Run_seq | apply Run_skip | apply Run_block | apply Run_blk | refine Run_exit rfl ?_ | apply Run_ret | apply Run_nil | apply Run_condK | apply Run_ops mixed | apply Run_opsX mixed | with_reducible refine PostV_open ?_ | simp (disch := omega) only [w64, wu64, wu32, wu16, wu8, Int.tdiv_eq_ediv_of_nonneg, Int.tmod_eq_emod_of_nonneg] | ((first | refine GuardK_split ?_ ?_ | refine CondK_split ?_ ?_) <;> intro hc <;> (try simp only [hc]) <;> try simp at hc) | (with_reducible refine And.intro ?_ ?_; (focus ((repeat' (with_reducible refine And.intro ?_ ?_)) <;> first | exact trivial | assumption | (simp; done) | (simp only [List.length_map] at *; omega) | omega | (simp [D.cells, D.ok, D.one, D.pt, D.pt1]; done)))) | (with_reducible intro x hx) | omega) <;> (try simp only [row1_len, row3_len, c0, c1, Nat.reduceBEq, argEnv, reduceIte, Nat.reduceAdd, reduceCtorEq, binD, binInt, pickD, faddrD, lenD, loadD, D.cells, D.ok, D.one, D.pt1, D.pt0, D.norm1, cond_false, ne_eq, view, view2, view1, view0, ofRes, fw]))
 have c1 : ((l.length : Int) > 60) = False := by simp; omega
 have e0 : hoursB s l = ((l.all dayOffB && risB l) && s.all shiftB) := by
  have h1 : s.length ≤ 10 := by omega
  have h2 : l.length ≤ 60 := by omega
  simp [hoursB, h1, h2]
 rw [e0]
 repeat' ((first | apply Run_seq | apply Run_skip | apply Run_block | apply Run_blk | refine Run_exit rfl ?_ | apply Run_ret | apply Run_nil | apply Run_condK | apply Run_ops mixed | apply Run_opsX mixed | with_reducible refine PostV_open ?_ | simp (disch := omega) only [w64, wu64, wu32, wu16, wu8, Int.tdiv_eq_ediv_of_nonneg, Int.tmod_eq_emod_of_nonneg] | ((first | refine GuardK_split ?_ ?_ | refine CondK_split ?_ ?_) <;> intro hc <;> (try simp only [hc]) <;> try simp at hc) | (with_reducible refine And.intro ?_ ?_; (focus ((repeat' (with_reducible refine And.intro ?_ ?_)) <;> first | exact trivial | assumption | (simp; done) | (simp only [List.length_map] at *; omega) | omega | (simp [D.cells, D.ok, D.one, D.pt, D.pt1]; done)))) | (with_reducible intro x hx) | omega) <;> (try simp only [row1_len, row3_len, c0, c1, Nat.reduceBEq, argEnv, reduceIte, Nat.reduceAdd, reduceCtorEq, binD, binInt, pickD, faddrD, lenD, loadD, D.cells, D.ok, D.one, D.pt1, cond_false, ne_eq, fw]))
 refine Run_loop (ι := {i : Nat // i ≤ s.length ∧ (s.take i).all shiftB = true}) (fun i => ([(1, .ptr 0 0 0 1), (18, .int .i64 s.length), (19, .int .i64 i.1)], [⟨true, false, true, false, 2, [[L (row3 s), L (row1 .i64 l)]], some 0⟩])) (fun i => s.length - i.1) ⟨0, by simp⟩ ?_ ?_
 ·refine Ent_gc [0] (by rfl) (by simp) (by simp [keptW, ObKW, ObW, imp_self, pullOb, or_false]) (by simp [lk_hit, lk_miss, D.pt0, viewS_own', pull, pull2, pull1, pull0, idx_hit, gate, List.mem_cons, or_false, view0])
 rintro ⟨i, hi, ha⟩ hk
 dsimp only at hk ⊢
 by_cases hlt : i < s.length
 ·have c2 : ((i : Int) < (s.length : Int)) = True := by simp; omega
  obtain ⟨x, hx⟩ : ∃ x, s[i]? = some x := ⟨_, List.getElem?_eq_getElem hlt⟩
  have rx := row3_get hx
  by_cases hb : shiftB x = true
  ·have hb' := hb
   simp only [shiftB, decide_eq_true_eq] at hb'
   have d1 : (x.1 < 1) = False := by simp; omega
   have d2 : (x.1 > 127) = False := by simp; omega
   have d3 : (x.2.1 < 0) = False := by simp; omega
   have d4 : (x.2.2 ≤ x.2.1) = False := by simp; omega
   have d5 : (x.2.2 > 1440) = False := by simp; omega
   repeat' ((first | apply Run_seq | apply Run_skip | apply Run_block | apply Run_blk | refine Run_exit rfl ?_ | apply Run_ret | apply Run_nil | apply Run_condK | apply Run_ops mixed | apply Run_opsX mixed | with_reducible refine PostV_open ?_ | simp (disch := omega) only [w64] | ((first | refine GuardK_split ?_ ?_ | refine CondK_split ?_ ?_) <;> intro hc <;> (try simp only [hc]) <;> try simp at hc) | (with_reducible refine And.intro ?_ ?_; (focus ((repeat' (with_reducible refine And.intro ?_ ?_)) <;> first | exact trivial | assumption | (simp; done) | (simp only [List.length_map] at *; omega) | omega | (simp [D.cells, D.ok, D.one, D.pt, D.pt1]; done)))) | (with_reducible intro x hx) | omega) <;> (try simp only [row3_len, c2, rx, d1, d2, d3, d4, d5, Nat.reduceBEq, reduceIte, Nat.reduceAdd, reduceCtorEq, binD, binInt, pickD, faddrD, loadD, splice, D.cells, D.ok, D.one, D.pt1, cond_false, ne_eq, fw]))
   refine hk ⟨i + 1, by omega, all_step ha hx hb⟩ _ _ (by dsimp only; omega) ?_
   dsimp only
   refine Ent_gc [0] (by rfl) (by simp) (by simp [keptW, ObKW, ObW, imp_self, pullOb, or_false]) (by simp [lk_hit, lk_miss, D.pt0, viewS_own', pull, pull2, pull1, pull0, idx_hit, gate, List.mem_cons, or_false, view0])
  ·have hb' : shiftB x = false := by simpa using hb
   have e : ((l.all dayOffB && risB l) && s.all shiftB) = false := by rw [all_no hx hb', Bool.and_false]
   rw [e]
   by_cases n1 : x.1 < 1
   ·have d1 : (x.1 < 1) = True := by simpa using n1
    repeat' ((first | apply Run_seq | apply Run_skip | apply Run_block | apply Run_blk | refine Run_exit rfl ?_ | apply Run_ret | apply Run_nil | apply Run_condK | apply Run_ops mixed | apply Run_opsX mixed | with_reducible refine PostV_open ?_ | simp (disch := omega) only [w64, wu64, wu32, wu16, wu8, Int.tdiv_eq_ediv_of_nonneg, Int.tmod_eq_emod_of_nonneg] | ((first | refine GuardK_split ?_ ?_ | refine CondK_split ?_ ?_) <;> intro hc <;> (try simp only [hc]) <;> try simp at hc) | (with_reducible refine And.intro ?_ ?_; (focus ((repeat' (with_reducible refine And.intro ?_ ?_)) <;> first | exact trivial | assumption | (simp; done) | (simp only [List.length_map] at *; omega) | omega | (simp [D.cells, D.ok, D.one, D.pt, D.pt1]; done)))) | (with_reducible intro x hx) | omega) <;> (try simp only [row3_len, c2, rx, d1, Nat.reduceBEq, reduceIte, Nat.reduceAdd, reduceCtorEq, binD, binInt, pickD, faddrD, loadD, splice, D.cells, D.ok, D.one, D.pt1, D.pt0, D.norm1, cond_true, ne_eq, view, view2, view1, view0, ofRes, fw]))
   have d1 : (x.1 < 1) = False := by simpa using n1
   by_cases n2 : x.1 > 127
   ·have d2 : (x.1 > 127) = True := by simpa using n2
    repeat' ((first | apply Run_seq | apply Run_skip | apply Run_block | apply Run_blk | refine Run_exit rfl ?_ | apply Run_ret | apply Run_nil | apply Run_condK | apply Run_ops mixed | apply Run_opsX mixed | with_reducible refine PostV_open ?_ | simp (disch := omega) only [w64, wu64, wu32, wu16, wu8, Int.tdiv_eq_ediv_of_nonneg, Int.tmod_eq_emod_of_nonneg] | ((first | refine GuardK_split ?_ ?_ | refine CondK_split ?_ ?_) <;> intro hc <;> (try simp only [hc]) <;> try simp at hc) | (with_reducible refine And.intro ?_ ?_; (focus ((repeat' (with_reducible refine And.intro ?_ ?_)) <;> first | exact trivial | assumption | (simp; done) | (simp only [List.length_map] at *; omega) | omega | (simp [D.cells, D.ok, D.one, D.pt, D.pt1]; done)))) | (with_reducible intro x hx) | omega) <;> (try simp only [row3_len, c2, rx, d1, d2, Nat.reduceBEq, reduceIte, Nat.reduceAdd, reduceCtorEq, binD, binInt, pickD, faddrD, loadD, splice, D.cells, D.ok, D.one, D.pt1, D.pt0, D.norm1, cond_true, cond_false, ne_eq, view, view2, view1, view0, ofRes, fw]))
   have d2 : (x.1 > 127) = False := by simpa using n2
   by_cases n3 : x.2.1 < 0
   ·have d3 : (x.2.1 < 0) = True := by simpa using n3
    repeat' ((first | apply Run_seq | apply Run_skip | apply Run_block | apply Run_blk | refine Run_exit rfl ?_ | apply Run_ret | apply Run_nil | apply Run_condK | apply Run_ops mixed | apply Run_opsX mixed | with_reducible refine PostV_open ?_ | simp (disch := omega) only [w64, wu64, wu32, wu16, wu8, Int.tdiv_eq_ediv_of_nonneg, Int.tmod_eq_emod_of_nonneg] | ((first | refine GuardK_split ?_ ?_ | refine CondK_split ?_ ?_) <;> intro hc <;> (try simp only [hc]) <;> try simp at hc) | (with_reducible refine And.intro ?_ ?_; (focus ((repeat' (with_reducible refine And.intro ?_ ?_)) <;> first | exact trivial | assumption | (simp; done) | (simp only [List.length_map] at *; omega) | omega | (simp [D.cells, D.ok, D.one, D.pt, D.pt1]; done)))) | (with_reducible intro x hx) | omega) <;> (try simp only [row3_len, c2, rx, d1, d2, d3, Nat.reduceBEq, reduceIte, Nat.reduceAdd, reduceCtorEq, binD, binInt, pickD, faddrD, loadD, splice, D.cells, D.ok, D.one, D.pt1, D.pt0, D.norm1, cond_true, cond_false, ne_eq, view, view2, view1, view0, ofRes, fw]))
   have d3 : (x.2.1 < 0) = False := by simpa using n3
   by_cases n4 : x.2.2 ≤ x.2.1
   ·have d4 : (x.2.2 ≤ x.2.1) = True := by simpa using n4
    repeat' ((first | apply Run_seq | apply Run_skip | apply Run_block | apply Run_blk | refine Run_exit rfl ?_ | apply Run_ret | apply Run_nil | apply Run_condK | apply Run_ops mixed | apply Run_opsX mixed | with_reducible refine PostV_open ?_ | simp (disch := omega) only [w64, wu64, wu32, wu16, wu8, Int.tdiv_eq_ediv_of_nonneg, Int.tmod_eq_emod_of_nonneg] | ((first | refine GuardK_split ?_ ?_ | refine CondK_split ?_ ?_) <;> intro hc <;> (try simp only [hc]) <;> try simp at hc) | (with_reducible refine And.intro ?_ ?_; (focus ((repeat' (with_reducible refine And.intro ?_ ?_)) <;> first | exact trivial | assumption | (simp; done) | (simp only [List.length_map] at *; omega) | omega | (simp [D.cells, D.ok, D.one, D.pt, D.pt1]; done)))) | (with_reducible intro x hx) | omega) <;> (try simp only [row3_len, c2, rx, d1, d2, d3, d4, Nat.reduceBEq, reduceIte, Nat.reduceAdd, reduceCtorEq, binD, binInt, pickD, faddrD, loadD, splice, D.cells, D.ok, D.one, D.pt1, D.pt0, D.norm1, cond_true, cond_false, ne_eq, view, view2, view1, view0, ofRes, fw]))
   have d4 : (x.2.2 ≤ x.2.1) = False := by simpa using n4
   have d5 : (x.2.2 > 1440) = True := by
    simp only [shiftB, decide_eq_false_iff_not] at hb'
    simp; omega
   repeat' ((first | apply Run_seq | apply Run_skip | apply Run_block | apply Run_blk | refine Run_exit rfl ?_ | apply Run_ret | apply Run_nil | apply Run_condK | apply Run_ops mixed | apply Run_opsX mixed | with_reducible refine PostV_open ?_ | simp (disch := omega) only [w64, wu64, wu32, wu16, wu8, Int.tdiv_eq_ediv_of_nonneg, Int.tmod_eq_emod_of_nonneg] | ((first | refine GuardK_split ?_ ?_ | refine CondK_split ?_ ?_) <;> intro hc <;> (try simp only [hc]) <;> try simp at hc) | (with_reducible refine And.intro ?_ ?_; (focus ((repeat' (with_reducible refine And.intro ?_ ?_)) <;> first | exact trivial | assumption | (simp; done) | (simp only [List.length_map] at *; omega) | omega | (simp [D.cells, D.ok, D.one, D.pt, D.pt1]; done)))) | (with_reducible intro x hx) | omega) <;> (try simp only [row3_len, c2, rx, d1, d2, d3, d4, d5, Nat.reduceBEq, reduceIte, Nat.reduceAdd, reduceCtorEq, binD, binInt, pickD, faddrD, loadD, splice, D.cells, D.ok, D.one, D.pt1, D.pt0, D.norm1, cond_false, ne_eq, view, view2, view1, view0, ofRes, fw]))
 ·have c2 : ((i : Int) < (s.length : Int)) = False := by simp; omega
  obtain rfl : i = s.length := by omega
  rw [List.take_length] at ha
  rw [ha, Bool.and_true]
  clear ha hk c2 hlt
  have c2 : ((s.length : Int) < (s.length : Int)) = False := by simp
  repeat' ((first | apply Run_seq | apply Run_skip | apply Run_block | apply Run_blk | refine Run_exit rfl ?_ | apply Run_ret | apply Run_nil | apply Run_condK | apply Run_ops mixed | apply Run_opsX mixed | with_reducible refine PostV_open ?_ | simp (disch := omega) only [w64, wu64, wu32, wu16, wu8, Int.tdiv_eq_ediv_of_nonneg, Int.tmod_eq_emod_of_nonneg] | ((first | refine GuardK_split ?_ ?_ | refine CondK_split ?_ ?_) <;> intro hc <;> (try simp only [hc]) <;> try simp at hc) | (with_reducible refine And.intro ?_ ?_; (focus ((repeat' (with_reducible refine And.intro ?_ ?_)) <;> first | exact trivial | assumption | (simp; done) | (simp only [List.length_map] at *; omega) | omega | (simp [D.cells, D.ok, D.one, D.pt, D.pt1]; done)))) | (with_reducible intro x hx) | omega) <;> (try simp only [row1_len, c2, Nat.reduceBEq, reduceIte, binD, binInt, faddrD, lenD, loadD, fw]))
  refine Run_loop (ι := {i : Nat // i ≤ l.length ∧ (l.take i).all dayOffB = true ∧ (l.take i).Pairwise fun a b => a < b}) (fun i => ([(1, .ptr 0 0 0 1), (55, .int .i64 l.length), (56, .int .i64 i.1)], [⟨true, false, true, false, 2, [[L (row3 s), L (row1 .i64 l)]], some 0⟩])) (fun i => l.length - i.1) ⟨0, by simp⟩ ?_ ?_
  ·refine Ent_gc [0] (by rfl) (by simp) (by simp [keptW, ObKW, ObW, imp_self, pullOb, or_false]) (by simp [lk_hit, lk_miss, D.pt0, viewS_own', pull, pull2, pull1, pull0, idx_hit, gate, List.mem_cons, or_false, view0])
  rintro ⟨i, hi, ha, hp⟩ hk
  dsimp only at hk ⊢
  by_cases hlt : i < l.length
  ·have c2 : ((i : Int) < (l.length : Int)) = True := by simp; omega
   obtain ⟨x, hx⟩ : ∃ x, l[i]? = some x := ⟨_, List.getElem?_eq_getElem hlt⟩
   have rx := row1_get (k := .i64) hx
   by_cases hss : dayOffB x = true
   ·have hs' := hss
    simp only [dayOffB, decide_eq_true_eq] at hs'
    have d1 : (x < 0) = False := by simp; omega
    have d2 : (x > 109937) = False := by simp; omega
    cases i with
    | zero =>
     repeat' ((first | apply Run_seq | apply Run_skip | apply Run_block | apply Run_blk | refine Run_exit rfl ?_ | apply Run_ret | apply Run_nil | apply Run_condK | apply Run_ops mixed | apply Run_opsX mixed | with_reducible refine PostV_open ?_ | simp (disch := omega) only [w64] | ((first | refine GuardK_split ?_ ?_ | refine CondK_split ?_ ?_) <;> intro hc <;> (try simp only [hc]) <;> try simp at hc) | (with_reducible refine And.intro ?_ ?_; (focus ((repeat' (with_reducible refine And.intro ?_ ?_)) <;> first | exact trivial | assumption | (simp; done) | (simp only [List.length_map] at *; omega) | omega | (simp [D.cells, D.ok, D.one, D.pt, D.pt1]; done)))) | (with_reducible intro x hx) | omega) <;> (try simp only [row1_len, c2, d1, d2, rx, Nat.reduceBEq, reduceIte, binD, binInt, binStr, pickD, faddrD, loadD, cond_false, fw]))
     refine hk ⟨1, by omega, all_step ha hx hss, by rw [List.take_add_one, hx]; simp⟩ _ _ (by dsimp only; omega) ?_
     dsimp only
     refine Ent_gc [0] (by rfl) (by simp) (by simp [keptW, ObKW, ObW, imp_self, pullOb, or_false]) (by simp [lk_hit, lk_miss, D.pt0, viewS_own', pull, pull2, pull1, pull0, idx_hit, gate, List.mem_cons, or_false, view0])
    | succ i =>
     obtain ⟨y, hy⟩ : ∃ y, l[i]? = some y := ⟨_, List.getElem?_eq_getElem (by omega)⟩
     have ry := row1_get (k := .i64) hy
     have c7 : (((i + 1 : Nat) : Int) > 0) = True := by rw [eq_iff_iff]; exact ⟨fun _ => trivial, fun _ => by omega⟩
     have c8 : (((i + 1 : Nat) : Int) - 1) = (i : Int) := by omega
     by_cases hyx : y < x
     ·have c9 : (y ≥ x) = False := by simp; omega
      repeat' ((first | apply Run_seq | apply Run_skip | apply Run_block | apply Run_blk | refine Run_exit rfl ?_ | apply Run_ret | apply Run_nil | apply Run_condK | apply Run_ops mixed | apply Run_opsX mixed | with_reducible refine PostV_open ?_ | simp (disch := omega) only [w64] | ((first | refine GuardK_split ?_ ?_ | refine CondK_split ?_ ?_) <;> intro hc <;> (try simp only [hc]) <;> try simp at hc) | (with_reducible refine And.intro ?_ ?_; (focus ((repeat' (with_reducible refine And.intro ?_ ?_)) <;> first | exact trivial | assumption | (simp; done) | (simp only [List.length_map] at *; omega) | omega | (simp [D.cells, D.ok, D.one, D.pt, D.pt1]; done)))) | (with_reducible intro x hx) | omega) <;> (try simp only [row1_len, c2, c7, c8, c9, d1, d2, rx, ry, Nat.reduceBEq, reduceIte, binD, binInt, binStr, pickD, faddrD, loadD, cond_true, cond_false, fw]))
      refine hk ⟨i + 1 + 1, by omega, all_step ha hx hss, pw_step (R := fun a b : Int => a < b) (fun _ _ _ => Int.lt_trans) hp hy hx hyx⟩ _ _ (by dsimp only; omega) ?_
      dsimp only
      refine Ent_gc [0] (by rfl) (by simp) (by simp [keptW, ObKW, ObW, imp_self, pullOb, or_false]) (by simp [lk_hit, lk_miss, D.pt0, viewS_own', pull, pull2, pull1, pull0, idx_hit, gate, List.mem_cons, or_false, view0])
     ·have c9 : (y ≥ x) = True := by simp; omega
      have e : (l.all dayOffB && risB l) = false := by
       have : risB l = false := by simpa [risB] using pw_no hy hx hyx
       simp [this]
      rw [e]
      repeat' ((first | apply Run_seq | apply Run_skip | apply Run_block | apply Run_blk | refine Run_exit rfl ?_ | apply Run_ret | apply Run_nil | apply Run_condK | apply Run_ops mixed | apply Run_opsX mixed | with_reducible refine PostV_open ?_ | simp (disch := omega) only [w64] | ((first | refine GuardK_split ?_ ?_ | refine CondK_split ?_ ?_) <;> intro hc <;> (try simp only [hc]) <;> try simp at hc) | (with_reducible refine And.intro ?_ ?_; (focus ((repeat' (with_reducible refine And.intro ?_ ?_)) <;> first | exact trivial | assumption | (simp; done) | (simp only [List.length_map] at *; omega) | omega | (simp [D.cells, D.ok, D.one, D.pt, D.pt1]; done)))) | (with_reducible intro x hx) | omega) <;> (try simp only [row1_len, c2, c7, c8, c9, d1, d2, rx, ry, Nat.reduceBEq, reduceIte, binD, binInt, binStr, pickD, faddrD, loadD, D.pt0, D.norm1, cond_true, cond_false, view, view2, view1, view0, ofRes, fw]))
   ·have hs' : dayOffB x = false := by simpa using hss
    have e : (l.all dayOffB && risB l) = false := by simp only [all_no hx hs', Bool.false_and]
    rw [e]
    by_cases n1 : x < 0
    ·have d1 : (x < 0) = True := by simpa using n1
     repeat' ((first | apply Run_seq | apply Run_skip | apply Run_block | apply Run_blk | refine Run_exit rfl ?_ | apply Run_ret | apply Run_nil | apply Run_condK | apply Run_ops mixed | apply Run_opsX mixed | with_reducible refine PostV_open ?_ | simp (disch := omega) only [w64, wu64, wu32, wu16, wu8, Int.tdiv_eq_ediv_of_nonneg, Int.tmod_eq_emod_of_nonneg] | ((first | refine GuardK_split ?_ ?_ | refine CondK_split ?_ ?_) <;> intro hc <;> (try simp only [hc]) <;> try simp at hc) | (with_reducible refine And.intro ?_ ?_; (focus ((repeat' (with_reducible refine And.intro ?_ ?_)) <;> first | exact trivial | assumption | (simp; done) | (simp only [List.length_map] at *; omega) | omega | (simp [D.cells, D.ok, D.one, D.pt, D.pt1]; done)))) | (with_reducible intro x hx) | omega) <;> (try simp only [row1_len, c2, d1, rx, Nat.reduceBEq, reduceIte, binD, binInt, binStr, pickD, faddrD, loadD, D.pt0, D.norm1, cond_true, view, view2, view1, view0, ofRes, fw]))
    have d1 : (x < 0) = False := by simpa using n1
    have d2 : (x > 109937) = True := by
     simp only [dayOffB, decide_eq_false_iff_not] at hs'
     simp; omega
    repeat' ((first | apply Run_seq | apply Run_skip | apply Run_block | apply Run_blk | refine Run_exit rfl ?_ | apply Run_ret | apply Run_nil | apply Run_condK | apply Run_ops mixed | apply Run_opsX mixed | with_reducible refine PostV_open ?_ | simp (disch := omega) only [w64, wu64, wu32, wu16, wu8, Int.tdiv_eq_ediv_of_nonneg, Int.tmod_eq_emod_of_nonneg] | ((first | refine GuardK_split ?_ ?_ | refine CondK_split ?_ ?_) <;> intro hc <;> (try simp only [hc]) <;> try simp at hc) | (with_reducible refine And.intro ?_ ?_; (focus ((repeat' (with_reducible refine And.intro ?_ ?_)) <;> first | exact trivial | assumption | (simp; done) | (simp only [List.length_map] at *; omega) | omega | (simp [D.cells, D.ok, D.one, D.pt, D.pt1]; done)))) | (with_reducible intro x hx) | omega) <;> (try simp only [row1_len, c2, d1, d2, rx, Nat.reduceBEq, reduceIte, binD, binInt, binStr, pickD, faddrD, loadD, D.pt0, D.norm1, cond_true, cond_false, view, view2, view1, view0, ofRes, fw]))
  ·have c2 : ((i : Int) < (l.length : Int)) = False := by simp; omega
   obtain rfl : i = l.length := by omega
   rw [List.take_length] at ha hp
   have hr : risB l = true := by simpa [risB] using hp
   rw [ha, hr, Bool.true_and]
   repeat' ((first | apply Run_seq | apply Run_skip | apply Run_block | apply Run_blk | refine Run_exit rfl ?_ | apply Run_ret | apply Run_nil | apply Run_condK | apply Run_ops mixed | apply Run_opsX mixed | with_reducible refine PostV_open ?_ | simp (disch := omega) only [w64, wu64, wu32, wu16, wu8, Int.tdiv_eq_ediv_of_nonneg, Int.tmod_eq_emod_of_nonneg] | ((first | refine GuardK_split ?_ ?_ | refine CondK_split ?_ ?_) <;> intro hc <;> (try simp only [hc]) <;> try simp at hc) | (with_reducible refine And.intro ?_ ?_; (focus ((repeat' (with_reducible refine And.intro ?_ ?_)) <;> first | exact trivial | assumption | (simp; done) | (simp only [List.length_map] at *; omega) | omega | (simp [D.cells, D.ok, D.one, D.pt, D.pt1]; done)))) | (with_reducible intro x hx) | omega) <;> (try simp only [c2, Nat.reduceBEq, reduceIte, binD, binInt, D.pt0, D.norm1, view, view2, view1, view0, ofRes, fw]))
theorem refSettings_p (x : Se) (hx : x.fits) : PureD Try.prog 58 [.agg x.cells] (.bool (setB x)) := by
 obtain ⟨f1, f2, f3⟩ := hx
 refine pureV Try.func58 low58 (by simp [c58]) ?_
 have h1 := refZone_p x.base x.turns f1
 have h2 := refHours_p x.shifts x.off f2 f3
 unfold setB
 generalize zoneB x.base x.turns = x1 at h1 ⊢
 generalize hoursB x.shifts x.off = x2 at h2 ⊢
 simp only [c58, Se.cells]
 repeat' ((first | apply Run_seq | apply Run_ret | apply Run_nil | apply Run_ops mixed | with_reducible refine PostV_open ?_ | with_reducible refine ro_callV ?_ | refine CallV_pure (h1) ?_ ?_ | refine CallV_pure (h2) ?_ ?_ | (refine GuardK_split ?_ ?_ <;> intro hc <;> (try simp only [hc]) <;> try simp at hc) | (with_reducible refine And.intro ?_ ?_; (focus ((repeat' (with_reducible refine And.intro ?_ ?_)) <;> first | exact trivial | assumption | (simp; done) | (simp only [List.length_map] at *; omega) | omega | (simp [D.cells, D.ok, D.one, D.pt, D.pt1]; done)))) | (with_reducible intro x hx) | omega) <;> (try simp only [Nat.reduceBEq, argEnv, reduceIte, Nat.reduceAdd, Nat.reduceLeDiff, reduceCtorEq, binD, binInt, pickD, faddrD, loadD, D.cells, D.ok, D.one, D.pt, D.pt1, D.pt0, D.norm1, cond_true, cond_false, ne_eq, view, view2, view1, view0, mapO, D.sc, D.sc1, D.sc2, ofRes, fw]))
 all_goals (rw [Bool.eq_iff_iff]; simp [*]; try omega)
end Go.Proofs.Ytoleaiaeghbffaa
