import Derived.Test.YtefpjijokdplfaaZ2
set_option linter.unusedVariables false
set_option linter.unusedSimpArgs false
namespace Go.Proofs.Ytefpjijokdplfaa
open Go Go.Vi


def cmpI (a b : Int) : Int := if a < b then -1 else if b < a then 1 else 0

theorem cmp_p (a b : Int) : PureD Try.prog 26 [.int .i64 a, .int .i64 b] (.int .i64 (cmpI a b)) := by
  refine pureV Try.func26 low26 (by simp [c26]) ?_
  simp only [c26]
  repeat' ((first | refine Run_seq ?_ | refine Run_skip ?_ | refine Run_block ?_ | refine Run_blk ?_ | refine Run_exit rfl ?_ | refine Run_ret ?_ | refine Run_nil ?_ | refine Run_condK ?_ | refine Run_ops mixed ?_ | with_reducible refine PostV_open ?_ | with_reducible refine ro_callV ?_ | refine CallV_pure (isNaN_p _) ?_ ?_ | simp (disch := omega) only [w64, wu64, wu32, wu16, wu8] | (refine GuardK_split (fun hc => ?_) (fun hc => ?_) <;> (try simp only [hc]) <;> (try simp at hc)) | (refine CondK_split (fun hc => ?_) (fun hc => ?_) <;> (try simp only [hc]) <;> (try simp at hc)) | (with_reducible refine And.intro ?_ ?_; (focus (first | exact trivial | assumption | (simp; done) | (simp only [List.length_map] at *; omega) | omega | (simp [D.cells, D.ok, D.one, D.pt, D.pt1]; done)))) | (with_reducible intro x hx)) <;> (try simp only [encT, ro_nil, ro_mov, ro_mkfn, ro_pick, ro_build, ro_slit, ro_chk, ro_bin, ro_eq, ro_un, ro_conv, ro_same, ro_b2s, ro_faddr, ro_fld, ro_idx, ro_ext, ro_len, ro_mx, ro_mn, ro_slice, ro_load, LoadK_elt, LoadK_ptr, LoadO_some, LoadR_some, LoadR_map, ro_box, ro_alloc, ro_store, StoreK_ptr, StoreO_some, StoreR_some, ro_iaddr, IaddrK_list, IaddrK_own, IaddrR_some, IaddrR_map, ro_app, AppK_nil, AppK_own, AppO_some, ro_guard, GuardK_tt, GuardK_no, GuardK_ff, GuardK_tf, GuardK_ft, CondK_t, CondK_f, contP_some, lk_nil, lk_hit, lk_miss, Nat.reduceBEq, put_some, put_none, ev_t, ev_c, argEnv, reduceIte, Nat.reduceEqDiff, Nat.reduceAdd, Nat.reduceSub, Nat.reduceMul, Nat.reduceLT, Nat.reduceLeDiff, reduceCtorEq, binD, binInt, binStr, eqD, eqCell, eqCells, eqN, boolD, okD, aggD, unD, pickD, chkD, convD, sameD, strD, faddrD, fldD, idxD, extD, lenD, mxD, mnD, sliceD, bndD, sizeD, loadD, fillD, splice, D.cells, D.ok, D.one, D.pt, D.pt1, D.norm1, D.norm, cond_true, cond_false, true_and, and_true, and_self, Bool.true_and, Bool.and_true, Bool.false_and, Bool.and_false, Bool.not_true, Bool.not_false, Bool.true_or, Bool.false_or, Bool.or_true, Bool.or_false, List.getElem?_cons_zero, List.getElem?_cons_succ, List.getElem?_nil, List.length_cons, List.length_nil, List.length_map, List.length_append, List.length_set, List.length_take, List.length_drop, List.take_succ_cons, List.take_zero, List.take_nil, List.drop_succ_cons, List.drop_zero, List.drop_nil, List.cons_append, List.nil_append, List.append_nil, List.map_cons, List.map_nil, List.all_cons, List.all_nil, List.set_cons_zero, List.set_cons_succ, List.isEmpty_cons, List.isEmpty_nil, List.forall_mem_cons, List.not_mem_nil, List.forall_mem_nil, false_imp_iff, implies_true, ne_eq, not_false_eq_true, Option.map_some, Option.map_none, Nat.zero_add, Nat.add_zero, Nat.sub_self, Int.toNat_natCast, Int.reduceToNat, Int.reduceLT, Int.reduceLE, Int.reduceEq, Int.reduceBEq, beq_self_eq_true, Int.reduceNeg, decide_true, decide_false, IntKind.bits, Nat.min_eq_left, Int.reducePow, Nat.reducePow, Int.fdiv_eq_ediv_of_nonneg, Nat.lt_irrefl, Nat.lt_add_one, Nat.zero_lt_succ, capsD_fn, D.sc, D.sc1, D.sc2, resK_nil, resK_tmp, resK_cell, ResC_ptr, ResO_some, ResR_some, ResL_some, ofRes, view, view2, view1, mapO, List.reverse_nil, Option.some.injEq, D.bool.injEq, D.int.injEq, D.str.injEq, D.agg.injEq, D.tup.injEq, D.list.injEq, List.cons.injEq]))
  skip
  all_goals (simp [cmpI] at *; omega)

theorem clos_p (t : T) (u : Int) : PureD Try.prog 25 [.agg (encT t), .int .i64 u] (.int .i64 (cmpI t.at' u)) := by
  refine pureV Try.func25 low25 (by simp [c25]) ?_
  simp only [c25, encT]
  repeat' ((first | refine Run_seq ?_ | refine Run_skip ?_ | refine Run_block ?_ | refine Run_blk ?_ | refine Run_exit rfl ?_ | refine Run_ret ?_ | refine Run_nil ?_ | refine Run_condK ?_ | refine Run_ops mixed ?_ | with_reducible refine PostV_open ?_ | with_reducible refine ro_callV ?_ | refine CallV_pure (cmp_p _ _) ?_ ?_ | simp (disch := omega) only [w64, wu64, wu32, wu16, wu8] | (refine GuardK_split (fun hc => ?_) (fun hc => ?_) <;> (try simp only [hc]) <;> (try simp at hc)) | (refine CondK_split (fun hc => ?_) (fun hc => ?_) <;> (try simp only [hc]) <;> (try simp at hc)) | (with_reducible refine And.intro ?_ ?_; (focus (first | exact trivial | assumption | (simp; done) | (simp only [List.length_map] at *; omega) | omega | (simp [D.cells, D.ok, D.one, D.pt, D.pt1]; done)))) | (with_reducible intro x hx)) <;> (try simp only [encT, ro_nil, ro_mov, ro_mkfn, ro_pick, ro_build, ro_slit, ro_chk, ro_bin, ro_eq, ro_un, ro_conv, ro_same, ro_b2s, ro_faddr, ro_fld, ro_idx, ro_ext, ro_len, ro_mx, ro_mn, ro_slice, ro_load, LoadK_elt, LoadK_ptr, LoadO_some, LoadR_some, LoadR_map, ro_box, ro_alloc, ro_store, StoreK_ptr, StoreO_some, StoreR_some, ro_iaddr, IaddrK_list, IaddrK_own, IaddrR_some, IaddrR_map, ro_app, AppK_nil, AppK_own, AppO_some, ro_guard, GuardK_tt, GuardK_no, GuardK_ff, GuardK_tf, GuardK_ft, CondK_t, CondK_f, contP_some, lk_nil, lk_hit, lk_miss, Nat.reduceBEq, put_some, put_none, ev_t, ev_c, argEnv, reduceIte, Nat.reduceEqDiff, Nat.reduceAdd, Nat.reduceSub, Nat.reduceMul, Nat.reduceLT, Nat.reduceLeDiff, reduceCtorEq, binD, binInt, binStr, eqD, eqCell, eqCells, eqN, boolD, okD, aggD, unD, pickD, chkD, convD, sameD, strD, faddrD, fldD, idxD, extD, lenD, mxD, mnD, sliceD, bndD, sizeD, loadD, fillD, splice, D.cells, D.ok, D.one, D.pt, D.pt1, D.norm1, D.norm, cond_true, cond_false, true_and, and_true, and_self, Bool.true_and, Bool.and_true, Bool.false_and, Bool.and_false, Bool.not_true, Bool.not_false, Bool.true_or, Bool.false_or, Bool.or_true, Bool.or_false, List.getElem?_cons_zero, List.getElem?_cons_succ, List.getElem?_nil, List.length_cons, List.length_nil, List.length_map, List.length_append, List.length_set, List.length_take, List.length_drop, List.take_succ_cons, List.take_zero, List.take_nil, List.drop_succ_cons, List.drop_zero, List.drop_nil, List.cons_append, List.nil_append, List.append_nil, List.map_cons, List.map_nil, List.all_cons, List.all_nil, List.set_cons_zero, List.set_cons_succ, List.isEmpty_cons, List.isEmpty_nil, List.forall_mem_cons, List.not_mem_nil, List.forall_mem_nil, false_imp_iff, implies_true, ne_eq, not_false_eq_true, Option.map_some, Option.map_none, Nat.zero_add, Nat.add_zero, Nat.sub_self, Int.toNat_natCast, Int.reduceToNat, Int.reduceLT, Int.reduceLE, Int.reduceEq, Int.reduceBEq, beq_self_eq_true, Int.reduceNeg, decide_true, decide_false, IntKind.bits, Nat.min_eq_left, Int.reducePow, Nat.reducePow, Int.fdiv_eq_ediv_of_nonneg, Nat.lt_irrefl, Nat.lt_add_one, Nat.zero_lt_succ, capsD_fn, D.sc, D.sc1, D.sc2, resK_nil, resK_tmp, resK_cell, ResC_ptr, ResO_some, ResR_some, ResL_some, ofRes, view, view2, view1, mapO, List.reverse_nil, Option.some.injEq, D.bool.injEq, D.int.injEq, D.str.injEq, D.agg.injEq, D.tup.injEq, D.list.injEq, List.cons.injEq]))
  skip

theorem cut_count (p : T → Bool) (ts : List T) (n : Nat) (hn : n ≤ ts.length) (h1 : ∀ k t, k < n → ts[k]? = some t → p t = true) (h2 : ∀ k t, n ≤ k → ts[k]? = some t → p t = false) : ts.countP p = n := by
  rw [← List.take_append_drop n ts, List.countP_append]
  have e1 : (ts.take n).countP p = n := by
    rw [List.countP_eq_length.2]
    · simp; omega
    · intro t ht
      obtain ⟨k, hk⟩ := List.getElem?_of_mem ht
      rw [List.getElem?_take] at hk
      split at hk
      · exact h1 k t (by assumption) hk
      · cases hk
  have e2 : (ts.drop n).countP p = 0 := by
    rw [List.countP_eq_zero]
    intro t ht
    obtain ⟨k, hk⟩ := List.getElem?_of_mem ht
    rw [List.getElem?_drop] at hk
    simpa using h2 (n + k) t (by omega) hk
  omega

def Asc (ts : List T) : Prop := ∀ (i j : Nat) (t u : T), i < j → ts[i]? = some t → ts[j]? = some u → t.at' < u.at'
def lt (ts : List T) (u : Int) : Nat := ts.countP (fun t => decide (t.at' < u))
def hit (ts : List T) (u : Int) : Bool := ts.any (fun t => decide (t.at' = u))

theorem bs_p (ts : List T) (u : Int) (hl : ts.length ≤ 700) (ha : Asc ts) : PureD Try.prog 24 [.list none false (ts.map encT), .int .i64 u, .fn 25 []] (.tup [.int .i64 (lt ts u), .bool (hit ts u)]) := by
  refine pureV Try.func24 low24 (by simp [c24]) ?_
  simp only [c24]
  repeat' ((first | refine Run_seq ?_ | refine Run_skip ?_ | refine Run_block ?_ | refine Run_blk ?_ | refine Run_exit rfl ?_ | refine Run_ret ?_ | refine Run_nil ?_ | refine Run_condK ?_ | refine Run_ops mixed ?_ | with_reducible refine PostV_open ?_ | with_reducible refine ro_callV ?_ | simp (disch := omega) only [w64, wu64, wu32, wu16, wu8] | (refine GuardK_split (fun hc => ?_) (fun hc => ?_) <;> (try simp only [hc]) <;> (try simp at hc)) | (refine CondK_split (fun hc => ?_) (fun hc => ?_) <;> (try simp only [hc]) <;> (try simp at hc)) | (with_reducible refine And.intro ?_ ?_; (focus (first | exact trivial | assumption | (simp; done) | (simp only [List.length_map] at *; omega) | omega | (simp [D.cells, D.ok, D.one, D.pt, D.pt1]; done)))) | (with_reducible intro x hx)) <;> (try simp only [encT, ro_nil, ro_mov, ro_mkfn, ro_pick, ro_build, ro_slit, ro_chk, ro_bin, ro_eq, ro_un, ro_conv, ro_same, ro_b2s, ro_faddr, ro_fld, ro_idx, ro_ext, ro_len, ro_mx, ro_mn, ro_slice, ro_load, LoadK_elt, LoadK_ptr, LoadO_some, LoadR_some, LoadR_map, ro_box, ro_alloc, ro_store, StoreK_ptr, StoreO_some, StoreR_some, ro_iaddr, IaddrK_list, IaddrK_own, IaddrR_some, IaddrR_map, ro_app, AppK_nil, AppK_own, AppO_some, ro_guard, GuardK_tt, GuardK_no, GuardK_ff, GuardK_tf, GuardK_ft, CondK_t, CondK_f, contP_some, lk_nil, lk_hit, lk_miss, Nat.reduceBEq, put_some, put_none, ev_t, ev_c, argEnv, reduceIte, Nat.reduceEqDiff, Nat.reduceAdd, Nat.reduceSub, Nat.reduceMul, Nat.reduceLT, Nat.reduceLeDiff, reduceCtorEq, binD, binInt, binStr, eqD, eqCell, eqCells, eqN, boolD, okD, aggD, unD, pickD, chkD, convD, sameD, strD, faddrD, fldD, idxD, extD, lenD, mxD, mnD, sliceD, bndD, sizeD, loadD, fillD, splice, D.cells, D.ok, D.one, D.pt, D.pt1, D.norm1, D.norm, cond_true, cond_false, true_and, and_true, and_self, Bool.true_and, Bool.and_true, Bool.false_and, Bool.and_false, Bool.not_true, Bool.not_false, Bool.true_or, Bool.false_or, Bool.or_true, Bool.or_false, List.getElem?_cons_zero, List.getElem?_cons_succ, List.getElem?_nil, List.length_cons, List.length_nil, List.length_map, List.length_append, List.length_set, List.length_take, List.length_drop, List.take_succ_cons, List.take_zero, List.take_nil, List.drop_succ_cons, List.drop_zero, List.drop_nil, List.cons_append, List.nil_append, List.append_nil, List.map_cons, List.map_nil, List.all_cons, List.all_nil, List.set_cons_zero, List.set_cons_succ, List.isEmpty_cons, List.isEmpty_nil, List.forall_mem_cons, List.not_mem_nil, List.forall_mem_nil, false_imp_iff, implies_true, ne_eq, not_false_eq_true, Option.map_some, Option.map_none, Nat.zero_add, Nat.add_zero, Nat.sub_self, Int.toNat_natCast, Int.reduceToNat, Int.reduceLT, Int.reduceLE, Int.reduceEq, Int.reduceBEq, beq_self_eq_true, Int.reduceNeg, decide_true, decide_false, IntKind.bits, Nat.min_eq_left, Int.reducePow, Nat.reducePow, Int.fdiv_eq_ediv_of_nonneg, Nat.lt_irrefl, Nat.lt_add_one, Nat.zero_lt_succ, capsD_fn, D.sc, D.sc1, D.sc2, resK_nil, resK_tmp, resK_cell, ResC_ptr, ResO_some, ResR_some, ResL_some, ofRes, view, view2, view1, mapO, List.reverse_nil, Option.some.injEq, D.bool.injEq, D.int.injEq, D.str.injEq, D.agg.injEq, D.tup.injEq, D.list.injEq, List.cons.injEq]))
  refine Run_loop (ι := {p : Nat × Nat // p.1 ≤ p.2 ∧ p.2 ≤ ts.length ∧ (∀ k t, k < p.1 → ts[k]? = some t → t.at' < u) ∧ ∀ k t, p.2 ≤ k → ts[k]? = some t → ¬ t.at' < u}) (fun i => ([(0, .list none false (ts.map encT)), (1, .int .i64 u), (2, .fn 25 []), (8, .int .i64 ts.length), (9, .int .i64 i.1.1), (10, .int .i64 i.1.2)], [])) (fun i => i.1.2 - i.1.1) ⟨(0, ts.length), by simp, by simp, by simp, fun k t hk ht => by have := (List.getElem?_eq_some_iff.1 ht).1; omega⟩ ?_ ?_
  · refine Ent_gc [] (by simp) (by simp) ⟨by simp [D.renL, D.ren], by simp [D.fitL, D.fit]⟩ (by simp [lk_hit, lk_miss, D.ren, D.renL, D.fit, D.fitL])
  rintro ⟨⟨i, j⟩, h1, h2, h3, h4⟩ hk
  dsimp only at h1 h2 h3 h4 hk ⊢
  repeat' ((first | refine Run_seq ?_ | refine Run_skip ?_ | refine Run_block ?_ | refine Run_blk ?_ | refine Run_exit rfl ?_ | refine Run_ret ?_ | refine Run_nil ?_ | refine Run_condK ?_ | refine Run_ops mixed ?_ | with_reducible refine PostV_open ?_ | with_reducible refine ro_callV ?_ | refine CallV_pure (clos_p _ _) ?_ ?_ | simp (disch := omega) only [w64, wu64, wu32, wu16, wu8] | (refine GuardK_split (fun hc => ?_) (fun hc => ?_) <;> (try simp only [hc]) <;> (try simp at hc)) | (refine CondK_split (fun hc => ?_) (fun hc => ?_) <;> (try simp only [hc]) <;> (try simp at hc)) | (with_reducible refine And.intro ?_ ?_; (focus (first | exact trivial | assumption | (simp; done) | (simp only [List.length_map] at *; omega) | omega | (simp [D.cells, D.ok, D.one, D.pt, D.pt1]; done)))) | (with_reducible intro x hx)) <;> (try simp only [encT, ro_nil, ro_mov, ro_mkfn, ro_pick, ro_build, ro_slit, ro_chk, ro_bin, ro_eq, ro_un, ro_conv, ro_same, ro_b2s, ro_faddr, ro_fld, ro_idx, ro_ext, ro_len, ro_mx, ro_mn, ro_slice, ro_load, LoadK_elt, LoadK_ptr, LoadO_some, LoadR_some, LoadR_map, ro_box, ro_alloc, ro_store, StoreK_ptr, StoreO_some, StoreR_some, ro_iaddr, IaddrK_list, IaddrK_own, IaddrR_some, IaddrR_map, ro_app, AppK_nil, AppK_own, AppO_some, ro_guard, GuardK_tt, GuardK_no, GuardK_ff, GuardK_tf, GuardK_ft, CondK_t, CondK_f, contP_some, lk_nil, lk_hit, lk_miss, Nat.reduceBEq, put_some, put_none, ev_t, ev_c, argEnv, reduceIte, Nat.reduceEqDiff, Nat.reduceAdd, Nat.reduceSub, Nat.reduceMul, Nat.reduceLT, Nat.reduceLeDiff, reduceCtorEq, binD, binInt, binStr, eqD, eqCell, eqCells, eqN, boolD, okD, aggD, unD, pickD, chkD, convD, sameD, strD, faddrD, fldD, idxD, extD, lenD, mxD, mnD, sliceD, bndD, sizeD, loadD, fillD, splice, D.cells, D.ok, D.one, D.pt, D.pt1, D.norm1, D.norm, cond_true, cond_false, true_and, and_true, and_self, Bool.true_and, Bool.and_true, Bool.false_and, Bool.and_false, Bool.not_true, Bool.not_false, Bool.true_or, Bool.false_or, Bool.or_true, Bool.or_false, List.getElem?_cons_zero, List.getElem?_cons_succ, List.getElem?_nil, List.length_cons, List.length_nil, List.length_map, List.length_append, List.length_set, List.length_take, List.length_drop, List.take_succ_cons, List.take_zero, List.take_nil, List.drop_succ_cons, List.drop_zero, List.drop_nil, List.cons_append, List.nil_append, List.append_nil, List.map_cons, List.map_nil, List.all_cons, List.all_nil, List.set_cons_zero, List.set_cons_succ, List.isEmpty_cons, List.isEmpty_nil, List.forall_mem_cons, List.not_mem_nil, List.forall_mem_nil, false_imp_iff, implies_true, ne_eq, not_false_eq_true, Option.map_some, Option.map_none, Nat.zero_add, Nat.add_zero, Nat.sub_self, Int.toNat_natCast, Int.reduceToNat, Int.reduceLT, Int.reduceLE, Int.reduceEq, Int.reduceBEq, beq_self_eq_true, Int.reduceNeg, decide_true, decide_false, IntKind.bits, Nat.min_eq_left, Int.reducePow, Nat.reducePow, Int.fdiv_eq_ediv_of_nonneg, Nat.lt_irrefl, Nat.lt_add_one, Nat.zero_lt_succ, capsD_fn, D.sc, D.sc1, D.sc2, resK_nil, resK_tmp, resK_cell, ResC_ptr, ResO_some, ResR_some, ResL_some, ofRes, view, view2, view1, mapO, List.reverse_nil, Option.some.injEq, D.bool.injEq, D.int.injEq, D.str.injEq, D.agg.injEq, D.tup.injEq, D.list.injEq, List.cons.injEq]))
  · have e : ((i + j : Int) / 2).toNat = (i + j) / 2 := by omega
    rw [e] at hx
    have hlt : x.at' < u := by unfold cmpI at hc; split at hc <;> (try split at hc) <;> omega
    refine hk ⟨((i + j) / 2 + 1, j), by simp; omega, h2, fun k t hk' ht => ?_, h4⟩ _ _ (by simp; omega) ?_
    · rcases Nat.lt_or_ge k ((i + j) / 2) with h | h
      · have := ha k _ t x h ht hx; omega
      · have : k = (i + j) / 2 := by dsimp at hk'; omega
        subst this
        rw [hx] at ht; cases ht; exact hlt
    · refine Ent_gc [] (by simp) (by simp) ⟨by simp [D.renL, D.ren], by simp [D.fitL, D.fit]⟩ (by simp [lk_hit, lk_miss, D.ren, D.renL, D.fit, D.fitL])
  · have e : ((i + j : Int) / 2).toNat = (i + j) / 2 := by omega
    rw [e] at hx
    have hlt : ¬ x.at' < u := by unfold cmpI at hc; split at hc <;> (try split at hc) <;> omega
    refine hk ⟨(i, (i + j) / 2), by simp; omega, by simp; omega, h3, fun k t hk' ht => ?_⟩ _ _ (by simp; omega) ?_
    · rcases Nat.lt_or_ge ((i + j) / 2) k with h | h
      · have := ha _ k x t h hx ht; omega
      · have : k = (i + j) / 2 := by dsimp at hk'; omega
        subst this
        rw [hx] at ht; cases ht; exact hlt
    · refine Ent_gc [] (by simp) (by simp) ⟨by simp [D.renL, D.ren], by simp [D.fitL, D.fit]⟩ (by simp [lk_hit, lk_miss, D.ren, D.renL, D.fit, D.fitL])
  · skip
    have e : i = j := by omega
    subst e
    have hc1 : lt ts u = i := cut_count _ ts i h2 (fun k t a b => by simpa using h3 k t a b) (fun k t a b => by simpa using h4 k t a b)
    refine ⟨by rw [hc1], ?_⟩
    have e2 : (cmpI x.at' u == 0) = decide (x.at' = u) := by
      rw [Bool.eq_iff_iff]; simp [cmpI]; split <;> (try split) <;> omega
    rw [e2]
    by_cases hxu : x.at' = u
    · simp only [hxu, decide_true]
      exact (List.any_eq_true.2 ⟨x, List.mem_of_getElem? hx, by simp [hxu]⟩).symm
    · simp only [hxu, decide_false]
      symm
      rw [hit, List.any_eq_false]
      intro t ht
      obtain ⟨k, hkt⟩ := List.getElem?_of_mem ht
      simp only [decide_eq_true_eq]
      intro htu
      rcases Nat.lt_trichotomy k i with h | h | h
      · have := h3 k t h hkt; omega
      · subst h; rw [hx] at hkt; cases hkt; exact hxu htu
      · have := ha i k x t h hx hkt
        have := h4 i x (Nat.le_refl _) hx
        omega
  · skip
    have e : i = j := by omega
    subst e
    have hc1 : lt ts u = i := cut_count _ ts i h2 (fun k t a b => by simpa using h3 k t a b) (fun k t a b => by simpa using h4 k t a b)
    refine ⟨by rw [hc1], ?_⟩
    symm
    rw [hit, List.any_eq_false]
    intro t ht
    obtain ⟨k, hk⟩ := List.getElem?_of_mem ht
    simp only [decide_eq_true_eq]
    intro htu
    have := (List.getElem?_eq_some_iff.1 hk).1
    have := h3 k t (by omega) hk
    omega
end Go.Proofs.Ytefpjijokdplfaa
