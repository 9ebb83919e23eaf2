import Derived.Test.YtefpjijokdplfaaZ7
set_option linter.unusedVariables false
set_option linter.unusedSimpArgs false
namespace Go.Proofs.Ytefpjijokdplfaa
open Go Go.Vi


def lastV (ts : List T) (i : Nat) : Int := match i with
  | 0 => -2880
  | i + 1 => ((ts[i]?).map T.at').getD 0

theorem lastV_le {ts : List T} {i : Nat} (h : ∀ k, k < i → okT ts k) : -2880 ≤ lastV ts i ∧ lastV ts i ≤ 158310720 := by
  cases i with
  | zero => simp [lastV]
  | succ i =>
    simp only [lastV]
    cases ht : ts[i]? with
    | none => simp
    | some t => have := h i (by omega) t ht; simp; omega

theorem okT_last {ts : List T} {i : Nat} {x : T} (hx : ts[i]? = some x) (h1 : -900 ≤ x.off) (h2 : x.off ≤ 900) (h3 : 0 ≤ x.at') (h4 : x.at' ≤ 158310720) (h5 : 2880 ≤ x.at' - lastV ts i) : okT ts i := by
  intro t ht
  rw [hx] at ht; cases ht
  refine ⟨h1, h2, h3, h4, fun u h0 hu => ?_⟩
  obtain ⟨m, rfl⟩ : ∃ m, i = m + 1 := ⟨i - 1, by omega⟩
  simp only [Nat.add_sub_cancel] at hu
  simp only [lastV, hu, Option.map_some, Option.getD_some] at h5
  omega

theorem last_okT {ts : List T} {i : Nat} {x : T} (hx : ts[i]? = some x) (h : okT ts i) : 2880 ≤ x.at' - lastV ts i := by
  have := h x hx
  cases i with
  | zero => simp only [lastV]; omega
  | succ i =>
    simp only [lastV]
    have hlt := (List.getElem?_eq_some_iff.1 hx).1
    have hv := List.getElem?_eq_getElem (l := ts) (i := i) (by omega)
    have := this.2.2.2.2 ts[i] (by omega) hv
    rw [hv]
    simp
    omega

set_option maxHeartbeats 2000000 in
open Classical in
theorem rmay_p (b : Int) (ts : List T) (hl : ts.length ≤ 9223372036854775807) : PureD Try.prog 10 [encZ b ts] (.bool (decide (Good b ts))) := by
  refine pureV Try.func10 low10 (by simp [c10]) ?_
  simp only [c10, encZ]
  repeat' ((first | refine Run_seq ?_ | refine Run_skip ?_ | refine Run_block ?_ | refine Run_blk ?_ | refine Run_exit rfl ?_ | refine Run_ret ?_ | refine Run_nil ?_ | refine Run_condK ?_ | refine Run_ops mixed ?_ | with_reducible refine PostV_open ?_ | with_reducible refine ro_callV ?_ | simp (disch := omega) only [w64, wu64, wu32, wu16, wu8] | (refine GuardK_split (fun hc => ?_) (fun hc => ?_) <;> (try simp only [hc]) <;> (try simp at hc)) | (refine CondK_split (fun hc => ?_) (fun hc => ?_) <;> (try simp only [hc]) <;> (try simp at hc)) | (with_reducible refine And.intro ?_ ?_; (focus (first | exact trivial | assumption | (simp; done) | (simp only [List.length_map] at *; omega) | omega | (simp [D.cells, D.ok, D.one, D.pt, D.pt1]; done)))) | (with_reducible intro x hx)) <;> (try simp only [encT, ro_nil, ro_mov, ro_mkfn, ro_pick, ro_build, ro_slit, ro_chk, ro_bin, ro_eq, ro_un, ro_conv, ro_same, ro_b2s, ro_faddr, ro_fld, ro_idx, ro_ext, ro_len, ro_mx, ro_mn, ro_slice, ro_load, LoadK_elt, LoadK_ptr, LoadO_some, LoadR_some, LoadR_map, ro_box, ro_alloc, ro_store, StoreK_ptr, StoreO_some, StoreR_some, ro_iaddr, IaddrK_list, IaddrK_own, IaddrR_some, IaddrR_map, ro_app, AppK_nil, AppK_own, AppO_some, ro_guard, GuardK_tt, GuardK_no, GuardK_ff, GuardK_tf, GuardK_ft, CondK_t, CondK_f, contP_some, lk_nil, lk_hit, lk_miss, Nat.reduceBEq, put_some, put_none, ev_t, ev_c, argEnv, reduceIte, Nat.reduceEqDiff, Nat.reduceAdd, Nat.reduceSub, Nat.reduceMul, Nat.reduceLT, Nat.reduceLeDiff, reduceCtorEq, binD, binInt, binStr, eqD, eqCell, eqCells, eqN, boolD, okD, aggD, unD, pickD, chkD, convD, sameD, strD, faddrD, fldD, idxD, extD, lenD, mxD, mnD, sliceD, bndD, sizeD, loadD, fillD, splice, D.cells, D.ok, D.one, D.pt, D.pt1, D.norm1, D.norm, cond_true, cond_false, true_and, and_true, and_self, Bool.true_and, Bool.and_true, Bool.false_and, Bool.and_false, Bool.not_true, Bool.not_false, Bool.true_or, Bool.false_or, Bool.or_true, Bool.or_false, List.getElem?_cons_zero, List.getElem?_cons_succ, List.getElem?_nil, List.length_cons, List.length_nil, List.length_map, List.length_append, List.length_set, List.length_take, List.length_drop, List.take_succ_cons, List.take_zero, List.take_nil, List.drop_succ_cons, List.drop_zero, List.drop_nil, List.cons_append, List.nil_append, List.append_nil, List.map_cons, List.map_nil, List.all_cons, List.all_nil, List.set_cons_zero, List.set_cons_succ, List.isEmpty_cons, List.isEmpty_nil, List.forall_mem_cons, List.not_mem_nil, List.forall_mem_nil, false_imp_iff, implies_true, ne_eq, not_false_eq_true, Option.map_some, Option.map_none, Nat.zero_add, Nat.add_zero, Nat.sub_self, Int.toNat_natCast, Int.reduceToNat, Int.reduceLT, Int.reduceLE, Int.reduceEq, Int.reduceBEq, beq_self_eq_true, Int.reduceNeg, decide_true, decide_false, IntKind.bits, Nat.min_eq_left, Int.reducePow, Nat.reducePow, Int.fdiv_eq_ediv_of_nonneg, Nat.lt_irrefl, Nat.lt_add_one, Nat.zero_lt_succ, capsD_fn, D.sc, D.sc1, D.sc2, resK_nil, resK_tmp, resK_cell, ResC_ptr, ResO_some, ResR_some, ResL_some, ofRes, view, view2, view1, mapO, List.reverse_nil, Option.some.injEq, D.bool.injEq, D.int.injEq, D.str.injEq, D.agg.injEq, D.tup.injEq, D.list.injEq, List.cons.injEq]))
  · skip
    have : ¬ Good b ts := fun h => by have := h.1; have := h.2.1; have := h.2.2.1; omega
    simp [this]
  · skip
    have : ¬ Good b ts := fun h => by have := h.1; have := h.2.1; have := h.2.2.1; omega
    simp [this]
  · skip
    have : ¬ Good b ts := fun h => by have := h.1; have := h.2.1; have := h.2.2.1; omega
    simp [this]
  refine Run_loop (ι := {i : Nat // i ≤ ts.length ∧ ∀ k, k < i → okT ts k}) (fun i => ([(1, .ptr 0 0 0 1), (2, .bool false), (3, .int .i64 (lastV ts i.1)), (22, .int .i64 ts.length), (23, .int .i64 i.1)], [⟨true, false, true, false, 2, [[.int .i64 b, .list none false (ts.map encT)]]⟩])) (fun i => ts.length - i.1) ⟨0, by simp⟩ ?_ ?_
  · simp only [lastV]
    refine Ent_gc [0] (by simp) (by simp) ⟨by simp [D.renL, D.ren], by simp [D.fitL, D.fit]⟩ (by simp [lk_hit, lk_miss, D.ren, D.renL, D.fit, D.fitL])
  rintro ⟨i, hi, hp⟩ hk
  dsimp only at hk ⊢
  have hlv := lastV_le hp
  repeat' ((first | refine Run_seq ?_ | refine Run_skip ?_ | refine Run_block ?_ | refine Run_blk ?_ | refine Run_exit rfl ?_ | refine Run_ret ?_ | refine Run_nil ?_ | refine Run_condK ?_ | refine Run_ops mixed ?_ | with_reducible refine PostV_open ?_ | with_reducible refine ro_callV ?_ | simp (disch := omega) only [w64, wu64, wu32, wu16, wu8] | (refine GuardK_split (fun hc => ?_) (fun hc => ?_) <;> (try simp only [hc]) <;> (try simp at hc)) | (refine CondK_split (fun hc => ?_) (fun hc => ?_) <;> (try simp only [hc]) <;> (try simp at hc)) | (with_reducible refine And.intro ?_ ?_; (focus (first | exact trivial | assumption | (simp; done) | (simp only [List.length_map] at *; omega) | omega | (simp [D.cells, D.ok, D.one, D.pt, D.pt1]; done)))) | (with_reducible intro x hx)) <;> (try simp only [encT, ro_nil, ro_mov, ro_mkfn, ro_pick, ro_build, ro_slit, ro_chk, ro_bin, ro_eq, ro_un, ro_conv, ro_same, ro_b2s, ro_faddr, ro_fld, ro_idx, ro_ext, ro_len, ro_mx, ro_mn, ro_slice, ro_load, LoadK_elt, LoadK_ptr, LoadO_some, LoadR_some, LoadR_map, ro_box, ro_alloc, ro_store, StoreK_ptr, StoreO_some, StoreR_some, ro_iaddr, IaddrK_list, IaddrK_own, IaddrR_some, IaddrR_map, ro_app, AppK_nil, AppK_own, AppO_some, ro_guard, GuardK_tt, GuardK_no, GuardK_ff, GuardK_tf, GuardK_ft, CondK_t, CondK_f, contP_some, lk_nil, lk_hit, lk_miss, Nat.reduceBEq, put_some, put_none, ev_t, ev_c, argEnv, reduceIte, Nat.reduceEqDiff, Nat.reduceAdd, Nat.reduceSub, Nat.reduceMul, Nat.reduceLT, Nat.reduceLeDiff, reduceCtorEq, binD, binInt, binStr, eqD, eqCell, eqCells, eqN, boolD, okD, aggD, unD, pickD, chkD, convD, sameD, strD, faddrD, fldD, idxD, extD, lenD, mxD, mnD, sliceD, bndD, sizeD, loadD, fillD, splice, D.cells, D.ok, D.one, D.pt, D.pt1, D.norm1, D.norm, cond_true, cond_false, true_and, and_true, and_self, Bool.true_and, Bool.and_true, Bool.false_and, Bool.and_false, Bool.not_true, Bool.not_false, Bool.true_or, Bool.false_or, Bool.or_true, Bool.or_false, List.getElem?_cons_zero, List.getElem?_cons_succ, List.getElem?_nil, List.length_cons, List.length_nil, List.length_map, List.length_append, List.length_set, List.length_take, List.length_drop, List.take_succ_cons, List.take_zero, List.take_nil, List.drop_succ_cons, List.drop_zero, List.drop_nil, List.cons_append, List.nil_append, List.append_nil, List.map_cons, List.map_nil, List.all_cons, List.all_nil, List.set_cons_zero, List.set_cons_succ, List.isEmpty_cons, List.isEmpty_nil, List.forall_mem_cons, List.not_mem_nil, List.forall_mem_nil, false_imp_iff, implies_true, ne_eq, not_false_eq_true, Option.map_some, Option.map_none, Nat.zero_add, Nat.add_zero, Nat.sub_self, Int.toNat_natCast, Int.reduceToNat, Int.reduceLT, Int.reduceLE, Int.reduceEq, Int.reduceBEq, beq_self_eq_true, Int.reduceNeg, decide_true, decide_false, IntKind.bits, Nat.min_eq_left, Int.reducePow, Nat.reducePow, Int.fdiv_eq_ediv_of_nonneg, Nat.lt_irrefl, Nat.lt_add_one, Nat.zero_lt_succ, capsD_fn, D.sc, D.sc1, D.sc2, resK_nil, resK_tmp, resK_cell, ResC_ptr, ResO_some, ResR_some, ResL_some, ofRes, view, view2, view1, mapO, List.reverse_nil, Option.some.injEq, D.bool.injEq, D.int.injEq, D.str.injEq, D.agg.injEq, D.tup.injEq, D.list.injEq, List.cons.injEq]))
  skip
  · have : ¬ Good b ts := fun h => by have := h.2.2.2 i x (by assumption); omega
    simp [this]
  · have : ¬ Good b ts := fun h => by have := h.2.2.2 i x (by assumption); omega
    simp [this]
  · have : ¬ Good b ts := fun h => by have := h.2.2.2 i x (by assumption); omega
    simp [this]
  · have : ¬ Good b ts := fun h => by have := h.2.2.2 i x (by assumption); omega
    simp [this]
  · have : ¬ Good b ts := fun h => by have := last_okT hx (h.2.2.2 i); omega
    simp [this]
  · refine hk ⟨i + 1, by omega, fun k hk => ?_⟩ _ _ (by simp; omega) ?_
    · rcases Nat.lt_or_ge k i with h | h
      · exact hp k h
      · have : k = i := by omega
        subst this
        exact okT_last hx (by omega) (by omega) (by omega) (by omega) (by omega)
    · have e : lastV ts (i + 1) = x.at' := by simp [lastV, hx]
      simp only [e]
      refine Ent_gc [0] (by simp) (by simp) ⟨by simp [D.renL, D.ren], by simp [D.fitL, D.fit]⟩ (by simp [lk_hit, lk_miss, D.ren, D.renL, D.fit, D.fitL])
  · have : Good b ts := ⟨by omega, by omega, by omega, fun k => by
      rcases Nat.lt_or_ge k i with h | h
      · exact hp k h
      · intro t ht
        have := (List.getElem?_eq_some_iff.1 ht).1
        omega⟩
    simp [this]

/-- What the document adds at a minute. -/
def offR (b : Int) (ts : List T) (u : Int) : Int := ts.foldl (fun n t => if t.at' ≤ u then t.off else n) b

theorem roff_p (b : Int) (ts : List T) (u : Int) (hl : ts.length ≤ 9223372036854775807) : PureD Try.prog 13 [encZ b ts, .int .i64 u] (.int .i64 (offR b ts u)) := by
  refine pureV Try.func13 low13 (by simp [c13]) ?_
  simp only [c13, encZ]
  repeat' ((first | refine Run_seq ?_ | refine Run_skip ?_ | refine Run_block ?_ | refine Run_blk ?_ | refine Run_exit rfl ?_ | refine Run_ret ?_ | refine Run_nil ?_ | refine Run_condK ?_ | refine Run_ops mixed ?_ | with_reducible refine PostV_open ?_ | with_reducible refine ro_callV ?_ | simp (disch := omega) only [w64, wu64, wu32, wu16, wu8] | (refine GuardK_split (fun hc => ?_) (fun hc => ?_) <;> (try simp only [hc]) <;> (try simp at hc)) | (refine CondK_split (fun hc => ?_) (fun hc => ?_) <;> (try simp only [hc]) <;> (try simp at hc)) | (with_reducible refine And.intro ?_ ?_; (focus (first | exact trivial | assumption | (simp; done) | (simp only [List.length_map] at *; omega) | omega | (simp [D.cells, D.ok, D.one, D.pt, D.pt1]; done)))) | (with_reducible intro x hx)) <;> (try simp only [encT, ro_nil, ro_mov, ro_mkfn, ro_pick, ro_build, ro_slit, ro_chk, ro_bin, ro_eq, ro_un, ro_conv, ro_same, ro_b2s, ro_faddr, ro_fld, ro_idx, ro_ext, ro_len, ro_mx, ro_mn, ro_slice, ro_load, LoadK_elt, LoadK_ptr, LoadO_some, LoadR_some, LoadR_map, ro_box, ro_alloc, ro_store, StoreK_ptr, StoreO_some, StoreR_some, ro_iaddr, IaddrK_list, IaddrK_own, IaddrR_some, IaddrR_map, ro_app, AppK_nil, AppK_own, AppO_some, ro_guard, GuardK_tt, GuardK_no, GuardK_ff, GuardK_tf, GuardK_ft, CondK_t, CondK_f, contP_some, lk_nil, lk_hit, lk_miss, Nat.reduceBEq, put_some, put_none, ev_t, ev_c, argEnv, reduceIte, Nat.reduceEqDiff, Nat.reduceAdd, Nat.reduceSub, Nat.reduceMul, Nat.reduceLT, Nat.reduceLeDiff, reduceCtorEq, binD, binInt, binStr, eqD, eqCell, eqCells, eqN, boolD, okD, aggD, unD, pickD, chkD, convD, sameD, strD, faddrD, fldD, idxD, extD, lenD, mxD, mnD, sliceD, bndD, sizeD, loadD, fillD, splice, D.cells, D.ok, D.one, D.pt, D.pt1, D.norm1, D.norm, cond_true, cond_false, true_and, and_true, and_self, Bool.true_and, Bool.and_true, Bool.false_and, Bool.and_false, Bool.not_true, Bool.not_false, Bool.true_or, Bool.false_or, Bool.or_true, Bool.or_false, List.getElem?_cons_zero, List.getElem?_cons_succ, List.getElem?_nil, List.length_cons, List.length_nil, List.length_map, List.length_append, List.length_set, List.length_take, List.length_drop, List.take_succ_cons, List.take_zero, List.take_nil, List.drop_succ_cons, List.drop_zero, List.drop_nil, List.cons_append, List.nil_append, List.append_nil, List.map_cons, List.map_nil, List.all_cons, List.all_nil, List.set_cons_zero, List.set_cons_succ, List.isEmpty_cons, List.isEmpty_nil, List.forall_mem_cons, List.not_mem_nil, List.forall_mem_nil, false_imp_iff, implies_true, ne_eq, not_false_eq_true, Option.map_some, Option.map_none, Nat.zero_add, Nat.add_zero, Nat.sub_self, Int.toNat_natCast, Int.reduceToNat, Int.reduceLT, Int.reduceLE, Int.reduceEq, Int.reduceBEq, beq_self_eq_true, Int.reduceNeg, decide_true, decide_false, IntKind.bits, Nat.min_eq_left, Int.reducePow, Nat.reducePow, Int.fdiv_eq_ediv_of_nonneg, Nat.lt_irrefl, Nat.lt_add_one, Nat.zero_lt_succ, capsD_fn, D.sc, D.sc1, D.sc2, resK_nil, resK_tmp, resK_cell, ResC_ptr, ResO_some, ResR_some, ResL_some, ofRes, view, view2, view1, mapO, List.reverse_nil, Option.some.injEq, D.bool.injEq, D.int.injEq, D.str.injEq, D.agg.injEq, D.tup.injEq, D.list.injEq, List.cons.injEq]))
  refine Run_loop (ι := {i : Nat // i ≤ ts.length}) (fun i => ([(1, .int .i64 u), (2, .ptr 0 0 0 1), (5, .int .i64 (offR b (ts.take i.1) u)), (11, .int .i64 ts.length), (12, .int .i64 i.1)], [⟨true, false, true, false, 2, [[.int .i64 b, .list none false (ts.map encT)]]⟩])) (fun i => ts.length - i.1) ⟨0, by simp⟩ ?_ ?_
  · have e : offR b (ts.take 0) u = b := by simp [offR]
    simp only [e]
    refine Ent_gc [0] (by simp) (by simp) ⟨by simp [D.renL, D.ren], by simp [D.fitL, D.fit]⟩ (by simp [lk_hit, lk_miss, D.ren, D.renL, D.fit, D.fitL])
  rintro ⟨i, hi⟩ hk
  dsimp only at hk ⊢
  repeat' ((first | refine Run_seq ?_ | refine Run_skip ?_ | refine Run_block ?_ | refine Run_blk ?_ | refine Run_exit rfl ?_ | refine Run_ret ?_ | refine Run_nil ?_ | refine Run_condK ?_ | refine Run_ops mixed ?_ | with_reducible refine PostV_open ?_ | with_reducible refine ro_callV ?_ | simp (disch := omega) only [w64, wu64, wu32, wu16, wu8] | (refine GuardK_split (fun hc => ?_) (fun hc => ?_) <;> (try simp only [hc]) <;> (try simp at hc)) | (refine CondK_split (fun hc => ?_) (fun hc => ?_) <;> (try simp only [hc]) <;> (try simp at hc)) | (with_reducible refine And.intro ?_ ?_; (focus (first | exact trivial | assumption | (simp; done) | (simp only [List.length_map] at *; omega) | omega | (simp [D.cells, D.ok, D.one, D.pt, D.pt1]; done)))) | (with_reducible intro x hx)) <;> (try simp only [encT, ro_nil, ro_mov, ro_mkfn, ro_pick, ro_build, ro_slit, ro_chk, ro_bin, ro_eq, ro_un, ro_conv, ro_same, ro_b2s, ro_faddr, ro_fld, ro_idx, ro_ext, ro_len, ro_mx, ro_mn, ro_slice, ro_load, LoadK_elt, LoadK_ptr, LoadO_some, LoadR_some, LoadR_map, ro_box, ro_alloc, ro_store, StoreK_ptr, StoreO_some, StoreR_some, ro_iaddr, IaddrK_list, IaddrK_own, IaddrR_some, IaddrR_map, ro_app, AppK_nil, AppK_own, AppO_some, ro_guard, GuardK_tt, GuardK_no, GuardK_ff, GuardK_tf, GuardK_ft, CondK_t, CondK_f, contP_some, lk_nil, lk_hit, lk_miss, Nat.reduceBEq, put_some, put_none, ev_t, ev_c, argEnv, reduceIte, Nat.reduceEqDiff, Nat.reduceAdd, Nat.reduceSub, Nat.reduceMul, Nat.reduceLT, Nat.reduceLeDiff, reduceCtorEq, binD, binInt, binStr, eqD, eqCell, eqCells, eqN, boolD, okD, aggD, unD, pickD, chkD, convD, sameD, strD, faddrD, fldD, idxD, extD, lenD, mxD, mnD, sliceD, bndD, sizeD, loadD, fillD, splice, D.cells, D.ok, D.one, D.pt, D.pt1, D.norm1, D.norm, cond_true, cond_false, true_and, and_true, and_self, Bool.true_and, Bool.and_true, Bool.false_and, Bool.and_false, Bool.not_true, Bool.not_false, Bool.true_or, Bool.false_or, Bool.or_true, Bool.or_false, List.getElem?_cons_zero, List.getElem?_cons_succ, List.getElem?_nil, List.length_cons, List.length_nil, List.length_map, List.length_append, List.length_set, List.length_take, List.length_drop, List.take_succ_cons, List.take_zero, List.take_nil, List.drop_succ_cons, List.drop_zero, List.drop_nil, List.cons_append, List.nil_append, List.append_nil, List.map_cons, List.map_nil, List.all_cons, List.all_nil, List.set_cons_zero, List.set_cons_succ, List.isEmpty_cons, List.isEmpty_nil, List.forall_mem_cons, List.not_mem_nil, List.forall_mem_nil, false_imp_iff, implies_true, ne_eq, not_false_eq_true, Option.map_some, Option.map_none, Nat.zero_add, Nat.add_zero, Nat.sub_self, Int.toNat_natCast, Int.reduceToNat, Int.reduceLT, Int.reduceLE, Int.reduceEq, Int.reduceBEq, beq_self_eq_true, Int.reduceNeg, decide_true, decide_false, IntKind.bits, Nat.min_eq_left, Int.reducePow, Nat.reducePow, Int.fdiv_eq_ediv_of_nonneg, Nat.lt_irrefl, Nat.lt_add_one, Nat.zero_lt_succ, capsD_fn, D.sc, D.sc1, D.sc2, resK_nil, resK_tmp, resK_cell, ResC_ptr, ResO_some, ResR_some, ResL_some, ofRes, view, view2, view1, mapO, List.reverse_nil, Option.some.injEq, D.bool.injEq, D.int.injEq, D.str.injEq, D.agg.injEq, D.tup.injEq, D.list.injEq, List.cons.injEq]))
  skip
  · rename_i h1 h2 h3
    refine hk ⟨i + 1, by omega⟩ _ _ (by simp; omega) ?_
    have e : offR b (ts.take (i + 1)) u = x.off := by
      have hx' : ts[i]? = some x := by simpa using hx
      have e2 : ts[i]? = some h2 := by simpa using h3
      rw [e2] at hx'; cases hx'
      simp [offR, List.take_add_one, e2, List.foldl_append, hc]
    simp only [e]
    refine Ent_gc [0] (by simp) (by simp) ⟨by simp [D.renL, D.ren], by simp [D.fitL, D.fit]⟩ (by simp [lk_hit, lk_miss, D.ren, D.renL, D.fit, D.fitL])
  · refine hk ⟨i + 1, by omega⟩ _ _ (by simp; omega) ?_
    have e : offR b (ts.take (i + 1)) u = offR b (ts.take i) u := by
      have e2 : ts[i]? = some x := by simpa using hx
      have : ¬ x.at' ≤ u := by omega
      simp [offR, List.take_add_one, e2, List.foldl_append, this]
    simp only [e]
    refine Ent_gc [0] (by simp) (by simp) ⟨by simp [D.renL, D.ren], by simp [D.fitL, D.fit]⟩ (by simp [lk_hit, lk_miss, D.ren, D.renL, D.fit, D.fitL])
  · rw [List.take_of_length_le (by omega)]

/-- The document's next turn. -/
def nextR (ts : List T) (u : Int) : Int := ((ts.find? (fun t => decide (u < t.at'))).map T.at').getD (-1)

theorem nextR_some {ts : List T} {u : Int} {i : Nat} {x : T} (hx : ts[i]? = some x) (hp : ∀ (k : Nat) (t : T), k < i → ts[k]? = some t → t.at' ≤ u) (h : u < x.at') : nextR ts u = x.at' := by
  have hlt := (List.getElem?_eq_some_iff.1 hx).1
  have : ts.find? (fun t => decide (u < t.at')) = some x := by
    rw [List.find?_eq_some_iff_getElem]
    refine ⟨by simpa using h, i, hlt, (List.getElem?_eq_some_iff.1 hx).2, fun j hj => ?_⟩
    have := hp j _ hj (List.getElem?_eq_getElem (by omega))
    simp; omega
  simp [nextR, this]
theorem nextR_none {ts : List T} {u : Int} (hp : ∀ (k : Nat) (t : T), ts[k]? = some t → t.at' ≤ u) : nextR ts u = -1 := by
  have : ts.find? (fun t => decide (u < t.at')) = none := by
    rw [List.find?_eq_none]
    intro t ht
    obtain ⟨k, hk⟩ := List.getElem?_of_mem ht
    have := hp k t hk
    simp; omega
  simp [nextR, this]

theorem rnext_p (b : Int) (ts : List T) (u : Int) (hl : ts.length ≤ 9223372036854775807) : PureD Try.prog 16 [encZ b ts, .int .i64 u] (.int .i64 (nextR ts u)) := by
  refine pureV Try.func16 low16 (by simp [c16]) ?_
  simp only [c16, encZ]
  repeat' ((first | refine Run_seq ?_ | refine Run_skip ?_ | refine Run_block ?_ | refine Run_blk ?_ | refine Run_exit rfl ?_ | refine Run_ret ?_ | refine Run_nil ?_ | refine Run_condK ?_ | refine Run_ops mixed ?_ | with_reducible refine PostV_open ?_ | with_reducible refine ro_callV ?_ | simp (disch := omega) only [w64, wu64, wu32, wu16, wu8] | (refine GuardK_split (fun hc => ?_) (fun hc => ?_) <;> (try simp only [hc]) <;> (try simp at hc)) | (refine CondK_split (fun hc => ?_) (fun hc => ?_) <;> (try simp only [hc]) <;> (try simp at hc)) | (with_reducible refine And.intro ?_ ?_; (focus (first | exact trivial | assumption | (simp; done) | (simp only [List.length_map] at *; omega) | omega | (simp [D.cells, D.ok, D.one, D.pt, D.pt1]; done)))) | (with_reducible intro x hx)) <;> (try simp only [encT, ro_nil, ro_mov, ro_mkfn, ro_pick, ro_build, ro_slit, ro_chk, ro_bin, ro_eq, ro_un, ro_conv, ro_same, ro_b2s, ro_faddr, ro_fld, ro_idx, ro_ext, ro_len, ro_mx, ro_mn, ro_slice, ro_load, LoadK_elt, LoadK_ptr, LoadO_some, LoadR_some, LoadR_map, ro_box, ro_alloc, ro_store, StoreK_ptr, StoreO_some, StoreR_some, ro_iaddr, IaddrK_list, IaddrK_own, IaddrR_some, IaddrR_map, ro_app, AppK_nil, AppK_own, AppO_some, ro_guard, GuardK_tt, GuardK_no, GuardK_ff, GuardK_tf, GuardK_ft, CondK_t, CondK_f, contP_some, lk_nil, lk_hit, lk_miss, Nat.reduceBEq, put_some, put_none, ev_t, ev_c, argEnv, reduceIte, Nat.reduceEqDiff, Nat.reduceAdd, Nat.reduceSub, Nat.reduceMul, Nat.reduceLT, Nat.reduceLeDiff, reduceCtorEq, binD, binInt, binStr, eqD, eqCell, eqCells, eqN, boolD, okD, aggD, unD, pickD, chkD, convD, sameD, strD, faddrD, fldD, idxD, extD, lenD, mxD, mnD, sliceD, bndD, sizeD, loadD, fillD, splice, D.cells, D.ok, D.one, D.pt, D.pt1, D.norm1, D.norm, cond_true, cond_false, true_and, and_true, and_self, Bool.true_and, Bool.and_true, Bool.false_and, Bool.and_false, Bool.not_true, Bool.not_false, Bool.true_or, Bool.false_or, Bool.or_true, Bool.or_false, List.getElem?_cons_zero, List.getElem?_cons_succ, List.getElem?_nil, List.length_cons, List.length_nil, List.length_map, List.length_append, List.length_set, List.length_take, List.length_drop, List.take_succ_cons, List.take_zero, List.take_nil, List.drop_succ_cons, List.drop_zero, List.drop_nil, List.cons_append, List.nil_append, List.append_nil, List.map_cons, List.map_nil, List.all_cons, List.all_nil, List.set_cons_zero, List.set_cons_succ, List.isEmpty_cons, List.isEmpty_nil, List.forall_mem_cons, List.not_mem_nil, List.forall_mem_nil, false_imp_iff, implies_true, ne_eq, not_false_eq_true, Option.map_some, Option.map_none, Nat.zero_add, Nat.add_zero, Nat.sub_self, Int.toNat_natCast, Int.reduceToNat, Int.reduceLT, Int.reduceLE, Int.reduceEq, Int.reduceBEq, beq_self_eq_true, Int.reduceNeg, decide_true, decide_false, IntKind.bits, Nat.min_eq_left, Int.reducePow, Nat.reducePow, Int.fdiv_eq_ediv_of_nonneg, Nat.lt_irrefl, Nat.lt_add_one, Nat.zero_lt_succ, capsD_fn, D.sc, D.sc1, D.sc2, resK_nil, resK_tmp, resK_cell, ResC_ptr, ResO_some, ResR_some, ResL_some, ofRes, view, view2, view1, mapO, List.reverse_nil, Option.some.injEq, D.bool.injEq, D.int.injEq, D.str.injEq, D.agg.injEq, D.tup.injEq, D.list.injEq, List.cons.injEq]))
  refine Run_loop (ι := {i : Nat // i ≤ ts.length ∧ ∀ k t, k < i → ts[k]? = some t → t.at' ≤ u}) (fun i => ([(1, .int .i64 u), (2, .ptr 0 0 0 1), (8, .int .i64 ts.length), (9, .int .i64 i.1)], [⟨true, false, true, false, 2, [[.int .i64 b, .list none false (ts.map encT)]]⟩])) (fun i => ts.length - i.1) ⟨0, by simp⟩ ?_ ?_
  · refine Ent_gc [0] (by simp) (by simp) ⟨by simp [D.renL, D.ren], by simp [D.fitL, D.fit]⟩ (by simp [lk_hit, lk_miss, D.ren, D.renL, D.fit, D.fitL])
  rintro ⟨i, hi, hp⟩ hk
  dsimp only at hk ⊢
  repeat' ((first | refine Run_seq ?_ | refine Run_skip ?_ | refine Run_block ?_ | refine Run_blk ?_ | refine Run_exit rfl ?_ | refine Run_ret ?_ | refine Run_nil ?_ | refine Run_condK ?_ | refine Run_ops mixed ?_ | with_reducible refine PostV_open ?_ | with_reducible refine ro_callV ?_ | simp (disch := omega) only [w64, wu64, wu32, wu16, wu8] | (refine GuardK_split (fun hc => ?_) (fun hc => ?_) <;> (try simp only [hc]) <;> (try simp at hc)) | (refine CondK_split (fun hc => ?_) (fun hc => ?_) <;> (try simp only [hc]) <;> (try simp at hc)) | (with_reducible refine And.intro ?_ ?_; (focus (first | exact trivial | assumption | (simp; done) | (simp only [List.length_map] at *; omega) | omega | (simp [D.cells, D.ok, D.one, D.pt, D.pt1]; done)))) | (with_reducible intro x hx)) <;> (try simp only [encT, ro_nil, ro_mov, ro_mkfn, ro_pick, ro_build, ro_slit, ro_chk, ro_bin, ro_eq, ro_un, ro_conv, ro_same, ro_b2s, ro_faddr, ro_fld, ro_idx, ro_ext, ro_len, ro_mx, ro_mn, ro_slice, ro_load, LoadK_elt, LoadK_ptr, LoadO_some, LoadR_some, LoadR_map, ro_box, ro_alloc, ro_store, StoreK_ptr, StoreO_some, StoreR_some, ro_iaddr, IaddrK_list, IaddrK_own, IaddrR_some, IaddrR_map, ro_app, AppK_nil, AppK_own, AppO_some, ro_guard, GuardK_tt, GuardK_no, GuardK_ff, GuardK_tf, GuardK_ft, CondK_t, CondK_f, contP_some, lk_nil, lk_hit, lk_miss, Nat.reduceBEq, put_some, put_none, ev_t, ev_c, argEnv, reduceIte, Nat.reduceEqDiff, Nat.reduceAdd, Nat.reduceSub, Nat.reduceMul, Nat.reduceLT, Nat.reduceLeDiff, reduceCtorEq, binD, binInt, binStr, eqD, eqCell, eqCells, eqN, boolD, okD, aggD, unD, pickD, chkD, convD, sameD, strD, faddrD, fldD, idxD, extD, lenD, mxD, mnD, sliceD, bndD, sizeD, loadD, fillD, splice, D.cells, D.ok, D.one, D.pt, D.pt1, D.norm1, D.norm, cond_true, cond_false, true_and, and_true, and_self, Bool.true_and, Bool.and_true, Bool.false_and, Bool.and_false, Bool.not_true, Bool.not_false, Bool.true_or, Bool.false_or, Bool.or_true, Bool.or_false, List.getElem?_cons_zero, List.getElem?_cons_succ, List.getElem?_nil, List.length_cons, List.length_nil, List.length_map, List.length_append, List.length_set, List.length_take, List.length_drop, List.take_succ_cons, List.take_zero, List.take_nil, List.drop_succ_cons, List.drop_zero, List.drop_nil, List.cons_append, List.nil_append, List.append_nil, List.map_cons, List.map_nil, List.all_cons, List.all_nil, List.set_cons_zero, List.set_cons_succ, List.isEmpty_cons, List.isEmpty_nil, List.forall_mem_cons, List.not_mem_nil, List.forall_mem_nil, false_imp_iff, implies_true, ne_eq, not_false_eq_true, Option.map_some, Option.map_none, Nat.zero_add, Nat.add_zero, Nat.sub_self, Int.toNat_natCast, Int.reduceToNat, Int.reduceLT, Int.reduceLE, Int.reduceEq, Int.reduceBEq, beq_self_eq_true, Int.reduceNeg, decide_true, decide_false, IntKind.bits, Nat.min_eq_left, Int.reducePow, Nat.reducePow, Int.fdiv_eq_ediv_of_nonneg, Nat.lt_irrefl, Nat.lt_add_one, Nat.zero_lt_succ, capsD_fn, D.sc, D.sc1, D.sc2, resK_nil, resK_tmp, resK_cell, ResC_ptr, ResO_some, ResR_some, ResL_some, ofRes, view, view2, view1, mapO, List.reverse_nil, Option.some.injEq, D.bool.injEq, D.int.injEq, D.str.injEq, D.agg.injEq, D.tup.injEq, D.list.injEq, List.cons.injEq]))
  skip
  · rename_i h1 h2 h3
    have e2 : ts[i]? = some h2 := by simpa using h3
    have e3 : ts[i]? = some x := by simpa using hx
    rw [e2] at e3; cases e3
    exact (nextR_some e2 hp hc).symm
  · refine hk ⟨i + 1, by omega, fun k t hk' ht => ?_⟩ _ _ (by simp; omega) ?_
    · rcases Nat.lt_or_ge k i with h | h
      · exact hp k t h ht
      · have : k = i := by omega
        subst this
        have e3 : ts[k]? = some x := by simpa using hx
        rw [e3] at ht; cases ht; omega
    · refine Ent_gc [0] (by simp) (by simp) ⟨by simp [D.renL, D.ren], by simp [D.fitL, D.fit]⟩ (by simp [lk_hit, lk_miss, D.ren, D.renL, D.fit, D.fitL])
  · refine (nextR_none fun k t ht => hp k t ?_ ht).symm
    have := (List.getElem?_eq_some_iff.1 ht).1
    omega

theorem off_none {u : Int} : ∀ {l : List T} {n : Int}, (∀ t ∈ l, ¬ t.at' ≤ u) → l.foldl (fun n t => if t.at' ≤ u then t.off else n) n = n
  | [], n, _ => rfl
  | t :: l, n, h => by
    simp only [List.foldl_cons, h t (by simp), if_false]
    exact off_none fun t ht => h t (by simp [ht])

/-- Of turns that rise: those behind a minute come first. -/
theorem bh_split {ts : List T} (ha : Asc ts) (u : Int) : (∀ (k : Nat) t, k < bh ts u → ts[k]? = some t → t.at' ≤ u) ∧ ∀ (k : Nat) t, bh ts u ≤ k → ts[k]? = some t → ¬ t.at' ≤ u := by
  -- the first one that isn't behind it
  have : ∃ n, n ≤ ts.length ∧ (∀ (k : Nat) t, k < n → ts[k]? = some t → t.at' ≤ u) ∧ ∀ (k : Nat) t, n ≤ k → ts[k]? = some t → ¬ t.at' ≤ u := by
    induction ts with
    | nil => exact ⟨0, by simp, by simp, by simp⟩
    | cons x ts ih =>
      have ha' : Asc ts := fun i j a b h hx hy => ha (i + 1) (j + 1) a b (by omega) (by simpa using hx) (by simpa using hy)
      by_cases hx : x.at' ≤ u
      · obtain ⟨n, h1, h2, h3⟩ := ih ha'
        refine ⟨n + 1, by simp; omega, fun k t hk ht => ?_, fun k t hk ht => ?_⟩
        · cases k with
          | zero => simp at ht; subst ht; exact hx
          | succ k => exact h2 k t (by omega) (by simpa using ht)
        · cases k with
          | zero => omega
          | succ k => exact h3 k t (by omega) (by simpa using ht)
      · refine ⟨0, by simp, by simp, fun k t _ ht => ?_⟩
        cases k with
        | zero => simp at ht; subst ht; exact hx
        | succ k => have := ha 0 (k + 1) x t (by omega) (by simp) ht; omega
  obtain ⟨n, h1, h2, h3⟩ := this
  have : bh ts u = n := cut_count _ ts n h1 (fun k t a b => by simpa using h2 k t a b) (fun k t a b => by simpa using h3 k t a b)
  rw [this]
  exact ⟨h2, h3⟩

theorem offR_eq {b : Int} {ts : List T} (ha : Asc ts) (u : Int) : offR b ts u = addO b ts (bh ts u) := by
  obtain ⟨h1, h2⟩ := bh_split ha u
  have hle := @bh_le ts u
  generalize bh ts u = n at *
  have e : ts = ts.take n ++ ts.drop n := (List.take_append_drop n ts).symm
  have e1 : offR b ts u = offR b (ts.take n) u := by
    have : (ts.take n ++ ts.drop n).foldl (fun n t => if t.at' ≤ u then t.off else n) b = (ts.take n).foldl (fun n t => if t.at' ≤ u then t.off else n) b := by
      rw [List.foldl_append]
      refine off_none fun t ht => ?_
      obtain ⟨k, hk⟩ := List.getElem?_of_mem ht
      rw [List.getElem?_drop] at hk
      exact h2 _ t (by omega) hk
    rw [← e] at this
    exact this
  rw [e1]
  cases n with
  | zero => simp [offR, addO]
  | succ n =>
    have hv := List.getElem?_eq_getElem (l := ts) (i := n) (by omega)
    have := h1 n _ (by omega) hv
    have e2 : ts.take (n + 1) = ts.take n ++ [ts[n]] := by rw [List.take_add_one, hv]; rfl
    rw [e2, offR, List.foldl_append]
    simp only [List.foldl_cons, List.foldl_nil, addO, hv, this, if_true, Option.map_some, Option.getD_some]

theorem nextR_eq {ts : List T} (ha : Asc ts) (u : Int) : nextR ts u = (nextT ts u).getD (-1) := by
  obtain ⟨h1, h2⟩ := bh_split ha u
  cases h : ts[bh ts u]? with
  | none =>
    simp only [nextT, h]
    have hge := List.getElem?_eq_none_iff.1 h
    rw [nextR_none fun k t ht => h1 k t (by have := (List.getElem?_eq_some_iff.1 ht).1; omega) ht]
    rfl
  | some x =>
    simp only [nextT, h]
    have := h2 _ x (Nat.le_refl _) h
    rw [nextR_some h (fun k t hk ht => h1 k t hk ht) (by omega)]
    rfl
end Go.Proofs.Ytefpjijokdplfaa
