import Derived.Test.YtefpjijokdplfaaZ3
set_option linter.unusedVariables false
set_option linter.unusedSimpArgs false
namespace Go.Proofs.Ytefpjijokdplfaa
open Go Go.Vi


theorem Good.asc {b : Int} {ts : List T} (h : Good b ts) : Asc ts := by
  have key : ∀ (d i : Nat) (t u : T), ts[i]? = some t → ts[i + d + 1]? = some u → t.at' < u.at' := by
    intro d
    induction d with
    | zero => intro i t u ht hu; have := (h.2.2.2 (i + 1) u hu).2.2.2.2 t (by omega) ht; omega
    | succ d ih =>
      intro i t u ht hu
      have hlt := (List.getElem?_eq_some_iff.1 hu).1
      have hv := List.getElem?_eq_getElem (l := ts) (i := i + d + 1) (by omega)
      have := ih i t _ ht hv
      have := (h.2.2.2 (i + (d + 1) + 1) u hu).2.2.2.2 _ (by omega) hv
      omega
  intro i j t u hij ht hu
  refine key (j - i - 1) i t u ht ?_
  rw [show i + (j - i - 1) + 1 = j by omega]; exact hu

/-- How many turns are behind a minute. -/
def bh (ts : List T) (u : Int) : Nat := ts.countP (fun t => decide (t.at' ≤ u))

theorem bh_eq {ts : List T} (ha : Asc ts) (u : Int) : bh ts u = lt ts u + (if hit ts u then 1 else 0) := by
  unfold bh lt hit
  induction ts with
  | nil => rfl
  | cons t ts ih =>
    have ha' : Asc ts := fun i j x y h hx hy => ha (i + 1) (j + 1) x y (by omega) (by simpa using hx) (by simpa using hy)
    have hgt : ∀ y ∈ ts, t.at' < y.at' := fun y hy => by
      obtain ⟨k, hk⟩ := List.getElem?_of_mem hy
      exact ha 0 (k + 1) t y (by omega) (by simp) (by simpa using hk)
    simp only [List.countP_cons, List.any_cons, ih ha']
    by_cases h : t.at' = u
    · have : (ts.any fun t => decide (t.at' = u)) = false := by
        rw [List.any_eq_false]; intro y hy; have := hgt y hy; simp; omega
      simp [h, this]
    · by_cases h2 : t.at' < u
      · have h3 : t.at' ≤ u := by omega
        simp [h, h2, h3]; omega
      · have h3 : ¬ t.at' ≤ u := by omega
        simp [h, h2, h3]

theorem lt_le {ts : List T} {u : Int} : lt ts u ≤ ts.length := List.countP_le_length
theorem bh_le {ts : List T} {u : Int} : bh ts u ≤ ts.length := List.countP_le_length

theorem behind_p (b : Int) (ts : List T) (u : Int) (hl : ts.length ≤ 700) (ha : Asc ts) : PureD Try.prog 18 [encZ b ts, .int .i64 u] (.int .i64 (bh ts u)) := by
  refine pureV Try.func18 low18 (by simp [c18]) ?_
  simp only [c18, encZ]
  have := @lt_le ts u
  repeat' ((first | refine Run_seq ?_ | refine Run_skip ?_ | refine Run_block ?_ | refine Run_blk ?_ | refine Run_exit rfl ?_ | refine Run_ret ?_ | refine Run_nil ?_ | refine Run_condK ?_ | refine Run_ops mixed ?_ | with_reducible refine PostV_open ?_ | with_reducible refine ro_callV ?_ | refine CallV_pure (bs_p _ _ hl ha) ?_ ?_ | simp (disch := omega) only [w64, wu64, wu32, wu16, wu8] | (refine GuardK_split (fun hc => ?_) (fun hc => ?_) <;> (try simp only [hc]) <;> (try simp at hc)) | (refine CondK_split (fun hc => ?_) (fun hc => ?_) <;> (try simp only [hc]) <;> (try simp at hc)) | (with_reducible refine And.intro ?_ ?_; (focus (first | exact trivial | assumption | (simp; done) | (simp only [List.length_map] at *; omega) | omega | (simp [D.cells, D.ok, D.one, D.pt, D.pt1]; done)))) | (with_reducible intro x hx)) <;> (try simp only [encT, encZ, ro_nil, ro_mov, ro_mkfn, ro_pick, ro_build, ro_slit, ro_chk, ro_bin, ro_eq, ro_un, ro_conv, ro_same, ro_b2s, ro_faddr, ro_fld, ro_idx, ro_ext, ro_len, ro_mx, ro_mn, ro_slice, ro_load, LoadK_elt, LoadK_ptr, LoadO_some, LoadR_some, LoadR_map, ro_box, ro_alloc, ro_store, StoreK_ptr, StoreO_some, StoreR_some, ro_iaddr, IaddrK_list, IaddrK_own, IaddrR_some, IaddrR_map, ro_app, AppK_nil, AppK_own, AppO_some, ro_guard, GuardK_tt, GuardK_no, GuardK_ff, GuardK_tf, GuardK_ft, CondK_t, CondK_f, contP_some, lk_nil, lk_hit, lk_miss, Nat.reduceBEq, put_some, put_none, ev_t, ev_c, argEnv, reduceIte, Nat.reduceEqDiff, Nat.reduceAdd, Nat.reduceSub, Nat.reduceMul, Nat.reduceLT, Nat.reduceLeDiff, reduceCtorEq, binD, binInt, binStr, eqD, eqCell, eqCells, eqN, boolD, okD, aggD, unD, pickD, chkD, convD, sameD, strD, faddrD, fldD, idxD, extD, lenD, mxD, mnD, sliceD, bndD, sizeD, loadD, fillD, splice, D.cells, D.ok, D.one, D.pt, D.pt1, D.norm1, D.norm, cond_true, cond_false, true_and, and_true, and_self, Bool.true_and, Bool.and_true, Bool.false_and, Bool.and_false, Bool.not_true, Bool.not_false, Bool.true_or, Bool.false_or, Bool.or_true, Bool.or_false, List.getElem?_cons_zero, List.getElem?_cons_succ, List.getElem?_nil, List.length_cons, List.length_nil, List.length_map, List.length_append, List.length_set, List.length_take, List.length_drop, List.take_succ_cons, List.take_zero, List.take_nil, List.drop_succ_cons, List.drop_zero, List.drop_nil, List.cons_append, List.nil_append, List.append_nil, List.map_cons, List.map_nil, List.all_cons, List.all_nil, List.set_cons_zero, List.set_cons_succ, List.isEmpty_cons, List.isEmpty_nil, List.forall_mem_cons, List.not_mem_nil, List.forall_mem_nil, false_imp_iff, implies_true, ne_eq, not_false_eq_true, Option.map_some, Option.map_none, Nat.zero_add, Nat.add_zero, Nat.sub_self, Int.toNat_natCast, Int.reduceToNat, Int.reduceLT, Int.reduceLE, Int.reduceEq, Int.reduceBEq, beq_self_eq_true, Int.reduceNeg, decide_true, decide_false, IntKind.bits, Nat.min_eq_left, Int.reducePow, Nat.reducePow, Int.fdiv_eq_ediv_of_nonneg, Nat.lt_irrefl, Nat.lt_add_one, Nat.zero_lt_succ, capsD_fn, D.sc, D.sc1, D.sc2, resK_nil, resK_tmp, resK_cell, ResC_ptr, ResO_some, ResR_some, ResL_some, ofRes, view, view2, view1, mapO, List.reverse_nil, Option.some.injEq, D.bool.injEq, D.int.injEq, D.str.injEq, D.agg.injEq, D.tup.injEq, D.list.injEq, List.cons.injEq]))
  skip
  all_goals simp_all [bh_eq ha]

/-- What is added behind n turns. -/
def addO (b : Int) (ts : List T) (n : Nat) : Int := match n with
  | 0 => b
  | n + 1 => ((ts[n]?).map T.off).getD 0

theorem added_p (b : Int) (ts : List T) (n : Nat) (hl : ts.length ≤ 700) (hn : n ≤ ts.length) : PureD Try.prog 22 [encZ b ts, .int .i64 n] (.int .i64 (addO b ts n)) := by
  refine pureV Try.func22 low22 (by simp [c22]) ?_
  simp only [c22, encZ]
  repeat' ((first | refine Run_seq ?_ | refine Run_skip ?_ | refine Run_block ?_ | refine Run_blk ?_ | refine Run_exit rfl ?_ | refine Run_ret ?_ | refine Run_nil ?_ | refine Run_condK ?_ | refine Run_ops mixed ?_ | with_reducible refine PostV_open ?_ | with_reducible refine ro_callV ?_ | simp (disch := omega) only [w64, wu64, wu32, wu16, wu8] | (refine GuardK_split (fun hc => ?_) (fun hc => ?_) <;> (try simp only [hc]) <;> (try simp at hc)) | (refine CondK_split (fun hc => ?_) (fun hc => ?_) <;> (try simp only [hc]) <;> (try simp at hc)) | (with_reducible refine And.intro ?_ ?_; (focus (first | exact trivial | assumption | (simp; done) | (simp only [List.length_map] at *; omega) | omega | (simp [D.cells, D.ok, D.one, D.pt, D.pt1]; done)))) | (with_reducible intro x hx)) <;> (try simp only [encT, encZ, ro_nil, ro_mov, ro_mkfn, ro_pick, ro_build, ro_slit, ro_chk, ro_bin, ro_eq, ro_un, ro_conv, ro_same, ro_b2s, ro_faddr, ro_fld, ro_idx, ro_ext, ro_len, ro_mx, ro_mn, ro_slice, ro_load, LoadK_elt, LoadK_ptr, LoadO_some, LoadR_some, LoadR_map, ro_box, ro_alloc, ro_store, StoreK_ptr, StoreO_some, StoreR_some, ro_iaddr, IaddrK_list, IaddrK_own, IaddrR_some, IaddrR_map, ro_app, AppK_nil, AppK_own, AppO_some, ro_guard, GuardK_tt, GuardK_no, GuardK_ff, GuardK_tf, GuardK_ft, CondK_t, CondK_f, contP_some, lk_nil, lk_hit, lk_miss, Nat.reduceBEq, put_some, put_none, ev_t, ev_c, argEnv, reduceIte, Nat.reduceEqDiff, Nat.reduceAdd, Nat.reduceSub, Nat.reduceMul, Nat.reduceLT, Nat.reduceLeDiff, reduceCtorEq, binD, binInt, binStr, eqD, eqCell, eqCells, eqN, boolD, okD, aggD, unD, pickD, chkD, convD, sameD, strD, faddrD, fldD, idxD, extD, lenD, mxD, mnD, sliceD, bndD, sizeD, loadD, fillD, splice, D.cells, D.ok, D.one, D.pt, D.pt1, D.norm1, D.norm, cond_true, cond_false, true_and, and_true, and_self, Bool.true_and, Bool.and_true, Bool.false_and, Bool.and_false, Bool.not_true, Bool.not_false, Bool.true_or, Bool.false_or, Bool.or_true, Bool.or_false, List.getElem?_cons_zero, List.getElem?_cons_succ, List.getElem?_nil, List.length_cons, List.length_nil, List.length_map, List.length_append, List.length_set, List.length_take, List.length_drop, List.take_succ_cons, List.take_zero, List.take_nil, List.drop_succ_cons, List.drop_zero, List.drop_nil, List.cons_append, List.nil_append, List.append_nil, List.map_cons, List.map_nil, List.all_cons, List.all_nil, List.set_cons_zero, List.set_cons_succ, List.isEmpty_cons, List.isEmpty_nil, List.forall_mem_cons, List.not_mem_nil, List.forall_mem_nil, false_imp_iff, implies_true, ne_eq, not_false_eq_true, Option.map_some, Option.map_none, Nat.zero_add, Nat.add_zero, Nat.sub_self, Int.toNat_natCast, Int.reduceToNat, Int.reduceLT, Int.reduceLE, Int.reduceEq, Int.reduceBEq, beq_self_eq_true, Int.reduceNeg, decide_true, decide_false, IntKind.bits, Nat.min_eq_left, Int.reducePow, Nat.reducePow, Int.fdiv_eq_ediv_of_nonneg, Nat.lt_irrefl, Nat.lt_add_one, Nat.zero_lt_succ, capsD_fn, D.sc, D.sc1, D.sc2, resK_nil, resK_tmp, resK_cell, ResC_ptr, ResO_some, ResR_some, ResL_some, ofRes, view, view2, view1, mapO, List.reverse_nil, Option.some.injEq, D.bool.injEq, D.int.injEq, D.str.injEq, D.agg.injEq, D.tup.injEq, D.list.injEq, List.cons.injEq]))
  skip
  · subst hc; rfl
  · obtain ⟨m, rfl⟩ : ∃ m, n = m + 1 := ⟨n - 1, by omega⟩
    have e : ((m + 1 : Nat) - 1 : Int).toNat = m := by omega
    rw [e] at hx
    simp [addO, hx]

theorem in_p (u : Int) : PureD Try.prog 21 [.int .i64 u] (.bool (decide (0 ≤ u) && decide (u ≤ 158310720))) := by
  refine pureV Try.func21 low21 (by simp [c21]) ?_
  simp only [c21]
  repeat' ((first | refine Run_seq ?_ | refine Run_skip ?_ | refine Run_block ?_ | refine Run_blk ?_ | refine Run_exit rfl ?_ | refine Run_ret ?_ | refine Run_nil ?_ | refine Run_condK ?_ | refine Run_ops mixed ?_ | with_reducible refine PostV_open ?_ | with_reducible refine ro_callV ?_ | simp (disch := omega) only [w64, wu64, wu32, wu16, wu8] | (refine GuardK_split (fun hc => ?_) (fun hc => ?_) <;> (try simp only [hc]) <;> (try simp at hc)) | (refine CondK_split (fun hc => ?_) (fun hc => ?_) <;> (try simp only [hc]) <;> (try simp at hc)) | (with_reducible refine And.intro ?_ ?_; (focus (first | exact trivial | assumption | (simp; done) | (simp only [List.length_map] at *; omega) | omega | (simp [D.cells, D.ok, D.one, D.pt, D.pt1]; done)))) | (with_reducible intro x hx)) <;> (try simp only [encT, encZ, ro_nil, ro_mov, ro_mkfn, ro_pick, ro_build, ro_slit, ro_chk, ro_bin, ro_eq, ro_un, ro_conv, ro_same, ro_b2s, ro_faddr, ro_fld, ro_idx, ro_ext, ro_len, ro_mx, ro_mn, ro_slice, ro_load, LoadK_elt, LoadK_ptr, LoadO_some, LoadR_some, LoadR_map, ro_box, ro_alloc, ro_store, StoreK_ptr, StoreO_some, StoreR_some, ro_iaddr, IaddrK_list, IaddrK_own, IaddrR_some, IaddrR_map, ro_app, AppK_nil, AppK_own, AppO_some, ro_guard, GuardK_tt, GuardK_no, GuardK_ff, GuardK_tf, GuardK_ft, CondK_t, CondK_f, contP_some, lk_nil, lk_hit, lk_miss, Nat.reduceBEq, put_some, put_none, ev_t, ev_c, argEnv, reduceIte, Nat.reduceEqDiff, Nat.reduceAdd, Nat.reduceSub, Nat.reduceMul, Nat.reduceLT, Nat.reduceLeDiff, reduceCtorEq, binD, binInt, binStr, eqD, eqCell, eqCells, eqN, boolD, okD, aggD, unD, pickD, chkD, convD, sameD, strD, faddrD, fldD, idxD, extD, lenD, mxD, mnD, sliceD, bndD, sizeD, loadD, fillD, splice, D.cells, D.ok, D.one, D.pt, D.pt1, D.norm1, D.norm, cond_true, cond_false, true_and, and_true, and_self, Bool.true_and, Bool.and_true, Bool.false_and, Bool.and_false, Bool.not_true, Bool.not_false, Bool.true_or, Bool.false_or, Bool.or_true, Bool.or_false, List.getElem?_cons_zero, List.getElem?_cons_succ, List.getElem?_nil, List.length_cons, List.length_nil, List.length_map, List.length_append, List.length_set, List.length_take, List.length_drop, List.take_succ_cons, List.take_zero, List.take_nil, List.drop_succ_cons, List.drop_zero, List.drop_nil, List.cons_append, List.nil_append, List.append_nil, List.map_cons, List.map_nil, List.all_cons, List.all_nil, List.set_cons_zero, List.set_cons_succ, List.isEmpty_cons, List.isEmpty_nil, List.forall_mem_cons, List.not_mem_nil, List.forall_mem_nil, false_imp_iff, implies_true, ne_eq, not_false_eq_true, Option.map_some, Option.map_none, Nat.zero_add, Nat.add_zero, Nat.sub_self, Int.toNat_natCast, Int.reduceToNat, Int.reduceLT, Int.reduceLE, Int.reduceEq, Int.reduceBEq, beq_self_eq_true, Int.reduceNeg, decide_true, decide_false, IntKind.bits, Nat.min_eq_left, Int.reducePow, Nat.reducePow, Int.fdiv_eq_ediv_of_nonneg, Nat.lt_irrefl, Nat.lt_add_one, Nat.zero_lt_succ, capsD_fn, D.sc, D.sc1, D.sc2, resK_nil, resK_tmp, resK_cell, ResC_ptr, ResO_some, ResR_some, ResL_some, ofRes, view, view2, view1, mapO, List.reverse_nil, Option.some.injEq, D.bool.injEq, D.int.injEq, D.str.injEq, D.agg.injEq, D.tup.injEq, D.list.injEq, List.cons.injEq]))
  skip
  all_goals simp_all

theorem addO_le {b : Int} {ts : List T} {n : Nat} (h : Good b ts) : -900 ≤ addO b ts n ∧ addO b ts n ≤ 900 := by
  cases n with
  | zero => exact ⟨h.1, h.2.1⟩
  | succ n =>
    simp only [addO]
    cases ht : ts[n]? with
    | none => simp
    | some t => have := h.2.2.2 n t ht; simp; omega

open Classical in
/-- What is added at a minute. -/
noncomputable def offC (b : Int) (ts : List T) (u : Int) : Int := if Good b ts then addO b ts (bh ts u) else 0

open Classical in
theorem offset_p (b : Int) (ts : List T) (u : Int) (hl : ts.length ≤ 9223372036854775807) : PureD Try.prog 12 [encZ b ts, .int .i64 u] (.int .i64 (offC b ts u)) := by
  refine pureV Try.func12 low12 (by simp [c12]) ?_
  simp only [c12, encZ]
  repeat' ((first | refine Run_seq ?_ | refine Run_skip ?_ | refine Run_block ?_ | refine Run_blk ?_ | refine Run_exit rfl ?_ | refine Run_ret ?_ | refine Run_nil ?_ | refine Run_condK ?_ | refine Run_ops mixed ?_ | with_reducible refine PostV_open ?_ | with_reducible refine ro_callV ?_ | refine CallV_pure (may_p _ _ hl) ?_ ?_ | simp (disch := omega) only [w64, wu64, wu32, wu16, wu8] | (refine GuardK_split (fun hc => ?_) (fun hc => ?_) <;> (try simp only [hc]) <;> (try simp at hc)) | (refine CondK_split (fun hc => ?_) (fun hc => ?_) <;> (try simp only [hc]) <;> (try simp at hc)) | (with_reducible refine And.intro ?_ ?_; (focus (first | exact trivial | assumption | (simp; done) | (simp only [List.length_map] at *; omega) | omega | (simp [D.cells, D.ok, D.one, D.pt, D.pt1]; done)))) | (with_reducible intro x hx)) <;> (try simp only [encT, encZ, ro_nil, ro_mov, ro_mkfn, ro_pick, ro_build, ro_slit, ro_chk, ro_bin, ro_eq, ro_un, ro_conv, ro_same, ro_b2s, ro_faddr, ro_fld, ro_idx, ro_ext, ro_len, ro_mx, ro_mn, ro_slice, ro_load, LoadK_elt, LoadK_ptr, LoadO_some, LoadR_some, LoadR_map, ro_box, ro_alloc, ro_store, StoreK_ptr, StoreO_some, StoreR_some, ro_iaddr, IaddrK_list, IaddrK_own, IaddrR_some, IaddrR_map, ro_app, AppK_nil, AppK_own, AppO_some, ro_guard, GuardK_tt, GuardK_no, GuardK_ff, GuardK_tf, GuardK_ft, CondK_t, CondK_f, contP_some, lk_nil, lk_hit, lk_miss, Nat.reduceBEq, put_some, put_none, ev_t, ev_c, argEnv, reduceIte, Nat.reduceEqDiff, Nat.reduceAdd, Nat.reduceSub, Nat.reduceMul, Nat.reduceLT, Nat.reduceLeDiff, reduceCtorEq, binD, binInt, binStr, eqD, eqCell, eqCells, eqN, boolD, okD, aggD, unD, pickD, chkD, convD, sameD, strD, faddrD, fldD, idxD, extD, lenD, mxD, mnD, sliceD, bndD, sizeD, loadD, fillD, splice, D.cells, D.ok, D.one, D.pt, D.pt1, D.norm1, D.norm, cond_true, cond_false, true_and, and_true, and_self, Bool.true_and, Bool.and_true, Bool.false_and, Bool.and_false, Bool.not_true, Bool.not_false, Bool.true_or, Bool.false_or, Bool.or_true, Bool.or_false, List.getElem?_cons_zero, List.getElem?_cons_succ, List.getElem?_nil, List.length_cons, List.length_nil, List.length_map, List.length_append, List.length_set, List.length_take, List.length_drop, List.take_succ_cons, List.take_zero, List.take_nil, List.drop_succ_cons, List.drop_zero, List.drop_nil, List.cons_append, List.nil_append, List.append_nil, List.map_cons, List.map_nil, List.all_cons, List.all_nil, List.set_cons_zero, List.set_cons_succ, List.isEmpty_cons, List.isEmpty_nil, List.forall_mem_cons, List.not_mem_nil, List.forall_mem_nil, false_imp_iff, implies_true, ne_eq, not_false_eq_true, Option.map_some, Option.map_none, Nat.zero_add, Nat.add_zero, Nat.sub_self, Int.toNat_natCast, Int.reduceToNat, Int.reduceLT, Int.reduceLE, Int.reduceEq, Int.reduceBEq, beq_self_eq_true, Int.reduceNeg, decide_true, decide_false, IntKind.bits, Nat.min_eq_left, Int.reducePow, Nat.reducePow, Int.fdiv_eq_ediv_of_nonneg, Nat.lt_irrefl, Nat.lt_add_one, Nat.zero_lt_succ, capsD_fn, D.sc, D.sc1, D.sc2, resK_nil, resK_tmp, resK_cell, ResC_ptr, ResO_some, ResR_some, ResL_some, ofRes, view, view2, view1, mapO, List.reverse_nil, Option.some.injEq, D.bool.injEq, D.int.injEq, D.str.injEq, D.agg.injEq, D.tup.injEq, D.list.injEq, List.cons.injEq]))
  · skip
    simp [offC, hc]
  · repeat' ((first | refine Run_seq ?_ | refine Run_skip ?_ | refine Run_block ?_ | refine Run_blk ?_ | refine Run_exit rfl ?_ | refine Run_ret ?_ | refine Run_nil ?_ | refine Run_condK ?_ | refine Run_ops mixed ?_ | with_reducible refine PostV_open ?_ | with_reducible refine ro_callV ?_ | refine CallV_pure (behind_p _ _ _ hc.2.2.1 hc.asc) ?_ ?_ | refine CallV_pure (added_p _ _ _ hc.2.2.1 bh_le) ?_ ?_ | simp (disch := omega) only [w64, wu64, wu32, wu16, wu8] | (refine GuardK_split (fun hc => ?_) (fun hc => ?_) <;> (try simp only [hc]) <;> (try simp at hc)) | (refine CondK_split (fun hc => ?_) (fun hc => ?_) <;> (try simp only [hc]) <;> (try simp at hc)) | (with_reducible refine And.intro ?_ ?_; (focus (first | exact trivial | assumption | (simp; done) | (simp only [List.length_map] at *; omega) | omega | (simp [D.cells, D.ok, D.one, D.pt, D.pt1]; done)))) | (with_reducible intro x hx)) <;> (try simp only [encT, encZ, ro_nil, ro_mov, ro_mkfn, ro_pick, ro_build, ro_slit, ro_chk, ro_bin, ro_eq, ro_un, ro_conv, ro_same, ro_b2s, ro_faddr, ro_fld, ro_idx, ro_ext, ro_len, ro_mx, ro_mn, ro_slice, ro_load, LoadK_elt, LoadK_ptr, LoadO_some, LoadR_some, LoadR_map, ro_box, ro_alloc, ro_store, StoreK_ptr, StoreO_some, StoreR_some, ro_iaddr, IaddrK_list, IaddrK_own, IaddrR_some, IaddrR_map, ro_app, AppK_nil, AppK_own, AppO_some, ro_guard, GuardK_tt, GuardK_no, GuardK_ff, GuardK_tf, GuardK_ft, CondK_t, CondK_f, contP_some, lk_nil, lk_hit, lk_miss, Nat.reduceBEq, put_some, put_none, ev_t, ev_c, argEnv, reduceIte, Nat.reduceEqDiff, Nat.reduceAdd, Nat.reduceSub, Nat.reduceMul, Nat.reduceLT, Nat.reduceLeDiff, reduceCtorEq, binD, binInt, binStr, eqD, eqCell, eqCells, eqN, boolD, okD, aggD, unD, pickD, chkD, convD, sameD, strD, faddrD, fldD, idxD, extD, lenD, mxD, mnD, sliceD, bndD, sizeD, loadD, fillD, splice, D.cells, D.ok, D.one, D.pt, D.pt1, D.norm1, D.norm, cond_true, cond_false, true_and, and_true, and_self, Bool.true_and, Bool.and_true, Bool.false_and, Bool.and_false, Bool.not_true, Bool.not_false, Bool.true_or, Bool.false_or, Bool.or_true, Bool.or_false, List.getElem?_cons_zero, List.getElem?_cons_succ, List.getElem?_nil, List.length_cons, List.length_nil, List.length_map, List.length_append, List.length_set, List.length_take, List.length_drop, List.take_succ_cons, List.take_zero, List.take_nil, List.drop_succ_cons, List.drop_zero, List.drop_nil, List.cons_append, List.nil_append, List.append_nil, List.map_cons, List.map_nil, List.all_cons, List.all_nil, List.set_cons_zero, List.set_cons_succ, List.isEmpty_cons, List.isEmpty_nil, List.forall_mem_cons, List.not_mem_nil, List.forall_mem_nil, false_imp_iff, implies_true, ne_eq, not_false_eq_true, Option.map_some, Option.map_none, Nat.zero_add, Nat.add_zero, Nat.sub_self, Int.toNat_natCast, Int.reduceToNat, Int.reduceLT, Int.reduceLE, Int.reduceEq, Int.reduceBEq, beq_self_eq_true, Int.reduceNeg, decide_true, decide_false, IntKind.bits, Nat.min_eq_left, Int.reducePow, Nat.reducePow, Int.fdiv_eq_ediv_of_nonneg, Nat.lt_irrefl, Nat.lt_add_one, Nat.zero_lt_succ, capsD_fn, D.sc, D.sc1, D.sc2, resK_nil, resK_tmp, resK_cell, ResC_ptr, ResO_some, ResR_some, ResL_some, ofRes, view, view2, view1, mapO, List.reverse_nil, Option.some.injEq, D.bool.injEq, D.int.injEq, D.str.injEq, D.agg.injEq, D.tup.injEq, D.list.injEq, List.cons.injEq]))
    skip
    simp [offC, hc]
end Go.Proofs.Ytefpjijokdplfaa
