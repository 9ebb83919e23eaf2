import Derived.Test.YtefpjijokdplfaaZ1
set_option linter.unusedVariables false
set_option linter.unusedSimpArgs false
namespace Go.Proofs.Ytefpjijokdplfaa
open Go Go.Vi


structure T where
  at' : Int
  off : Int
def encT (t : T) : List D := [.int .i64 t.at', .int .i64 t.off]
def encZ (b : Int) (ts : List T) : D := .agg [.int .i64 b, .list none false (ts.map encT)]

/-- A turn that may be, behind the one before it. -/
def okT (ts : List T) (i : Nat) : Prop := ∀ t, ts[i]? = some t → -900 ≤ t.off ∧ t.off ≤ 900 ∧ 0 ≤ t.at' ∧ t.at' ≤ 158310720 ∧ ∀ u, 0 < i → ts[i - 1]? = some u → u.at' + 2880 ≤ t.at'
def Good (b : Int) (ts : List T) : Prop := -900 ≤ b ∧ b ≤ 900 ∧ ts.length ≤ 700 ∧ ∀ i, okT ts i

set_option maxHeartbeats 2000000 in
open Classical in
theorem may_p (b : Int) (ts : List T) (hl : ts.length ≤ 9223372036854775807) : PureD Try.prog 14 [encZ b ts] (.bool (decide (Good b ts))) := by
  refine pureV Try.func14 low14 (by simp [c14]) ?_
  simp only [c14, encZ]
  repeat' ((first | refine Run_seq ?_ | refine Run_skip ?_ | refine Run_block ?_ | refine Run_blk ?_ | refine Run_exit rfl ?_ | refine Run_ret ?_ | refine Run_nil ?_ | refine Run_condK ?_ | refine Run_ops mixed ?_ | with_reducible refine PostV_open ?_ | with_reducible refine ro_callV ?_ | refine CallV_pure (wide_p _) ?_ ?_ | simp (disch := omega) only [w64, wu64, wu32, wu16, wu8] | (refine GuardK_split (fun hc => ?_) (fun hc => ?_) <;> (try simp only [hc]) <;> (try simp at hc)) | (refine CondK_split (fun hc => ?_) (fun hc => ?_) <;> (try simp only [hc]) <;> (try simp at hc)) | (with_reducible refine And.intro ?_ ?_; (focus (first | exact trivial | assumption | (simp; done) | (simp only [List.length_map] at *; omega) | omega | (simp [D.cells, D.ok, D.one, D.pt, D.pt1]; done)))) | (with_reducible intro x hx)) <;> (try simp only [encT, ro_nil, ro_mov, ro_mkfn, ro_pick, ro_build, ro_slit, ro_chk, ro_bin, ro_eq, ro_un, ro_conv, ro_same, ro_b2s, ro_faddr, ro_fld, ro_idx, ro_ext, ro_len, ro_mx, ro_mn, ro_slice, ro_load, LoadK_elt, LoadK_ptr, LoadO_some, LoadR_some, LoadR_map, ro_box, ro_alloc, ro_store, StoreK_ptr, StoreO_some, StoreR_some, ro_iaddr, IaddrK_list, IaddrK_own, IaddrR_some, IaddrR_map, ro_app, AppK_nil, AppK_own, AppO_some, ro_guard, GuardK_tt, GuardK_no, GuardK_ff, GuardK_tf, GuardK_ft, CondK_t, CondK_f, contP_some, lk_nil, lk_hit, lk_miss, Nat.reduceBEq, put_some, put_none, ev_t, ev_c, argEnv, reduceIte, Nat.reduceEqDiff, Nat.reduceAdd, Nat.reduceSub, Nat.reduceMul, Nat.reduceLT, Nat.reduceLeDiff, reduceCtorEq, binD, binInt, binStr, eqD, eqCell, eqCells, eqN, boolD, okD, aggD, unD, pickD, chkD, convD, sameD, strD, faddrD, fldD, idxD, extD, lenD, mxD, mnD, sliceD, bndD, sizeD, loadD, fillD, splice, D.cells, D.ok, D.one, D.pt, D.pt1, D.norm1, D.norm, cond_true, cond_false, true_and, and_true, and_self, Bool.true_and, Bool.and_true, Bool.false_and, Bool.and_false, Bool.not_true, Bool.not_false, Bool.true_or, Bool.false_or, Bool.or_true, Bool.or_false, List.getElem?_cons_zero, List.getElem?_cons_succ, List.getElem?_nil, List.length_cons, List.length_nil, List.length_map, List.length_append, List.length_set, List.length_take, List.length_drop, List.take_succ_cons, List.take_zero, List.take_nil, List.drop_succ_cons, List.drop_zero, List.drop_nil, List.cons_append, List.nil_append, List.append_nil, List.map_cons, List.map_nil, List.all_cons, List.all_nil, List.set_cons_zero, List.set_cons_succ, List.isEmpty_cons, List.isEmpty_nil, List.forall_mem_cons, List.not_mem_nil, List.forall_mem_nil, false_imp_iff, implies_true, ne_eq, not_false_eq_true, Option.map_some, Option.map_none, Nat.zero_add, Nat.add_zero, Nat.sub_self, Int.toNat_natCast, Int.reduceToNat, Int.reduceLT, Int.reduceLE, Int.reduceEq, Int.reduceBEq, beq_self_eq_true, Int.reduceNeg, decide_true, decide_false, IntKind.bits, Nat.min_eq_left, Int.reducePow, Nat.reducePow, Int.fdiv_eq_ediv_of_nonneg, Nat.lt_irrefl, Nat.lt_add_one, Nat.zero_lt_succ, capsD_fn, D.sc, D.sc1, D.sc2, resK_nil, resK_tmp, resK_cell, ResC_ptr, ResO_some, ResR_some, ResL_some, ofRes, view, view2, view1, mapO, List.reverse_nil, Option.some.injEq, D.bool.injEq, D.int.injEq, D.str.injEq, D.agg.injEq, D.tup.injEq, D.list.injEq, List.cons.injEq]))
  · skip
    have : ¬ Good b ts := fun h => by have := h.1; have := h.2.1; have := h.2.2.1; omega
    simp [this]
  · skip
    have : ¬ Good b ts := fun h => by have := h.1; have := h.2.1; have := h.2.2.1; omega
    simp [this]
  rename_i hb
  refine Run_loop (ι := {i : Nat // i ≤ ts.length ∧ ∀ k, k < i → okT ts k}) (fun i => ([(1, .ptr 0 0 0 1), (2, .bool false), (15, .list none false (ts.map encT)), (16, .int .i64 ts.length), (17, .int .i64 i.1)], [⟨true, false, true, false, 2, [[.int .i64 b, .list none false (ts.map encT)]]⟩])) (fun i => ts.length - i.1) ⟨0, by simp⟩ ?_ ?_
  · refine Ent_gc [0] (by simp) (by simp) ⟨by simp [D.renL, D.ren], by simp [D.fitL, D.fit]⟩ (by simp [lk_hit, lk_miss, D.ren, D.renL, D.fit, D.fitL])
  rintro ⟨i, hi, hp⟩ hk
  dsimp only at hk ⊢
  repeat' ((first | refine Run_seq ?_ | refine Run_skip ?_ | refine Run_block ?_ | refine Run_blk ?_ | refine Run_exit rfl ?_ | refine Run_ret ?_ | refine Run_nil ?_ | refine Run_condK ?_ | refine Run_ops mixed ?_ | with_reducible refine PostV_open ?_ | with_reducible refine ro_callV ?_ | refine CallV_pure (wide_p _) ?_ ?_ | simp (disch := omega) only [w64, wu64, wu32, wu16, wu8] | (refine GuardK_split (fun hc => ?_) (fun hc => ?_) <;> (try simp only [hc]) <;> (try simp at hc)) | (refine CondK_split (fun hc => ?_) (fun hc => ?_) <;> (try simp only [hc]) <;> (try simp at hc)) | (with_reducible refine And.intro ?_ ?_; (focus (first | exact trivial | assumption | (simp; done) | (simp only [List.length_map] at *; omega) | omega | (simp [D.cells, D.ok, D.one, D.pt, D.pt1]; done)))) | (with_reducible intro x hx)) <;> (try simp only [encT, ro_nil, ro_mov, ro_mkfn, ro_pick, ro_build, ro_slit, ro_chk, ro_bin, ro_eq, ro_un, ro_conv, ro_same, ro_b2s, ro_faddr, ro_fld, ro_idx, ro_ext, ro_len, ro_mx, ro_mn, ro_slice, ro_load, LoadK_elt, LoadK_ptr, LoadO_some, LoadR_some, LoadR_map, ro_box, ro_alloc, ro_store, StoreK_ptr, StoreO_some, StoreR_some, ro_iaddr, IaddrK_list, IaddrK_own, IaddrR_some, IaddrR_map, ro_app, AppK_nil, AppK_own, AppO_some, ro_guard, GuardK_tt, GuardK_no, GuardK_ff, GuardK_tf, GuardK_ft, CondK_t, CondK_f, contP_some, lk_nil, lk_hit, lk_miss, Nat.reduceBEq, put_some, put_none, ev_t, ev_c, argEnv, reduceIte, Nat.reduceEqDiff, Nat.reduceAdd, Nat.reduceSub, Nat.reduceMul, Nat.reduceLT, Nat.reduceLeDiff, reduceCtorEq, binD, binInt, binStr, eqD, eqCell, eqCells, eqN, boolD, okD, aggD, unD, pickD, chkD, convD, sameD, strD, faddrD, fldD, idxD, extD, lenD, mxD, mnD, sliceD, bndD, sizeD, loadD, fillD, splice, D.cells, D.ok, D.one, D.pt, D.pt1, D.norm1, D.norm, cond_true, cond_false, true_and, and_true, and_self, Bool.true_and, Bool.and_true, Bool.false_and, Bool.and_false, Bool.not_true, Bool.not_false, Bool.true_or, Bool.false_or, Bool.or_true, Bool.or_false, List.getElem?_cons_zero, List.getElem?_cons_succ, List.getElem?_nil, List.length_cons, List.length_nil, List.length_map, List.length_append, List.length_set, List.length_take, List.length_drop, List.take_succ_cons, List.take_zero, List.take_nil, List.drop_succ_cons, List.drop_zero, List.drop_nil, List.cons_append, List.nil_append, List.append_nil, List.map_cons, List.map_nil, List.all_cons, List.all_nil, List.set_cons_zero, List.set_cons_succ, List.isEmpty_cons, List.isEmpty_nil, List.forall_mem_cons, List.not_mem_nil, List.forall_mem_nil, false_imp_iff, implies_true, ne_eq, not_false_eq_true, Option.map_some, Option.map_none, Nat.zero_add, Nat.add_zero, Nat.sub_self, Int.toNat_natCast, Int.reduceToNat, Int.reduceLT, Int.reduceLE, Int.reduceEq, Int.reduceBEq, beq_self_eq_true, Int.reduceNeg, decide_true, decide_false, IntKind.bits, Nat.min_eq_left, Int.reducePow, Nat.reducePow, Int.fdiv_eq_ediv_of_nonneg, Nat.lt_irrefl, Nat.lt_add_one, Nat.zero_lt_succ, capsD_fn, D.sc, D.sc1, D.sc2, resK_nil, resK_tmp, resK_cell, ResC_ptr, ResO_some, ResR_some, ResL_some, ofRes, view, view2, view1, mapO, List.reverse_nil, Option.some.injEq, D.bool.injEq, D.int.injEq, D.str.injEq, D.agg.injEq, D.tup.injEq, D.list.injEq, List.cons.injEq]))
  skip
  · have : ¬ Good b ts := fun h => by have := h.2.2.2 i x (by assumption); omega
    simp [this]
  · have : ¬ Good b ts := fun h => by have := h.2.2.2 i x (by assumption); omega
    simp [this]
  · have : ¬ Good b ts := fun h => by have := h.2.2.2 i x (by assumption); omega
    simp [this]
  · rename_i y hy _ _ _ _
    have e : ((i : Int) - 1).toNat = i - 1 := by omega
    rw [e] at hx
    have : ¬ Good b ts := fun h => by have := (h.2.2.2 i y hy).2.2.2.2 x (by omega) hx; omega
    simp [this]
  · rename_i y hy _ _ _ _ z hz _
    have e : ((i : Int) - 1).toNat = i - 1 := by omega
    rw [e] at hx hz
    have hq := hp (i - 1) (by omega) x hx
    rw [w64 (by omega) (by omega)] at hc
    have e2 : x = z := Option.some.inj (hx.symm.trans hz)
    subst e2
    have : ¬ Good b ts := fun h => by have := (h.2.2.2 i y hy).2.2.2.2 x (by omega) hx; omega
    simp [this]
  · rename_i y hy _ _ _ _ z hz _
    have e : ((i : Int) - 1).toNat = i - 1 := by omega
    rw [e] at hx hz
    have hq := hp (i - 1) (by omega) x hx
    rw [w64 (by omega) (by omega)] at hc
    have e2 : x = z := Option.some.inj (hx.symm.trans hz)
    subst e2
    refine hk ⟨i + 1, by omega, fun k hk => ?_⟩ _ _ (by simp; omega) ?_
    · rcases Nat.lt_or_ge k i with h | h
      · exact hp k h
      · have : k = i := by omega
        subst this
        intro t ht
        rw [ht] at hy; cases hy
        refine ⟨by omega, by omega, by omega, by omega, fun u h0 hu => ?_⟩
        rw [hx] at hu; cases hu
        omega
    · refine Ent_gc [0] (by simp) (by simp) ⟨by simp [D.renL, D.ren], by simp [D.fitL, D.fit]⟩ (by simp [lk_hit, lk_miss, D.ren, D.renL, D.fit, D.fitL])
  · refine hk ⟨i + 1, by omega, fun k hk => ?_⟩ _ _ (by simp; omega) ?_
    · have : k = i := by omega
      subst this
      intro t ht
      rw [ht] at hx; cases hx
      exact ⟨by omega, by omega, by omega, by omega, fun u h0 hu => by omega⟩
    · refine Ent_gc [0] (by simp) (by simp) ⟨by simp [D.renL, D.ren], by simp [D.fitL, D.fit]⟩ (by simp [lk_hit, lk_miss, D.ren, D.renL, D.fit, D.fitL])
  · have : Good b ts := ⟨by omega, by omega, by omega, fun k => by
      rcases Nat.lt_or_ge k i with h | h
      · exact hp k h
      · intro t ht
        have := (List.getElem?_eq_some_iff.1 ht).1
        omega⟩
    simp [this]
end Go.Proofs.Ytefpjijokdplfaa
