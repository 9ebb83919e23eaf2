import Derived.Test.YtefpjijokdplfaaZ5
set_option linter.unusedVariables false
set_option linter.unusedSimpArgs false
namespace Go.Proofs.Ytefpjijokdplfaa
open Go Go.Vi


theorem bh_mono {ts : List T} {u v : Int} (h : u ≤ v) : bh ts u ≤ bh ts v :=
  List.countP_mono_left fun t _ ht => by simp at ht ⊢; omega

/-- The minutes that fit, one count of turns after the other: the first one, and how many. -/
def scan (b : Int) (ts : List T) (l : Int) : Nat → Nat → Int × Nat → Int × Nat
  | _, 0, s => s
  | n, k + 1, s => scan b ts l (n + 1) k (if bh ts (l - addO b ts n) = n then (if s.2 = 0 then l - addO b ts n else s.1, s.2 + 1) else s)

def scanL (b : Int) (ts : List T) (l : Int) : Int × Nat := scan b ts l (bh ts (l - 901)) (bh ts (l + 901) + 1 - bh ts (l - 901)) (0, 0)
def atU (b : Int) (ts : List T) (l : Int) : Int := if (scanL b ts l).2 = 0 then gapR b ts l (bh ts (l - 901)) (bh ts (l - 901)) (bh ts (l + 901) - bh ts (l - 901)) else (scanL b ts l).1
def kindU (b : Int) (ts : List T) (l : Int) : Int := if (scanL b ts l).2 = 0 then 1 else if (scanL b ts l).2 = 2 then 2 else 0

def okU (b : Int) (ts : List T) (l : Int) : Prop := Good b ts ∧ -900 ≤ l ∧ l ≤ 158311620 ∧ 0 ≤ atU b ts l ∧ atU b ts l ≤ 158310720

open Classical in
noncomputable def utcD (b : Int) (ts : List T) (l : Int) : D := if okU b ts l then .tup [.int .i64 (atU b ts l), .int .i64 (kindU b ts l), .bool true] else .tup [.int .i64 0, .int .i64 0, .bool false]

set_option maxHeartbeats 2000000 in
open Classical in
theorem utc_p (b : Int) (ts : List T) (l : Int) (hl : ts.length ≤ 9223372036854775807) : PureD Try.prog 8 [encZ b ts, .int .i64 l] (utcD b ts l) := by
  refine pureV Try.func8 low8 (by simp [c8]) ?_
  simp only [c8, encZ]
  repeat' ((first | refine Run_seq ?_ | refine Run_skip ?_ | refine Run_block ?_ | refine Run_blk ?_ | refine Run_exit rfl ?_ | refine Run_ret ?_ | refine Run_nil ?_ | refine Run_condK ?_ | refine Run_ops mixed ?_ | with_reducible refine PostV_open ?_ | with_reducible refine ro_callV ?_ | refine CallV_pure (may_p _ _ hl) ?_ ?_ | simp (disch := omega) only [w64, wu64, wu32, wu16, wu8] | (refine GuardK_split (fun hc => ?_) (fun hc => ?_) <;> (try simp only [hc]) <;> (try simp at hc)) | (refine CondK_split (fun hc => ?_) (fun hc => ?_) <;> (try simp only [hc]) <;> (try simp at hc)) | (with_reducible refine And.intro ?_ ?_; (focus (first | exact trivial | assumption | (simp; done) | (simp only [List.length_map] at *; omega) | omega | (simp [D.cells, D.ok, D.one, D.pt, D.pt1]; done)))) | (with_reducible intro x hx)) <;> (try simp only [encT, encZ, ro_nil, ro_mov, ro_mkfn, ro_pick, ro_build, ro_slit, ro_chk, ro_bin, ro_eq, ro_un, ro_conv, ro_same, ro_b2s, ro_faddr, ro_fld, ro_idx, ro_ext, ro_len, ro_mx, ro_mn, ro_slice, ro_load, LoadK_elt, LoadK_ptr, LoadO_some, LoadR_some, LoadR_map, ro_box, ro_alloc, ro_store, StoreK_ptr, StoreO_some, StoreR_some, ro_iaddr, IaddrK_list, IaddrK_own, IaddrR_some, IaddrR_map, ro_app, AppK_nil, AppK_own, AppO_some, ro_guard, GuardK_tt, GuardK_no, GuardK_ff, GuardK_tf, GuardK_ft, CondK_t, CondK_f, contP_some, lk_nil, lk_hit, lk_miss, Nat.reduceBEq, put_some, put_none, ev_t, ev_c, argEnv, reduceIte, Nat.reduceEqDiff, Nat.reduceAdd, Nat.reduceSub, Nat.reduceMul, Nat.reduceLT, Nat.reduceLeDiff, reduceCtorEq, binD, binInt, binStr, eqD, eqCell, eqCells, eqN, boolD, okD, aggD, unD, pickD, chkD, convD, sameD, strD, faddrD, fldD, idxD, extD, lenD, mxD, mnD, sliceD, bndD, sizeD, loadD, fillD, splice, D.cells, D.ok, D.one, D.pt, D.pt1, D.norm1, D.norm, cond_true, cond_false, true_and, and_true, and_self, Bool.true_and, Bool.and_true, Bool.false_and, Bool.and_false, Bool.not_true, Bool.not_false, Bool.true_or, Bool.false_or, Bool.or_true, Bool.or_false, List.getElem?_cons_zero, List.getElem?_cons_succ, List.getElem?_nil, List.length_cons, List.length_nil, List.length_map, List.length_append, List.length_set, List.length_take, List.length_drop, List.take_succ_cons, List.take_zero, List.take_nil, List.drop_succ_cons, List.drop_zero, List.drop_nil, List.cons_append, List.nil_append, List.append_nil, List.map_cons, List.map_nil, List.all_cons, List.all_nil, List.set_cons_zero, List.set_cons_succ, List.isEmpty_cons, List.isEmpty_nil, List.forall_mem_cons, List.not_mem_nil, List.forall_mem_nil, false_imp_iff, implies_true, ne_eq, not_false_eq_true, Option.map_some, Option.map_none, Nat.zero_add, Nat.add_zero, Nat.sub_self, Int.toNat_natCast, Int.reduceToNat, Int.reduceLT, Int.reduceLE, Int.reduceEq, Int.reduceBEq, beq_self_eq_true, Int.reduceNeg, decide_true, decide_false, IntKind.bits, Nat.min_eq_left, Int.reducePow, Nat.reducePow, Int.fdiv_eq_ediv_of_nonneg, Nat.lt_irrefl, Nat.lt_add_one, Nat.zero_lt_succ, capsD_fn, D.sc, D.sc1, D.sc2, resK_nil, resK_tmp, resK_cell, ResC_ptr, ResO_some, ResR_some, ResL_some, ofRes, view, view2, view1, mapO, List.reverse_nil, Option.some.injEq, D.bool.injEq, D.int.injEq, D.str.injEq, D.agg.injEq, D.tup.injEq, D.list.injEq, List.cons.injEq]))
  · skip
    have : ¬ okU b ts l := fun h => hc h.1
    simp [utcD, this]
  · skip
    have : ¬ okU b ts l := fun h => by have := h.2; omega
    simp [utcD, this]
  · skip
    have : ¬ okU b ts l := fun h => by have := h.2; omega
    simp [utcD, this]
  rename_i hg _
  repeat' ((first | refine Run_seq ?_ | refine Run_skip ?_ | refine Run_block ?_ | refine Run_blk ?_ | refine Run_exit rfl ?_ | refine Run_ret ?_ | refine Run_nil ?_ | refine Run_condK ?_ | refine Run_ops mixed ?_ | with_reducible refine PostV_open ?_ | with_reducible refine ro_callV ?_ | refine CallV_pure (behind_p _ _ _ hg.2.2.1 hg.asc) ?_ ?_ | simp (disch := omega) only [w64, wu64, wu32, wu16, wu8] | (refine GuardK_split (fun hc => ?_) (fun hc => ?_) <;> (try simp only [hc]) <;> (try simp at hc)) | (refine CondK_split (fun hc => ?_) (fun hc => ?_) <;> (try simp only [hc]) <;> (try simp at hc)) | (with_reducible refine And.intro ?_ ?_; (focus (first | exact trivial | assumption | (simp; done) | (simp only [List.length_map] at *; omega) | omega | (simp [D.cells, D.ok, D.one, D.pt, D.pt1]; done)))) | (with_reducible intro x hx)) <;> (try simp only [encT, encZ, ro_nil, ro_mov, ro_mkfn, ro_pick, ro_build, ro_slit, ro_chk, ro_bin, ro_eq, ro_un, ro_conv, ro_same, ro_b2s, ro_faddr, ro_fld, ro_idx, ro_ext, ro_len, ro_mx, ro_mn, ro_slice, ro_load, LoadK_elt, LoadK_ptr, LoadO_some, LoadR_some, LoadR_map, ro_box, ro_alloc, ro_store, StoreK_ptr, StoreO_some, StoreR_some, ro_iaddr, IaddrK_list, IaddrK_own, IaddrR_some, IaddrR_map, ro_app, AppK_nil, AppK_own, AppO_some, ro_guard, GuardK_tt, GuardK_no, GuardK_ff, GuardK_tf, GuardK_ft, CondK_t, CondK_f, contP_some, lk_nil, lk_hit, lk_miss, Nat.reduceBEq, put_some, put_none, ev_t, ev_c, argEnv, reduceIte, Nat.reduceEqDiff, Nat.reduceAdd, Nat.reduceSub, Nat.reduceMul, Nat.reduceLT, Nat.reduceLeDiff, reduceCtorEq, binD, binInt, binStr, eqD, eqCell, eqCells, eqN, boolD, okD, aggD, unD, pickD, chkD, convD, sameD, strD, faddrD, fldD, idxD, extD, lenD, mxD, mnD, sliceD, bndD, sizeD, loadD, fillD, splice, D.cells, D.ok, D.one, D.pt, D.pt1, D.norm1, D.norm, cond_true, cond_false, true_and, and_true, and_self, Bool.true_and, Bool.and_true, Bool.false_and, Bool.and_false, Bool.not_true, Bool.not_false, Bool.true_or, Bool.false_or, Bool.or_true, Bool.or_false, List.getElem?_cons_zero, List.getElem?_cons_succ, List.getElem?_nil, List.length_cons, List.length_nil, List.length_map, List.length_append, List.length_set, List.length_take, List.length_drop, List.take_succ_cons, List.take_zero, List.take_nil, List.drop_succ_cons, List.drop_zero, List.drop_nil, List.cons_append, List.nil_append, List.append_nil, List.map_cons, List.map_nil, List.all_cons, List.all_nil, List.set_cons_zero, List.set_cons_succ, List.isEmpty_cons, List.isEmpty_nil, List.forall_mem_cons, List.not_mem_nil, List.forall_mem_nil, false_imp_iff, implies_true, ne_eq, not_false_eq_true, Option.map_some, Option.map_none, Nat.zero_add, Nat.add_zero, Nat.sub_self, Int.toNat_natCast, Int.reduceToNat, Int.reduceLT, Int.reduceLE, Int.reduceEq, Int.reduceBEq, beq_self_eq_true, Int.reduceNeg, decide_true, decide_false, IntKind.bits, Nat.min_eq_left, Int.reducePow, Nat.reducePow, Int.fdiv_eq_ediv_of_nonneg, Nat.lt_irrefl, Nat.lt_add_one, Nat.zero_lt_succ, capsD_fn, D.sc, D.sc1, D.sc2, resK_nil, resK_tmp, resK_cell, ResC_ptr, ResO_some, ResR_some, ResL_some, ofRes, view, view2, view1, mapO, List.reverse_nil, Option.some.injEq, D.bool.injEq, D.int.injEq, D.str.injEq, D.agg.injEq, D.tup.injEq, D.list.injEq, List.cons.injEq]))
  have e1 : l - 900 - 1 = l - 901 := by omega
  have e2 : l + 900 + 1 = l + 901 := by omega
  simp only [e1, e2]
  have hlh : bh ts (l - 901) ≤ bh ts (l + 901) := bh_mono (by omega)
  have hh := @bh_le ts (l + 901)
  have h7 := hg.2.2.1
  generalize hlo : bh ts (l - 901) = lo at *
  generalize hhi : bh ts (l + 901) = hi at *
  refine Run_loop (ι := {p : Nat × Int × Nat // lo ≤ p.1 ∧ p.1 ≤ hi + 1 ∧ p.2.2 ≤ p.1 - lo ∧ scan b ts l p.1 (hi + 1 - p.1) p.2 = scanL b ts l})
    (fun i => ([(1, .int .i64 l), (2, .ptr 0 0 0 1), (7, .int .i64 lo), (8, .int .i64 hi), (9, .int .i64 0), (10, .int .i64 i.1.2.2), (11, .int .i64 i.1.2.1), (12, .int .i64 i.1.1)], [⟨true, false, true, false, 2, [[.int .i64 b, .list none false (ts.map encT)]]⟩]))
    (fun i => hi + 1 - i.1.1) ⟨(lo, 0, 0), by simp, by simp; omega, by simp, by simp [scanL, hlo, hhi]⟩ ?_ ?_
  · refine Ent_gc [0] (by simp) (by simp) ⟨by simp [D.renL, D.ren], by simp [D.fitL, D.fit]⟩ (by simp [lk_hit, lk_miss, D.ren, D.renL, D.fit, D.fitL])
  rintro ⟨⟨n, a, m⟩, hi1, hi2, hi4, hi3⟩ hk
  dsimp only at hi1 hi2 hi3 hi4 hk ⊢
  repeat' ((first | refine Run_seq ?_ | refine Run_skip ?_ | refine Run_block ?_ | refine Run_blk ?_ | refine Run_exit rfl ?_ | refine Run_ret ?_ | refine Run_nil ?_ | refine Run_condK ?_ | refine Run_ops mixed ?_ | with_reducible refine PostV_open ?_ | with_reducible refine ro_callV ?_ | refine CallV_pure (from_p b ts l n hg (by omega) (by omega) (by omega)) ?_ ?_ | refine CallV_pure (gap_p b ts l lo hi hg (by omega) (by omega) (by omega) (by omega)) ?_ ?_ | refine CallV_pure (in_p _) ?_ ?_ | simp (disch := omega) only [w64, wu64, wu32, wu16, wu8] | (refine GuardK_split (fun hc => ?_) (fun hc => ?_) <;> (try simp only [hc]) <;> (try simp at hc)) | (refine CondK_split (fun hc => ?_) (fun hc => ?_) <;> (try simp only [hc]) <;> (try simp at hc)) | (with_reducible refine And.intro ?_ ?_; (focus (first | exact trivial | assumption | (simp; done) | (simp only [List.length_map] at *; omega) | omega | (simp [D.cells, D.ok, D.one, D.pt, D.pt1]; done)))) | (with_reducible intro x hx)) <;> (try simp only [encT, encZ, ro_nil, ro_mov, ro_mkfn, ro_pick, ro_build, ro_slit, ro_chk, ro_bin, ro_eq, ro_un, ro_conv, ro_same, ro_b2s, ro_faddr, ro_fld, ro_idx, ro_ext, ro_len, ro_mx, ro_mn, ro_slice, ro_load, LoadK_elt, LoadK_ptr, LoadO_some, LoadR_some, LoadR_map, ro_box, ro_alloc, ro_store, StoreK_ptr, StoreO_some, StoreR_some, ro_iaddr, IaddrK_list, IaddrK_own, IaddrR_some, IaddrR_map, ro_app, AppK_nil, AppK_own, AppO_some, ro_guard, GuardK_tt, GuardK_no, GuardK_ff, GuardK_tf, GuardK_ft, CondK_t, CondK_f, contP_some, lk_nil, lk_hit, lk_miss, Nat.reduceBEq, put_some, put_none, ev_t, ev_c, argEnv, reduceIte, Nat.reduceEqDiff, Nat.reduceAdd, Nat.reduceSub, Nat.reduceMul, Nat.reduceLT, Nat.reduceLeDiff, reduceCtorEq, binD, binInt, binStr, eqD, eqCell, eqCells, eqN, boolD, okD, aggD, unD, pickD, chkD, convD, sameD, strD, faddrD, fldD, idxD, extD, lenD, mxD, mnD, sliceD, bndD, sizeD, loadD, fillD, splice, D.cells, D.ok, D.one, D.pt, D.pt1, D.norm1, D.norm, cond_true, cond_false, true_and, and_true, and_self, Bool.true_and, Bool.and_true, Bool.false_and, Bool.and_false, Bool.not_true, Bool.not_false, Bool.true_or, Bool.false_or, Bool.or_true, Bool.or_false, List.getElem?_cons_zero, List.getElem?_cons_succ, List.getElem?_nil, List.length_cons, List.length_nil, List.length_map, List.length_append, List.length_set, List.length_take, List.length_drop, List.take_succ_cons, List.take_zero, List.take_nil, List.drop_succ_cons, List.drop_zero, List.drop_nil, List.cons_append, List.nil_append, List.append_nil, List.map_cons, List.map_nil, List.all_cons, List.all_nil, List.set_cons_zero, List.set_cons_succ, List.isEmpty_cons, List.isEmpty_nil, List.forall_mem_cons, List.not_mem_nil, List.forall_mem_nil, false_imp_iff, implies_true, ne_eq, not_false_eq_true, Option.map_some, Option.map_none, Nat.zero_add, Nat.add_zero, Nat.sub_self, Int.toNat_natCast, Int.reduceToNat, Int.reduceLT, Int.reduceLE, Int.reduceEq, Int.reduceBEq, beq_self_eq_true, Int.reduceNeg, decide_true, decide_false, IntKind.bits, Nat.min_eq_left, Int.reducePow, Nat.reducePow, Int.fdiv_eq_ediv_of_nonneg, Nat.lt_irrefl, Nat.lt_add_one, Nat.zero_lt_succ, capsD_fn, D.sc, D.sc1, D.sc2, resK_nil, resK_tmp, resK_cell, ResC_ptr, ResO_some, ResR_some, ResL_some, ofRes, view, view2, view1, mapO, List.reverse_nil, Option.some.injEq, D.bool.injEq, D.int.injEq, D.str.injEq, D.agg.injEq, D.tup.injEq, D.list.injEq, List.cons.injEq]))
  · rename_i h1 h2
    refine hk ⟨(n + 1, l - addO b ts n, m + 1), by simp; omega, by simp; omega, by simp; omega, ?_⟩ _ _ (by simp; omega) ?_
    · rw [← hi3, show hi + 1 - n = (hi + 1 - (n + 1)) + 1 by omega]
      simp only [scan]
      rw [if_pos h2, if_pos hc]
    · refine Ent_gc [0] (by simp) (by simp) ⟨by simp [D.renL, D.ren], by simp [D.fitL, D.fit]⟩ (by simp [lk_hit, lk_miss, D.ren, D.renL, D.fit, D.fitL])
  · rename_i h1 h2
    refine hk ⟨(n + 1, a, m + 1), by simp; omega, by simp; omega, by simp; omega, ?_⟩ _ _ (by simp; omega) ?_
    · rw [← hi3, show hi + 1 - n = (hi + 1 - (n + 1)) + 1 by omega]
      simp only [scan]
      rw [if_pos h2, if_neg hc]
    · refine Ent_gc [0] (by simp) (by simp) ⟨by simp [D.renL, D.ren], by simp [D.fitL, D.fit]⟩ (by simp [lk_hit, lk_miss, D.ren, D.renL, D.fit, D.fitL])
  · refine hk ⟨(n + 1, a, m), by simp; omega, by simp; omega, by simp; omega, ?_⟩ _ _ (by simp; omega) ?_
    · rw [← hi3, show hi + 1 - n = (hi + 1 - (n + 1)) + 1 by omega]
      simp only [scan]
      rw [if_neg hc]
    · refine Ent_gc [0] (by simp) (by simp) ⟨by simp [D.renL, D.ren], by simp [D.fitL, D.fit]⟩ (by simp [lk_hit, lk_miss, D.ren, D.renL, D.fit, D.fitL])
  skip
  all_goals have hs : scanL b ts l = (a, m) := by rw [← hi3, show hi + 1 - n = 0 by omega]; rfl
  · rename_i hm
    have ha : atU b ts l = gapR b ts l lo lo (hi - lo) := by simp [atU, hs, hlo, hhi, hm]
    have : ¬ okU b ts l := fun h => by have := h.2.2.2; rw [ha] at this; omega
    simp [utcD, this]
  · rename_i hm
    have ha : atU b ts l = gapR b ts l lo lo (hi - lo) := by simp [atU, hs, hlo, hhi, hm]
    have hk' : kindU b ts l = 1 := by simp [kindU, hs, hm]
    have : okU b ts l := ⟨hg, by omega, by omega, by rw [ha]; omega, by rw [ha]; omega⟩
    simp [utcD, this, ha, hk']
  · have ha : atU b ts l = a := by simp only [atU, hs]; rw [if_neg (by omega)]
    have : ¬ okU b ts l := fun h => by have := h.2.2.2; rw [ha] at this; omega
    simp [utcD, this]
  · have ha : atU b ts l = a := by simp only [atU, hs]; rw [if_neg (by omega)]
    have hk' : kindU b ts l = 2 := by simp only [kindU, hs]; rw [if_neg (by omega), if_pos (by omega)]
    have : okU b ts l := ⟨hg, by omega, by omega, by rw [ha]; omega, by rw [ha]; omega⟩
    simp [utcD, this, ha, hk']
  · have ha : atU b ts l = a := by simp only [atU, hs]; rw [if_neg (by omega)]
    have : ¬ okU b ts l := fun h => by have := h.2.2.2; rw [ha] at this; omega
    simp [utcD, this]
  · have ha : atU b ts l = a := by simp only [atU, hs]; rw [if_neg (by omega)]
    have hk' : kindU b ts l = 0 := by simp only [kindU, hs]; rw [if_neg (by omega), if_neg (by omega)]
    have : okU b ts l := ⟨hg, by omega, by omega, by rw [ha]; omega, by rw [ha]; omega⟩
    simp [utcD, this, ha, hk']
end Go.Proofs.Ytefpjijokdplfaa
