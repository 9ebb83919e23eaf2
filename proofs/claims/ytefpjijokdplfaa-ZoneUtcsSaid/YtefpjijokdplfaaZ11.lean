import Derived.Test.YtefpjijokdplfaaZ10
set_option linter.unusedVariables false
set_option linter.unusedSimpArgs false
namespace Go.Proofs.Ytefpjijokdplfaa
open Go Go.Vi


/-- The minutes that fit, one after the other: the first one, and how many. -/
def sc (f : Int → Bool) : Nat → Int → Int × Nat → Int × Nat
  | 0, _, s => s
  | k + 1, u, s => sc f k (u + 1) (if f u then (if s.2 = 0 then u else s.1, s.2 + 1) else s)
def hitR (b : Int) (ts : List T) (l : Int) (u : Int) : Bool := decide (u + addO b ts (bh ts u) = l)
def scR (b : Int) (ts : List T) (l : Int) : Int × Nat := sc (hitR b ts l) 1801 (l - 900) (0, 0)
def atT (ts : List T) (i : Nat) : Int := ((ts[i]?).map T.at').getD 0
/-- The jumps, one turn after the other. -/
def sgR (b : Int) (ts : List T) (l : Int) (m : Nat) : Nat → Nat → Int → Int
  | 0, _, a => a
  | k + 1, i, a => sgR b ts l m k (i + 1) (if m = 0 ∧ atT ts i + addO b ts i ≤ l ∧ l < atT ts i + addO b ts (i + 1) then l - addO b ts i else a)
def atR (b : Int) (ts : List T) (l : Int) : Int := sgR b ts l (scR b ts l).2 ts.length 0 (scR b ts l).1
def kindR (b : Int) (ts : List T) (l : Int) : Int := if 1 < (scR b ts l).2 then 2 else if 0 < (scR b ts l).2 then 0 else 1
def okR (b : Int) (ts : List T) (l : Int) : Prop := Good b ts ∧ -900 ≤ l ∧ l ≤ 158311620 ∧ 0 ≤ atR b ts l ∧ atR b ts l ≤ 158310720
open Classical in
noncomputable def rutcD (b : Int) (ts : List T) (l : Int) : D := if okR b ts l then .agg [.int .i64 (atR b ts l), .int .i64 (kindR b ts l), .bool false] else .agg [.int .i64 0, .int .i64 0, .bool true]

theorem atT_le {b : Int} {ts : List T} (hg : Good b ts) (i : Nat) : 0 ≤ atT ts i ∧ atT ts i ≤ 158310720 := by
  simp only [atT]
  cases ht : ts[i]? with
  | none => simp
  | some t => have := hg.2.2.2 i t ht; simp; omega

set_option maxHeartbeats 4000000 in
open Classical in
theorem ph2 (b : Int) (ts : List T) (l : Int) (hg : Good b ts) (h1 : -900 ≤ l) (h2 : l ≤ 158311620) (kd a : Int) (m : Nat) (hs : scR b ts l = (a, m)) (hkd : kindR b ts l = kd) :
    Run Try.prog 113 [] [.code c9_67, .blk 2, .code c9_80] (PostV [RL.cell 4 (some 3)] (rutcD b ts l))
      [(1, .int .i64 l), (2, .ptr 0 0 0 1), (4, .ptr 1 0 0 1), (5, .ptr 2 0 0 1), (6, .int .i64 m), (52, .int .i64 ts.length), (53, .int .i64 0)]
      [⟨true, false, true, false, 2, [[.int .i64 b, .list none false (ts.map encT)]]⟩, ⟨true, false, true, false, 3, [[.int .i64 0, .int .i64 0, .bool false]]⟩, ⟨true, false, true, false, 3, [[.int .i64 a, .int .i64 kd, .bool false]]⟩] := by
  have hl := hg.2.2.1
  refine Run_loop (ι := {p : Nat × Int // p.1 ≤ ts.length ∧ sgR b ts l m (ts.length - p.1) p.1 p.2 = atR b ts l})
    (fun i => ([(1, .int .i64 l), (2, .ptr 0 0 0 1), (4, .ptr 1 0 0 1), (5, .ptr 2 0 0 1), (6, .int .i64 m), (52, .int .i64 ts.length), (53, .int .i64 i.1.1)],
      [⟨true, false, true, false, 2, [[.int .i64 b, .list none false (ts.map encT)]]⟩, ⟨true, false, true, false, 3, [[.int .i64 0, .int .i64 0, .bool false]]⟩, ⟨true, false, true, false, 3, [[.int .i64 i.1.2, .int .i64 kd, .bool false]]⟩]))
    (fun i => ts.length - i.1.1) ⟨(0, a), by simp, by simp [atR, hs]⟩ ?_ ?_
  · refine Ent_gc [0, 1, 2] (by simp) (by simp) ⟨by simp [D.renL, D.ren], by simp [D.fitL, D.fit]⟩ (by simp [lk_hit, lk_miss, D.ren, D.renL, D.fit, D.fitL])
  rintro ⟨⟨i, c⟩, hi, hi3⟩ hk
  dsimp only at hi hi3 hk ⊢
  by_cases hlt : i < ts.length
  · obtain ⟨x, hx⟩ : ∃ x, ts[i]? = some x := ⟨_, List.getElem?_eq_getElem hlt⟩
    have rx := hg.2.2.2 i x hx
    have ex : atT ts i = x.at' := by simp only [atT, hx, Option.map_some, Option.getD_some]
    have ey : addO b ts (i + 1) = x.off := by simp only [addO, hx, Option.map_some, Option.getD_some]
    rw [show ts.length - i = (ts.length - (i + 1)) + 1 by omega] at hi3
    simp only [sgR, ex, ey] at hi3
    rcases i with _ | n
    · have e0 : addO b ts 0 = b := rfl
      rw [e0] at hi3
      have := hg.1
      have := hg.2.1
      have hd : decide (((0 : Nat) : Int) < (ts.length : Int)) = true := decide_eq_true (by omega)
      repeat' ((first | refine Run_seq ?_ | refine Run_skip ?_ | refine Run_block ?_ | refine Run_blk ?_ | refine Run_exit rfl ?_ | refine Run_ret ?_ | refine Run_nil ?_ | refine Run_condK ?_ | refine Run_ops mixed ?_ | with_reducible refine PostV_open ?_ | with_reducible refine ro_callV ?_ | simp (disch := omega) only [w64, wu64, wu32, wu16, wu8] | (refine GuardK_split (fun hc => ?_) (fun hc => ?_) <;> (try simp only [hc]) <;> (try simp at hc)) | (refine CondK_split (fun hc => ?_) (fun hc => ?_) <;> (try simp only [hc]) <;> (try simp at hc)) | (with_reducible refine And.intro ?_ ?_; (focus (first | exact trivial | assumption | (simp; done) | (simp only [List.length_map] at *; omega) | omega | (simp [D.cells, D.ok, D.one, D.pt, D.pt1]; done)))) | (with_reducible intro x hx)) <;> (try simp only [encT, encZ, List.getElem?_map, hx, hd, ro_nil, ro_mov, ro_mkfn, ro_pick, ro_build, ro_slit, ro_chk, ro_bin, ro_eq, ro_un, ro_conv, ro_same, ro_b2s, ro_faddr, ro_fld, ro_idx, ro_ext, ro_len, ro_mx, ro_mn, ro_slice, ro_load, LoadK_elt, LoadK_ptr, LoadO_some, LoadR_some, LoadR_map, ro_box, ro_alloc, ro_store, StoreK_ptr, StoreO_some, StoreR_some, ro_iaddr, IaddrK_list, IaddrK_own, IaddrR_some, IaddrR_map, ro_app, AppK_nil, AppK_own, AppO_some, ro_guard, GuardK_tt, GuardK_no, GuardK_ff, GuardK_tf, GuardK_ft, CondK_t, CondK_f, contP_some, lk_nil, lk_hit, lk_miss, Nat.reduceBEq, put_some, put_none, ev_t, ev_c, argEnv, reduceIte, Nat.reduceEqDiff, Nat.reduceAdd, Nat.reduceSub, Nat.reduceMul, Nat.reduceLT, Nat.reduceLeDiff, reduceCtorEq, binD, binInt, binStr, eqD, eqCell, eqCells, eqN, boolD, okD, aggD, unD, pickD, chkD, convD, sameD, strD, faddrD, fldD, idxD, extD, lenD, mxD, mnD, sliceD, bndD, sizeD, loadD, fillD, splice, D.cells, D.ok, D.one, D.pt, D.pt1, D.norm1, D.norm, cond_true, cond_false, true_and, and_true, and_self, Bool.true_and, Bool.and_true, Bool.false_and, Bool.and_false, Bool.not_true, Bool.not_false, Bool.true_or, Bool.false_or, Bool.or_true, Bool.or_false, List.getElem?_cons_zero, List.getElem?_cons_succ, List.getElem?_nil, List.length_cons, List.length_nil, List.length_map, List.length_append, List.length_set, List.length_take, List.length_drop, List.take_succ_cons, List.take_zero, List.take_nil, List.drop_succ_cons, List.drop_zero, List.drop_nil, List.cons_append, List.nil_append, List.append_nil, List.map_cons, List.map_nil, List.all_cons, List.all_nil, List.set_cons_zero, List.set_cons_succ, List.isEmpty_cons, List.isEmpty_nil, List.forall_mem_cons, List.not_mem_nil, List.forall_mem_nil, false_imp_iff, implies_true, ne_eq, not_false_eq_true, Option.map_some, Option.map_none, Nat.zero_add, Nat.add_zero, Nat.sub_self, Int.toNat_natCast, Int.reduceToNat, Int.reduceLT, Int.reduceLE, Int.reduceEq, Int.reduceBEq, beq_self_eq_true, Int.reduceNeg, decide_true, decide_false, IntKind.bits, Nat.min_eq_left, Int.reducePow, Nat.reducePow, Int.fdiv_eq_ediv_of_nonneg, Nat.lt_irrefl, Nat.lt_add_one, Nat.zero_lt_succ, capsD_fn, D.sc, D.sc1, D.sc2, resK_nil, resK_tmp, resK_cell, ResC_ptr, ResO_some, ResR_some, ResL_some, ofRes, view, view2, view1, mapO, List.reverse_nil, Option.some.injEq, D.bool.injEq, D.int.injEq, D.str.injEq, D.agg.injEq, D.tup.injEq, D.list.injEq, List.cons.injEq]))
      all_goals first
        | (rw [if_pos ⟨by omega, by omega, by omega⟩] at hi3; refine hk ⟨(0 + 1, l - b), by simp; omega, by simpa using hi3⟩ _ _ (by simp; omega) ?_; refine Ent_gc [0, 1, 2] (by simp) (by simp) ⟨by simp [D.renL, D.ren], by simp [D.fitL, D.fit]⟩ (by simp [lk_hit, lk_miss, D.ren, D.renL, D.fit, D.fitL]))
        | (rw [if_neg (by omega)] at hi3; refine hk ⟨(0 + 1, c), by simp; omega, by simpa using hi3⟩ _ _ (by simp; omega) ?_; refine Ent_gc [0, 1, 2] (by simp) (by simp) ⟨by simp [D.renL, D.ren], by simp [D.fitL, D.fit]⟩ (by simp [lk_hit, lk_miss, D.ren, D.renL, D.fit, D.fitL]))
    · have hy : ∃ y, ts[(((n + 1 : Nat) : Int) - 1).toNat]? = some y := ⟨_, List.getElem?_eq_getElem (by omega)⟩
      obtain ⟨y, hy⟩ := hy
      have hy' : ts[n]? = some y := by have h := hy; rw [show (((n + 1 : Nat) : Int) - 1).toNat = n by omega] at h; exact h
      have ry := hg.2.2.2 n y hy'
      have e0 : addO b ts (n + 1) = y.off := by simp only [addO, hy', Option.map_some, Option.getD_some]
      rw [e0] at hi3
      have hd : decide (((n + 1 : Nat) : Int) < (ts.length : Int)) = true := decide_eq_true (by omega)
      repeat' ((first | refine Run_seq ?_ | refine Run_skip ?_ | refine Run_block ?_ | refine Run_blk ?_ | refine Run_exit rfl ?_ | refine Run_ret ?_ | refine Run_nil ?_ | refine Run_condK ?_ | refine Run_ops mixed ?_ | with_reducible refine PostV_open ?_ | with_reducible refine ro_callV ?_ | simp (disch := omega) only [w64, wu64, wu32, wu16, wu8] | (refine GuardK_split (fun hc => ?_) (fun hc => ?_) <;> (try simp only [hc]) <;> (try simp at hc)) | (refine CondK_split (fun hc => ?_) (fun hc => ?_) <;> (try simp only [hc]) <;> (try simp at hc)) | (with_reducible refine And.intro ?_ ?_; (focus (first | exact trivial | assumption | (simp; done) | (simp only [List.length_map] at *; omega) | omega | (simp [D.cells, D.ok, D.one, D.pt, D.pt1]; done)))) | (with_reducible intro x hx)) <;> (try simp only [encT, encZ, List.getElem?_map, hx, hy, hd, ro_nil, ro_mov, ro_mkfn, ro_pick, ro_build, ro_slit, ro_chk, ro_bin, ro_eq, ro_un, ro_conv, ro_same, ro_b2s, ro_faddr, ro_fld, ro_idx, ro_ext, ro_len, ro_mx, ro_mn, ro_slice, ro_load, LoadK_elt, LoadK_ptr, LoadO_some, LoadR_some, LoadR_map, ro_box, ro_alloc, ro_store, StoreK_ptr, StoreO_some, StoreR_some, ro_iaddr, IaddrK_list, IaddrK_own, IaddrR_some, IaddrR_map, ro_app, AppK_nil, AppK_own, AppO_some, ro_guard, GuardK_tt, GuardK_no, GuardK_ff, GuardK_tf, GuardK_ft, CondK_t, CondK_f, contP_some, lk_nil, lk_hit, lk_miss, Nat.reduceBEq, put_some, put_none, ev_t, ev_c, argEnv, reduceIte, Nat.reduceEqDiff, Nat.reduceAdd, Nat.reduceSub, Nat.reduceMul, Nat.reduceLT, Nat.reduceLeDiff, reduceCtorEq, binD, binInt, binStr, eqD, eqCell, eqCells, eqN, boolD, okD, aggD, unD, pickD, chkD, convD, sameD, strD, faddrD, fldD, idxD, extD, lenD, mxD, mnD, sliceD, bndD, sizeD, loadD, fillD, splice, D.cells, D.ok, D.one, D.pt, D.pt1, D.norm1, D.norm, cond_true, cond_false, true_and, and_true, and_self, Bool.true_and, Bool.and_true, Bool.false_and, Bool.and_false, Bool.not_true, Bool.not_false, Bool.true_or, Bool.false_or, Bool.or_true, Bool.or_false, List.getElem?_cons_zero, List.getElem?_cons_succ, List.getElem?_nil, List.length_cons, List.length_nil, List.length_map, List.length_append, List.length_set, List.length_take, List.length_drop, List.take_succ_cons, List.take_zero, List.take_nil, List.drop_succ_cons, List.drop_zero, List.drop_nil, List.cons_append, List.nil_append, List.append_nil, List.map_cons, List.map_nil, List.all_cons, List.all_nil, List.set_cons_zero, List.set_cons_succ, List.isEmpty_cons, List.isEmpty_nil, List.forall_mem_cons, List.not_mem_nil, List.forall_mem_nil, false_imp_iff, implies_true, ne_eq, not_false_eq_true, Option.map_some, Option.map_none, Nat.zero_add, Nat.add_zero, Nat.sub_self, Int.toNat_natCast, Int.reduceToNat, Int.reduceLT, Int.reduceLE, Int.reduceEq, Int.reduceBEq, beq_self_eq_true, Int.reduceNeg, decide_true, decide_false, IntKind.bits, Nat.min_eq_left, Int.reducePow, Nat.reducePow, Int.fdiv_eq_ediv_of_nonneg, Nat.lt_irrefl, Nat.lt_add_one, Nat.zero_lt_succ, capsD_fn, D.sc, D.sc1, D.sc2, resK_nil, resK_tmp, resK_cell, ResC_ptr, ResO_some, ResR_some, ResL_some, ofRes, view, view2, view1, mapO, List.reverse_nil, Option.some.injEq, D.bool.injEq, D.int.injEq, D.str.injEq, D.agg.injEq, D.tup.injEq, D.list.injEq, List.cons.injEq]))
      all_goals first
        | (rw [if_pos ⟨by omega, by omega, by omega⟩] at hi3; refine hk ⟨(n + 1 + 1, l - y.off), by simp; omega, by simpa using hi3⟩ _ _ (by simp; omega) ?_; refine Ent_gc [0, 1, 2] (by simp) (by simp) ⟨by simp [D.renL, D.ren], by simp [D.fitL, D.fit]⟩ (by simp [lk_hit, lk_miss, D.ren, D.renL, D.fit, D.fitL]))
        | (rw [if_neg (by omega)] at hi3; refine hk ⟨(n + 1 + 1, c), by simp; omega, by simpa using hi3⟩ _ _ (by simp; omega) ?_; refine Ent_gc [0, 1, 2] (by simp) (by simp) ⟨by simp [D.renL, D.ren], by simp [D.fitL, D.fit]⟩ (by simp [lk_hit, lk_miss, D.ren, D.renL, D.fit, D.fitL]))
  · have hd : decide ((i : Int) < (ts.length : Int)) = false := decide_eq_false (by omega)
    have hat : atR b ts l = c := by rw [← hi3, show ts.length - i = 0 by omega]; rfl
    repeat' ((first | refine Run_seq ?_ | refine Run_skip ?_ | refine Run_block ?_ | refine Run_blk ?_ | refine Run_exit rfl ?_ | refine Run_ret ?_ | refine Run_nil ?_ | refine Run_condK ?_ | refine Run_ops mixed ?_ | with_reducible refine PostV_open ?_ | with_reducible refine ro_callV ?_ | simp (disch := omega) only [w64, wu64, wu32, wu16, wu8] | (refine GuardK_split (fun hc => ?_) (fun hc => ?_) <;> (try simp only [hc]) <;> (try simp at hc)) | (refine CondK_split (fun hc => ?_) (fun hc => ?_) <;> (try simp only [hc]) <;> (try simp at hc)) | (with_reducible refine And.intro ?_ ?_; (focus (first | exact trivial | assumption | (simp; done) | (simp only [List.length_map] at *; omega) | omega | (simp [D.cells, D.ok, D.one, D.pt, D.pt1]; done)))) | (with_reducible intro x hx)) <;> (try simp only [encT, encZ, hd, ro_nil, ro_mov, ro_mkfn, ro_pick, ro_build, ro_slit, ro_chk, ro_bin, ro_eq, ro_un, ro_conv, ro_same, ro_b2s, ro_faddr, ro_fld, ro_idx, ro_ext, ro_len, ro_mx, ro_mn, ro_slice, ro_load, LoadK_elt, LoadK_ptr, LoadO_some, LoadR_some, LoadR_map, ro_box, ro_alloc, ro_store, StoreK_ptr, StoreO_some, StoreR_some, ro_iaddr, IaddrK_list, IaddrK_own, IaddrR_some, IaddrR_map, ro_app, AppK_nil, AppK_own, AppO_some, ro_guard, GuardK_tt, GuardK_no, GuardK_ff, GuardK_tf, GuardK_ft, CondK_t, CondK_f, contP_some, lk_nil, lk_hit, lk_miss, Nat.reduceBEq, put_some, put_none, ev_t, ev_c, argEnv, reduceIte, Nat.reduceEqDiff, Nat.reduceAdd, Nat.reduceSub, Nat.reduceMul, Nat.reduceLT, Nat.reduceLeDiff, reduceCtorEq, binD, binInt, binStr, eqD, eqCell, eqCells, eqN, boolD, okD, aggD, unD, pickD, chkD, convD, sameD, strD, faddrD, fldD, idxD, extD, lenD, mxD, mnD, sliceD, bndD, sizeD, loadD, fillD, splice, D.cells, D.ok, D.one, D.pt, D.pt1, D.norm1, D.norm, cond_true, cond_false, true_and, and_true, and_self, Bool.true_and, Bool.and_true, Bool.false_and, Bool.and_false, Bool.not_true, Bool.not_false, Bool.true_or, Bool.false_or, Bool.or_true, Bool.or_false, List.getElem?_cons_zero, List.getElem?_cons_succ, List.getElem?_nil, List.length_cons, List.length_nil, List.length_map, List.length_append, List.length_set, List.length_take, List.length_drop, List.take_succ_cons, List.take_zero, List.take_nil, List.drop_succ_cons, List.drop_zero, List.drop_nil, List.cons_append, List.nil_append, List.append_nil, List.map_cons, List.map_nil, List.all_cons, List.all_nil, List.set_cons_zero, List.set_cons_succ, List.isEmpty_cons, List.isEmpty_nil, List.forall_mem_cons, List.not_mem_nil, List.forall_mem_nil, false_imp_iff, implies_true, ne_eq, not_false_eq_true, Option.map_some, Option.map_none, Nat.zero_add, Nat.add_zero, Nat.sub_self, Int.toNat_natCast, Int.reduceToNat, Int.reduceLT, Int.reduceLE, Int.reduceEq, Int.reduceBEq, beq_self_eq_true, Int.reduceNeg, decide_true, decide_false, IntKind.bits, Nat.min_eq_left, Int.reducePow, Nat.reducePow, Int.fdiv_eq_ediv_of_nonneg, Nat.lt_irrefl, Nat.lt_add_one, Nat.zero_lt_succ, capsD_fn, D.sc, D.sc1, D.sc2, resK_nil, resK_tmp, resK_cell, ResC_ptr, ResO_some, ResR_some, ResL_some, ofRes, view, view2, view1, mapO, List.reverse_nil, Option.some.injEq, D.bool.injEq, D.int.injEq, D.str.injEq, D.agg.injEq, D.tup.injEq, D.list.injEq, List.cons.injEq]))
    skip
    · have : ¬ okR b ts l := fun h => by have := h.2.2.2; rw [hat] at this; omega
      simp [rutcD, this]
    · have : ¬ okR b ts l := fun h => by have := h.2.2.2; rw [hat] at this; omega
      simp [rutcD, this]
    · have : okR b ts l := ⟨hg, h1, h2, by rw [hat]; omega, by rw [hat]; omega⟩
      simp [rutcD, this, hat, hkd]

set_option maxHeartbeats 4000000 in
open Classical in
theorem rutc_p (b : Int) (ts : List T) (l : Int) (hl : ts.length ≤ 9223372036854775807) : PureD Try.prog 9 [encZ b ts, .int .i64 l] (rutcD b ts l) := by
  refine pureV Try.func9 low9 (by simp [c9]) ?_
  simp only [c9, encZ]
  repeat' ((first | refine Run_seq ?_ | refine Run_skip ?_ | refine Run_block ?_ | refine Run_blk ?_ | refine Run_exit rfl ?_ | refine Run_ret ?_ | refine Run_nil ?_ | refine Run_condK ?_ | refine Run_ops mixed ?_ | with_reducible refine PostV_open ?_ | with_reducible refine ro_callV ?_ | refine CallV_pure (rmay_p _ _ hl) ?_ ?_ | simp (disch := omega) only [w64, wu64, wu32, wu16, wu8] | (refine GuardK_split (fun hc => ?_) (fun hc => ?_) <;> (try simp only [hc]) <;> (try simp at hc)) | (refine CondK_split (fun hc => ?_) (fun hc => ?_) <;> (try simp only [hc]) <;> (try simp at hc)) | (with_reducible refine And.intro ?_ ?_; (focus (first | exact trivial | assumption | (simp; done) | (simp only [List.length_map] at *; omega) | omega | (simp [D.cells, D.ok, D.one, D.pt, D.pt1]; done)))) | (with_reducible intro x hx)) <;> (try simp only [encT, encZ, ro_nil, ro_mov, ro_mkfn, ro_pick, ro_build, ro_slit, ro_chk, ro_bin, ro_eq, ro_un, ro_conv, ro_same, ro_b2s, ro_faddr, ro_fld, ro_idx, ro_ext, ro_len, ro_mx, ro_mn, ro_slice, ro_load, LoadK_elt, LoadK_ptr, LoadO_some, LoadR_some, LoadR_map, ro_box, ro_alloc, ro_store, StoreK_ptr, StoreO_some, StoreR_some, ro_iaddr, IaddrK_list, IaddrK_own, IaddrR_some, IaddrR_map, ro_app, AppK_nil, AppK_own, AppO_some, ro_guard, GuardK_tt, GuardK_no, GuardK_ff, GuardK_tf, GuardK_ft, CondK_t, CondK_f, contP_some, lk_nil, lk_hit, lk_miss, Nat.reduceBEq, put_some, put_none, ev_t, ev_c, argEnv, reduceIte, Nat.reduceEqDiff, Nat.reduceAdd, Nat.reduceSub, Nat.reduceMul, Nat.reduceLT, Nat.reduceLeDiff, reduceCtorEq, binD, binInt, binStr, eqD, eqCell, eqCells, eqN, boolD, okD, aggD, unD, pickD, chkD, convD, sameD, strD, faddrD, fldD, idxD, extD, lenD, mxD, mnD, sliceD, bndD, sizeD, loadD, fillD, splice, D.cells, D.ok, D.one, D.pt, D.pt1, D.norm1, D.norm, cond_true, cond_false, true_and, and_true, and_self, Bool.true_and, Bool.and_true, Bool.false_and, Bool.and_false, Bool.not_true, Bool.not_false, Bool.true_or, Bool.false_or, Bool.or_true, Bool.or_false, List.getElem?_cons_zero, List.getElem?_cons_succ, List.getElem?_nil, List.length_cons, List.length_nil, List.length_map, List.length_append, List.length_set, List.length_take, List.length_drop, List.take_succ_cons, List.take_zero, List.take_nil, List.drop_succ_cons, List.drop_zero, List.drop_nil, List.cons_append, List.nil_append, List.append_nil, List.map_cons, List.map_nil, List.all_cons, List.all_nil, List.set_cons_zero, List.set_cons_succ, List.isEmpty_cons, List.isEmpty_nil, List.forall_mem_cons, List.not_mem_nil, List.forall_mem_nil, false_imp_iff, implies_true, ne_eq, not_false_eq_true, Option.map_some, Option.map_none, Nat.zero_add, Nat.add_zero, Nat.sub_self, Int.toNat_natCast, Int.reduceToNat, Int.reduceLT, Int.reduceLE, Int.reduceEq, Int.reduceBEq, beq_self_eq_true, Int.reduceNeg, decide_true, decide_false, IntKind.bits, Nat.min_eq_left, Int.reducePow, Nat.reducePow, Int.fdiv_eq_ediv_of_nonneg, Nat.lt_irrefl, Nat.lt_add_one, Nat.zero_lt_succ, capsD_fn, D.sc, D.sc1, D.sc2, resK_nil, resK_tmp, resK_cell, ResC_ptr, ResO_some, ResR_some, ResL_some, ofRes, view, view2, view1, mapO, List.reverse_nil, Option.some.injEq, D.bool.injEq, D.int.injEq, D.str.injEq, D.agg.injEq, D.tup.injEq, D.list.injEq, List.cons.injEq]))
  skip
  · have : ¬ okR b ts l := fun h => hc h.1
    simp [rutcD, this]
  · have : ¬ okR b ts l := fun h => by have := h.2; omega
    simp [rutcD, this]
  · have : ¬ okR b ts l := fun h => by have := h.2; omega
    simp [rutcD, this]
  rename_i hg _
  have hof : ∀ u, PureD Try.prog 13 [encZ b ts, .int .i64 u] (.int .i64 (addO b ts (bh ts u))) := fun u => by rw [← offR_eq hg.asc]; exact roff_p b ts u hl
  refine Run_loop (ι := {p : Nat × Int × Nat // p.1 ≤ 1801 ∧ p.2.2 ≤ p.1 ∧ sc (hitR b ts l) (1801 - p.1) (l - 900 + p.1) p.2 = scR b ts l})
    (fun i => ([(1, .int .i64 l), (2, .ptr 0 0 0 1), (4, .ptr 1 0 0 1), (5, .ptr 2 0 0 1), (6, .int .i64 i.1.2.2), (7, .int .i64 (l - 900 + i.1.1))],
      [⟨true, false, true, false, 2, [[.int .i64 b, .list none false (ts.map encT)]]⟩, ⟨true, false, true, false, 3, [[.int .i64 0, .int .i64 0, .bool false]]⟩, ⟨true, false, true, false, 3, [[.int .i64 i.1.2.1, .int .i64 1, .bool false]]⟩]))
    (fun i => 1801 - i.1.1) ⟨(0, 0, 0), by simp, by simp, by simp [scR]⟩ ?_ ?_
  · refine Ent_gc [0, 1, 2] (by simp) (by simp) ⟨by simp [D.renL, D.ren], by simp [D.fitL, D.fit]⟩ (by simp [lk_hit, lk_miss, D.ren, D.renL, D.fit, D.fitL])
  rintro ⟨⟨j, a, m⟩, hj, hm, hi3⟩ hk
  dsimp only at hj hm hi3 hk ⊢
  have hob := @addO_le b ts (bh ts (l - 900 + j)) hg
  repeat' ((first | refine Run_seq ?_ | refine Run_skip ?_ | refine Run_block ?_ | refine Run_blk ?_ | refine Run_exit rfl ?_ | refine Run_ret ?_ | refine Run_nil ?_ | refine Run_condK ?_ | refine Run_ops mixed ?_ | with_reducible refine PostV_open ?_ | with_reducible refine ro_callV ?_ | refine CallV_pure (hof _) ?_ ?_ | simp (disch := omega) only [w64, wu64, wu32, wu16, wu8] | (refine GuardK_split (fun hc => ?_) (fun hc => ?_) <;> (try simp only [hc]) <;> (try simp at hc)) | (refine CondK_split (fun hc => ?_) (fun hc => ?_) <;> (try simp only [hc]) <;> (try simp at hc)) | (with_reducible refine And.intro ?_ ?_; (focus (first | exact trivial | assumption | (simp; done) | (simp only [List.length_map] at *; omega) | omega | (simp [D.cells, D.ok, D.one, D.pt, D.pt1]; done)))) | (with_reducible intro x hx)) <;> (try simp only [encT, encZ, ro_nil, ro_mov, ro_mkfn, ro_pick, ro_build, ro_slit, ro_chk, ro_bin, ro_eq, ro_un, ro_conv, ro_same, ro_b2s, ro_faddr, ro_fld, ro_idx, ro_ext, ro_len, ro_mx, ro_mn, ro_slice, ro_load, LoadK_elt, LoadK_ptr, LoadO_some, LoadR_some, LoadR_map, ro_box, ro_alloc, ro_store, StoreK_ptr, StoreO_some, StoreR_some, ro_iaddr, IaddrK_list, IaddrK_own, IaddrR_some, IaddrR_map, ro_app, AppK_nil, AppK_own, AppO_some, ro_guard, GuardK_tt, GuardK_no, GuardK_ff, GuardK_tf, GuardK_ft, CondK_t, CondK_f, contP_some, lk_nil, lk_hit, lk_miss, Nat.reduceBEq, put_some, put_none, ev_t, ev_c, argEnv, reduceIte, Nat.reduceEqDiff, Nat.reduceAdd, Nat.reduceSub, Nat.reduceMul, Nat.reduceLT, Nat.reduceLeDiff, reduceCtorEq, binD, binInt, binStr, eqD, eqCell, eqCells, eqN, boolD, okD, aggD, unD, pickD, chkD, convD, sameD, strD, faddrD, fldD, idxD, extD, lenD, mxD, mnD, sliceD, bndD, sizeD, loadD, fillD, splice, D.cells, D.ok, D.one, D.pt, D.pt1, D.norm1, D.norm, cond_true, cond_false, true_and, and_true, and_self, Bool.true_and, Bool.and_true, Bool.false_and, Bool.and_false, Bool.not_true, Bool.not_false, Bool.true_or, Bool.false_or, Bool.or_true, Bool.or_false, List.getElem?_cons_zero, List.getElem?_cons_succ, List.getElem?_nil, List.length_cons, List.length_nil, List.length_map, List.length_append, List.length_set, List.length_take, List.length_drop, List.take_succ_cons, List.take_zero, List.take_nil, List.drop_succ_cons, List.drop_zero, List.drop_nil, List.cons_append, List.nil_append, List.append_nil, List.map_cons, List.map_nil, List.all_cons, List.all_nil, List.set_cons_zero, List.set_cons_succ, List.isEmpty_cons, List.isEmpty_nil, List.forall_mem_cons, List.not_mem_nil, List.forall_mem_nil, false_imp_iff, implies_true, ne_eq, not_false_eq_true, Option.map_some, Option.map_none, Nat.zero_add, Nat.add_zero, Nat.sub_self, Int.toNat_natCast, Int.reduceToNat, Int.reduceLT, Int.reduceLE, Int.reduceEq, Int.reduceBEq, beq_self_eq_true, Int.reduceNeg, decide_true, decide_false, IntKind.bits, Nat.min_eq_left, Int.reducePow, Nat.reducePow, Int.fdiv_eq_ediv_of_nonneg, Nat.lt_irrefl, Nat.lt_add_one, Nat.zero_lt_succ, capsD_fn, D.sc, D.sc1, D.sc2, resK_nil, resK_tmp, resK_cell, ResC_ptr, ResO_some, ResR_some, ResL_some, ofRes, view, view2, view1, mapO, List.reverse_nil, Option.some.injEq, D.bool.injEq, D.int.injEq, D.str.injEq, D.agg.injEq, D.tup.injEq, D.list.injEq, List.cons.injEq]))
  · rename_i h1 h2
    refine hk ⟨(j + 1, l - 900 + j, m + 1), by simp; omega, by simp; omega, ?_⟩ _ _ (by simp; omega) ?_
    · have e : (1801 - j) = (1801 - (j + 1)) + 1 := by omega
      have e2 : l - 900 + ((j + 1 : Nat) : Int) = l - 900 + j + 1 := by omega
      rw [← hi3, e, e2]
      simp only [sc, hitR]
      simp [h2, hc]
    · have e2 : l - 900 + ((j + 1 : Nat) : Int) = l - 900 + j + 1 := by omega
      simp only [e2]
      refine Ent_gc [0, 1, 2] (by simp) (by simp) ⟨by simp [D.renL, D.ren], by simp [D.fitL, D.fit]⟩ (by simp [lk_hit, lk_miss, D.ren, D.renL, D.fit, D.fitL])
  · rename_i h1 h2
    refine hk ⟨(j + 1, a, m + 1), by simp; omega, by simp; omega, ?_⟩ _ _ (by simp; omega) ?_
    · have e : (1801 - j) = (1801 - (j + 1)) + 1 := by omega
      have e2 : l - 900 + ((j + 1 : Nat) : Int) = l - 900 + j + 1 := by omega
      rw [← hi3, e, e2]
      simp only [sc, hitR]
      simp [h2, hc]
    · have e2 : l - 900 + ((j + 1 : Nat) : Int) = l - 900 + j + 1 := by omega
      simp only [e2]
      refine Ent_gc [0, 1, 2] (by simp) (by simp) ⟨by simp [D.renL, D.ren], by simp [D.fitL, D.fit]⟩ (by simp [lk_hit, lk_miss, D.ren, D.renL, D.fit, D.fitL])
  · refine hk ⟨(j + 1, a, m), by simp; omega, by simp; omega, ?_⟩ _ _ (by simp; omega) ?_
    · have e : (1801 - j) = (1801 - (j + 1)) + 1 := by omega
      have e2 : l - 900 + ((j + 1 : Nat) : Int) = l - 900 + j + 1 := by omega
      rw [← hi3, e, e2]
      simp only [sc, hitR]
      simp [hc]
    · have e2 : l - 900 + ((j + 1 : Nat) : Int) = l - 900 + j + 1 := by omega
      simp only [e2]
      refine Ent_gc [0, 1, 2] (by simp) (by simp) ⟨by simp [D.renL, D.ren], by simp [D.fitL, D.fit]⟩ (by simp [lk_hit, lk_miss, D.ren, D.renL, D.fit, D.fitL])
  all_goals have hs : scR b ts l = (a, m) := by rw [← hi3, show 1801 - j = 0 by omega]; rfl
  · refine Run_ent ?_ (ph2 b ts l hg (by omega) (by omega) 2 a m hs (by simp only [kindR, hs]; rw [if_pos (by omega)]))
    refine Ent_gc [0, 1, 2] (by simp) (by simp) ⟨by simp [D.renL, D.ren], by simp [D.fitL, D.fit]⟩ (by simp [lk_hit, lk_miss, D.ren, D.renL, D.fit, D.fitL])
  · refine Run_ent ?_ (ph2 b ts l hg (by omega) (by omega) 0 a m hs (by simp only [kindR, hs]; rw [if_neg (by omega), if_pos (by omega)]))
    refine Ent_gc [0, 1, 2] (by simp) (by simp) ⟨by simp [D.renL, D.ren], by simp [D.fitL, D.fit]⟩ (by simp [lk_hit, lk_miss, D.ren, D.renL, D.fit, D.fitL])
  · exfalso; omega
  · refine Run_ent ?_ (ph2 b ts l hg (by omega) (by omega) 1 a m hs (by simp only [kindR, hs]; rw [if_neg (by omega), if_neg (by omega)]))
    refine Ent_gc [0, 1, 2] (by simp) (by simp) ⟨by simp [D.renL, D.ren], by simp [D.fitL, D.fit]⟩ (by simp [lk_hit, lk_miss, D.ren, D.renL, D.fit, D.fitL])
end Go.Proofs.Ytefpjijokdplfaa
