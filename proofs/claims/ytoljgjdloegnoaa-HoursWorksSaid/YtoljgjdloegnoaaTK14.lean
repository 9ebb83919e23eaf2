import Derived.Test.YtoljgjdloegnoaaTK13
import Derived.Test.YtoljgjdloegnoaaXX
set_option linter.unusedVariables false
set_option linter.unusedSimpArgs false
set_option linter.unnecessarySimpa false
namespace Go.Proofs.Ytoljgjdloegnoaa
open Go Go.Vi


theorem wru (n : Int) : IntKind.u64.wrap n = n % 18446744073709551616 := by
  unfold IntKind.wrap
  simp [IntKind.bits, IntKind.signed]
theorem U_more (c a b : Int) : IntKind.u64.wrap (IntKind.u64.wrap c + (b - a)) = IntKind.u64.wrap (c + (b - a)) := by
  simp only [wru]; omega
theorem cnt_take {l : List Sp} {i : Nat} {s : Sp} (h : l[i]? = some s) : cntS (l.take (i + 1)) = cntS (l.take i) + (s.2 - s.1) := by
  have : l.take (i + 1) = l.take i ++ [s] := by rw [List.take_add_one, h]; rfl
  rw [this]; simp [cntS]
theorem bit2 (d : Int) (w : Nat) (h1 : 0 ≤ d) (h2 : d ≤ 127) (h4 : w < 7) : bitAnd .i64 (d.fdiv (2 ^ w)) 1 = bitN d w := by
  have key : ∀ (a : Fin 128) (b : Fin 7), bitAnd .i64 ((a.1 : Int).fdiv (2 ^ b.1)) 1 = bitN a.1 b.1 := by decide +kernel
  have := key ⟨d.toNat, by omega⟩ ⟨w, by omega⟩
  dsimp only at this
  rw [show ((d.toNat : Nat) : Int) = d by omega] at this
  exact this
def sumN (d : Int) : Nat → Int
  | 0 => 0
  | n + 1 => sumN d n + bitN d n
theorem bitN_le (d k : Int) : 0 ≤ bitN d k ∧ bitN d k ≤ 1 := by unfold bitN; split <;> omega
theorem sumN_le (d : Int) : ∀ n : Nat, 0 ≤ sumN d n ∧ sumN d n ≤ n
  | 0 => by simp [sumN]
  | n + 1 => by
    have := sumN_le d n
    have := bitN_le d n
    simp only [sumN]; omega
theorem sumN_days (d : Int) : sumN d 7 = daysB d := by
  simp [sumN, daysB]
theorem week_cnt (base : Int) (s : Sf) (F : Int) (hb : -900 ≤ base ∧ base ≤ 900) (hs : shiftB s = true) (h1 : 20160 ≤ F) (h2 : F + 10080 ≤ 158310720) : cntS (winS base [] [s] [] (F, F + 10080)) = daysB s.1 * (s.2.2 - s.2.1) := by
  obtain ⟨lc, lh, ll⟩ := winS_spec base [] [s] [] (F, F + 10080)
  have a1 : hoursB [s] [] = true := by simp [hoursB, hs, risB]
  have a2 : zoneB base [] = true := by simp [zoneB, wideB]; omega
  have a3 : longB (F, F + 10080) = false := by simp [longB]; omega
  simp only [a1, a2, a3, Bool.not_false, Bool.true_and] at lh
  have hso := hs
  simp only [shiftB, decide_eq_true_eq] at hso
  have hb2 := can_bound (lo := F) (hi := F + 10080) lc fun m hm => by
    rw [lh] at hm
    exact winB_in hm
  rw [cnt_can F 10080 _ lc (by simpa using hb2)]
  have e1 : cntP F 10080 (hasS (winS base [] [s] [] (F, F + 10080))) = cntP F 10080 fun m => oneB s (m + base) := cntP_ext _ _ fun m q1 q2 => by
    rw [lh, winB, workB, decide_eq_true (by dsimp only; omega), decide_eq_true (by omega), Bool.true_and, Bool.true_and, locB_one]
    rfl
  rw [e1, cntP_shift]
  have e2 : F + base = (((F + base).toNat : Nat) : Int) := by omega
  rw [e2, cntP_any 10080 (by omega) (oneB s) (oneB_per s), cntP_week s (by omega) (by omega) (by omega)]
theorem week_same (base : Int) (s : Sf) (F : Int) (h1 : 20160 ≤ F) (h2 : F + 10080 < 158310720) : workZ base [] [s] [] (F + 10080) = workZ base [] [s] [] F := by
  unfold workZ workB
  rw [decide_eq_true (by omega), decide_eq_true (by omega), locB_one, locB_one]
  have e : F + 10080 + addO base [] (bh [] (F + 10080)) = F + addO base [] (bh [] F) + ((10080 : Nat) : Int) := by
    simp [bh, addO]; omega
  rw [e, oneB_per]
set_option maxHeartbeats 8000000 in
theorem hweeks_p (base : Int) (s : Sf) (wk : Int) (hk1 : 0 ≤ wk ∧ wk ≤ 65535) : PureD Try.prog 7 [.int .i64 base, .agg [.int .i64 s.1, .int .i64 s.2.1, .int .i64 s.2.2], .int .u16 wk] (.bool true) := by
  refine pureV Try.func7 low7 (by simp [c7]) ?_
  simp only [c7]
  by_cases h1 : base < -900
  · have c1 : (base < -900) = True := by simpa using h1
    repeat' ((first | refine Run_seq ?_ | refine Run_skip ?_ | refine Run_block ?_ | refine Run_blk ?_ | refine Run_exit rfl ?_ | refine Run_ret ?_ | refine Run_nil ?_ | refine Run_condK ?_ | refine Run_ops mixed ?_ | refine Run_opsX mixed ?_ | with_reducible refine PostV_open ?_ | with_reducible refine PostG_open ?_ | with_reducible refine PostQ_open ?_ | with_reducible refine ro_callV ?_ | with_reducible refine ro_callVX ?_ | refine CallV_pure (fixed_p) ?_ ?_ | simp (disch := omega) only [w64, wu64, wu32, wu16, wu8, Int.tdiv_eq_ediv_of_nonneg, Int.tmod_eq_emod_of_nonneg] | (with_reducible refine SliceK_own rfl rfl ?_ ?_; (focus ((try simp only [row1_len, row2_len, row3_len, rowsS_len, reduceIte, Int.natCast_nonneg, Int.le_refl, List.length_append, List.length_map, Nat.sub_zero]) <;> ((repeat' (with_reducible refine And.intro ?_ ?_)) <;> first | exact trivial | assumption | (simp; done) | (simp only [List.length_map] at *; omega) | omega | (simp [D.cells, D.ok, D.one, D.pt, D.pt1]; done))))) | (refine GuardK_split (fun hc => ?_) (fun hc => ?_) <;> (try simp only [hc]) <;> (try simp at hc)) | (refine CondK_split (fun hc => ?_) (fun hc => ?_) <;> (try simp only [hc]) <;> (try simp at hc)) | (with_reducible refine And.intro ?_ ?_; (focus ((repeat' (with_reducible refine And.intro ?_ ?_)) <;> first | exact trivial | assumption | (simp; done) | (simp only [List.length_map] at *; omega) | omega | (simp [D.one]; done)))) | (with_reducible intro x hx) | omega) <;> (try simp only [c1, ro_nil, ro_mov, ro_pick, ro_build, ro_slit, SlitK_t, ro_bin, ro_load, LoadK_ptr, LoadO_some, LoadR_some, ro_box, ro_alloc, ro_store, StoreK_ptr, StoreO_some, StoreR_some, viewS_own', ro_guard, GuardK_tf, CondK_t, contP_some, lk_hit, lk_miss, Nat.reduceBEq, put_some, put_none, ev_t, ev_c, argEnv, reduceIte, Nat.reduceAdd, Nat.reduceLeDiff, reduceCtorEq, binD, binInt, aggD, pickD, loadD, fillD, splice, D.cells, D.ok, D.one, D.pt, D.pt1, D.pt0, D.norm1, cond_true, true_and, and_self, Bool.and_true, Bool.or_true, List.getElem?_cons_zero, List.getElem?_cons_succ, List.length_cons, List.length_nil, List.take_succ_cons, List.take_zero, List.take_nil, List.drop_succ_cons, List.drop_zero, List.drop_nil, List.cons_append, List.nil_append, List.append_nil, List.map_cons, List.map_nil, List.all_cons, List.all_nil, List.set_cons_zero, List.set_cons_succ, List.not_mem_nil, ne_eq, not_false_eq_true, Nat.zero_add, Int.reduceNeg, decide_true, Nat.le_refl, Nat.lt_add_one, Nat.zero_lt_succ, view, view2, view1, view0, mapO, capsD_fn, D.sc, D.sc1, D.sc2, List.mem_cons, or_false, resK_nil, resK_tmp, ofRes]))
  have c1 : (base < -900) = False := by simpa using h1
  by_cases h2 : base > 900
  · have c2 : (base > 900) = True := by simpa using h2
    repeat' ((first | refine Run_seq ?_ | refine Run_skip ?_ | refine Run_block ?_ | refine Run_blk ?_ | refine Run_exit rfl ?_ | refine Run_ret ?_ | refine Run_nil ?_ | refine Run_condK ?_ | refine Run_ops mixed ?_ | refine Run_opsX mixed ?_ | with_reducible refine PostV_open ?_ | with_reducible refine PostG_open ?_ | with_reducible refine PostQ_open ?_ | with_reducible refine ro_callV ?_ | with_reducible refine ro_callVX ?_ | refine CallV_pure (fixed_p) ?_ ?_ | simp (disch := omega) only [w64, wu64, wu32, wu16, wu8, Int.tdiv_eq_ediv_of_nonneg, Int.tmod_eq_emod_of_nonneg] | (with_reducible refine SliceK_own rfl rfl ?_ ?_; (focus ((try simp only [row1_len, row2_len, row3_len, rowsS_len, reduceIte, Int.natCast_nonneg, Int.le_refl, List.length_append, List.length_map, Nat.sub_zero]) <;> ((repeat' (with_reducible refine And.intro ?_ ?_)) <;> first | exact trivial | assumption | (simp; done) | (simp only [List.length_map] at *; omega) | omega | (simp [D.cells, D.ok, D.one, D.pt, D.pt1]; done))))) | (refine GuardK_split (fun hc => ?_) (fun hc => ?_) <;> (try simp only [hc]) <;> (try simp at hc)) | (refine CondK_split (fun hc => ?_) (fun hc => ?_) <;> (try simp only [hc]) <;> (try simp at hc)) | (with_reducible refine And.intro ?_ ?_; (focus ((repeat' (with_reducible refine And.intro ?_ ?_)) <;> first | exact trivial | assumption | (simp; done) | (simp only [List.length_map] at *; omega) | omega | (simp [D.one]; done)))) | (with_reducible intro x hx) | omega) <;> (try simp only [c1, c2, ro_nil, ro_mov, ro_pick, ro_build, ro_slit, SlitK_t, ro_bin, ro_load, LoadK_ptr, LoadO_some, LoadR_some, ro_box, ro_alloc, ro_store, StoreK_ptr, StoreO_some, StoreR_some, viewS_own', ro_guard, GuardK_ff, GuardK_tf, CondK_t, contP_some, lk_hit, lk_miss, Nat.reduceBEq, put_some, put_none, ev_t, ev_c, argEnv, reduceIte, Nat.reduceAdd, Nat.reduceLeDiff, reduceCtorEq, binD, binInt, aggD, pickD, loadD, fillD, splice, D.cells, D.ok, D.one, D.pt, D.pt1, D.pt0, D.norm1, cond_true, cond_false, true_and, and_self, Bool.and_true, Bool.or_true, List.getElem?_cons_zero, List.getElem?_cons_succ, List.length_cons, List.length_nil, List.take_succ_cons, List.take_zero, List.take_nil, List.drop_succ_cons, List.drop_zero, List.drop_nil, List.cons_append, List.nil_append, List.append_nil, List.map_cons, List.map_nil, List.all_cons, List.all_nil, List.set_cons_zero, List.set_cons_succ, List.not_mem_nil, ne_eq, not_false_eq_true, Nat.zero_add, Int.reduceNeg, decide_true, decide_false, Nat.le_refl, Nat.lt_add_one, Nat.zero_lt_succ, view, view2, view1, view0, mapO, capsD_fn, D.sc, D.sc1, D.sc2, List.mem_cons, or_false, resK_nil, resK_tmp, ofRes]))
  have c2 : (base > 900) = False := by simpa using h2
  have rm := refHours_p [s] [] (by simp) (by simp)
  have e0 : hoursB [s] [] = shiftB s := by simp [hoursB, risB]
  rw [e0] at rm
  simp only [row3, row1, List.map_cons, List.map_nil] at rm
  cases hs : shiftB s
  · rw [hs] at rm
    repeat' ((first | refine Run_seq ?_ | refine Run_skip ?_ | refine Run_block ?_ | refine Run_blk ?_ | refine Run_exit rfl ?_ | refine Run_ret ?_ | refine Run_nil ?_ | refine Run_condK ?_ | refine Run_ops mixed ?_ | refine Run_opsX mixed ?_ | with_reducible refine PostV_open ?_ | with_reducible refine PostG_open ?_ | with_reducible refine PostQ_open ?_ | with_reducible refine ro_callV ?_ | with_reducible refine ro_callVX ?_ | refine CallV_pure (rm) ?_ ?_ | refine CallV_pure (fixed_p) ?_ ?_ | simp (disch := omega) only [w64, wu64, wu32, wu16, wu8, Int.tdiv_eq_ediv_of_nonneg, Int.tmod_eq_emod_of_nonneg] | (with_reducible refine SliceK_own rfl rfl ?_ ?_; (focus ((try simp only [row1_len, row2_len, row3_len, rowsS_len, reduceIte, Int.natCast_nonneg, Int.le_refl, List.length_append, List.length_map, Nat.sub_zero]) <;> ((repeat' (with_reducible refine And.intro ?_ ?_)) <;> first | exact trivial | assumption | (simp; done) | (simp only [List.length_map] at *; omega) | omega | (simp [D.cells, D.ok, D.one, D.pt, D.pt1]; done))))) | (refine GuardK_split (fun hc => ?_) (fun hc => ?_) <;> (try simp only [hc]) <;> (try simp at hc)) | (refine CondK_split (fun hc => ?_) (fun hc => ?_) <;> (try simp only [hc]) <;> (try simp at hc)) | (with_reducible refine And.intro ?_ ?_; (focus ((repeat' (with_reducible refine And.intro ?_ ?_)) <;> first | exact trivial | assumption | (simp; done) | (simp only [List.length_map] at *; omega) | omega | (simp [D.one]; done)))) | (with_reducible intro x hx) | omega) <;> (try simp only [c1, c2, ro_nil, ro_mov, ro_pick, ro_build, ro_slit, SlitK_t, ro_bin, ro_un, ro_load, LoadK_ptr, LoadO_some, LoadR_some, ro_box, ro_alloc, ro_store, StoreK_ptr, StoreO_some, StoreR_some, viewS_own', ro_guard, GuardK_ff, CondK_t, contP_some, lk_hit, lk_miss, Nat.reduceBEq, put_some, put_none, ev_t, ev_c, argEnv, reduceIte, Nat.reduceAdd, Nat.reduceLeDiff, reduceCtorEq, binD, binInt, okD, aggD, unD, pickD, loadD, fillD, splice, D.cells, D.ok, D.one, D.pt, D.pt1, D.pt0, D.norm1, cond_false, true_and, and_self, Bool.and_true, Bool.not_false, Bool.or_true, List.getElem?_cons_zero, List.getElem?_cons_succ, List.length_cons, List.length_nil, List.take_succ_cons, List.take_zero, List.take_nil, List.drop_succ_cons, List.drop_zero, List.drop_nil, List.cons_append, List.nil_append, List.append_nil, List.map_cons, List.map_nil, List.all_cons, List.all_nil, List.set_cons_zero, List.set_cons_succ, List.not_mem_nil, ne_eq, not_false_eq_true, Option.map_some, Nat.zero_add, Int.reduceNeg, decide_false, Nat.le_refl, Nat.lt_add_one, Nat.zero_lt_succ, view, view2, view1, view0, mapO, capsD_fn, D.sc, D.sc1, D.sc2, List.mem_cons, or_false, resK_nil, resK_tmp, ofRes]))
  rw [hs] at rm
  have hso := hs
  simp only [shiftB, decide_eq_true_eq] at hso
  obtain ⟨F, hF⟩ : ∃ F, (2 + wk % 15000) * 10080 = F := ⟨_, rfl⟩
  have hF1 : 20160 ≤ F := by omega
  have hF2 : F + 10080 < 158310720 := by omega
  have sp := spans_p base [] [s] [] (F, F + 10080) (by simp) (by simp) (by simp) (by unfold Fit; dsimp only; omega) (by unfold Fit; dsimp only; omega)
  obtain ⟨lc, lh, ll⟩ := winS_spec base [] [s] [] (F, F + 10080)
  have hb2 := can_bound (lo := F) (hi := F + 10080) lc fun m hm => by
    rw [lh] at hm
    exact winB_in (Bool.and_eq_true_iff.1 hm).2
  have hc := week_cnt base s F (by omega) hs hF1 (by omega)
  have w1 := works_p base [] [s] [] F (by simp) (by simp) (by simp)
  have w2 := works_p base [] [s] [] (F + 10080) (by simp) (by simp) (by simp)
  rw [week_same base s F hF1 hF2] at w2
  generalize workZ base [] [s] [] F = W at w1 w2
  generalize winS base [] [s] [] (F, F + 10080) = l at sp lc lh ll hb2 hc
  simp only [Zn, Hr, row3, row2, row1, List.map_cons, List.map_nil] at sp w1 w2
  have hd := sumN_le s.1 7
  rw [sumN_days] at hd
  repeat' ((first | refine Run_seq ?_ | refine Run_skip ?_ | refine Run_block ?_ | refine Run_blk ?_ | refine Run_exit rfl ?_ | refine Run_ret ?_ | refine Run_nil ?_ | refine Run_condK ?_ | refine Run_ops mixed ?_ | refine Run_opsX mixed ?_ | with_reducible refine PostV_open ?_ | with_reducible refine PostG_open ?_ | with_reducible refine PostQ_open ?_ | with_reducible refine ro_callV ?_ | with_reducible refine ro_callVX ?_ | refine CallV_pure (rm) ?_ ?_ | refine CallV_pure (sp) ?_ ?_ | simp (disch := omega) only [w64, Int.tmod_eq_emod_of_nonneg] | (with_reducible refine SliceK_own rfl rfl ?_ ?_; (focus ((try simp only [row1_len, row2_len, row3_len, rowsS_len, reduceIte, Int.natCast_nonneg, Int.le_refl, List.length_append, List.length_map, Nat.sub_zero]) <;> ((repeat' (with_reducible refine And.intro ?_ ?_)) <;> first | exact trivial | assumption | (simp; done) | (simp only [List.length_map] at *; omega) | omega | (simp [D.cells, D.ok, D.one, D.pt, D.pt1]; done))))) | (refine GuardK_split (fun hc => ?_) (fun hc => ?_) <;> (try simp only [hc]) <;> (try simp at hc)) | (refine CondK_split (fun hc => ?_) (fun hc => ?_) <;> (try simp only [hc]) <;> (try simp at hc)) | (with_reducible refine And.intro ?_ ?_; (focus ((repeat' (with_reducible refine And.intro ?_ ?_)) <;> first | exact trivial | assumption | (simp; done) | (simp only [List.length_map] at *; omega) | omega | (simp [D.one]; done)))) | (with_reducible intro x hx) | omega) <;> (try simp only [rowsS_len, c1, c2, hF, ro_nil, ro_mov, ro_pick, ro_build, ro_slit, SlitK_t, ro_bin, ro_un, ro_conv, ro_len, ro_load, LoadK_ptr, LoadO_some, LoadR_some, ro_box, ro_alloc, ro_store, StoreK_ptr, StoreO_some, StoreR_some, ro_guard, GuardK_ff, CondK_f, contP_some, lk_hit, lk_miss, Nat.reduceBEq, put_some, put_none, ev_t, ev_c, argEnv, reduceIte, Nat.reduceAdd, Nat.reduceLeDiff, reduceCtorEq, binD, binInt, okD, aggD, unD, pickD, convD, lenD, loadD, fillD, splice, D.cells, D.ok, D.one, D.pt, D.pt1, D.pt0, D.norm1, cond_false, true_and, and_self, Bool.and_true, Bool.not_true, Bool.or_true, Bool.or_false, List.getElem?_cons_zero, List.getElem?_cons_succ, List.length_cons, List.length_nil, List.take_succ_cons, List.take_zero, List.take_nil, List.drop_succ_cons, List.drop_zero, List.drop_nil, List.cons_append, List.nil_append, List.append_nil, List.map_cons, List.map_nil, List.all_cons, List.all_nil, List.set_cons_zero, List.set_cons_succ, List.not_mem_nil, ne_eq, not_false_eq_true, Option.map_some, Nat.zero_add, Int.reduceEq, Int.reduceNeg, decide_false, Nat.le_refl, Nat.lt_add_one, Nat.zero_lt_succ, view, view2, view1, view0, mapO, capsD_fn, D.sc, D.sc1, D.sc2, List.mem_cons, or_false]))
  refine Run_loop (ι := {i : Nat // i ≤ l.length}) (fun i => ([(4, .ptr 0 0 0 1), (7, .ptr 1 0 0 1), (8, .int .i64 F), (9, .ptr 2 0 0 1), (10, .int .u64 (IntKind.u64.wrap (cntS (l.take i.1)))), (43, LS l), (44, .int .i64 l.length), (45, .int .i64 i.1)], [⟨true, false, true, false, 3, [[.int .i64 s.1, .int .i64 s.2.1, .int .i64 s.2.2]], some 0⟩, ⟨true, false, true, false, 2, [[.list (some false) true [[.int .i64 s.1, .int .i64 s.2.1, .int .i64 s.2.2]], .list (some true) true []]], some 0⟩, ⟨true, false, true, false, 2, [[.int .i64 base, .list (some true) true []]], some 0⟩])) (fun i => l.length - i.1) ⟨0, by omega⟩ ?_ ?_
  · have e : (0 : Int) = IntKind.u64.wrap (cntS []) := by simp [wru, cntS]
    dsimp only
    rw [List.take_zero, ← e]
    refine Ent_gc [0, 1, 2] (by rfl) (by simp) (by simp [keptW, ObKW, ObW, imp_self, pullOb, or_false]) (by simp [lk_hit, lk_miss, D.pt0, viewS_own', pull, pull2, pull1, pull0, idx_hit, idx_miss, sucO_some, gate, List.mem_cons, or_false, view0])
    skip
  rintro ⟨i, hi⟩ hk
  dsimp only at hk ⊢
  by_cases hlt : i < l.length
  · have c3 : ((i : Int) < (l.length : Int)) = True := by simp; omega
    obtain ⟨x, hx⟩ : ∃ x, l[i]? = some x := ⟨_, List.getElem?_eq_getElem hlt⟩
    have hr := rowsS_get hx
    have hxm := List.mem_of_getElem? hx
    have q1 := lc.2 x hxm
    have q2 := hb2 x hxm
    have hct := cnt_take hx
    have hu := U_more (cntS (l.take i)) x.1 x.2
    rw [← hct] at hu
    repeat' ((first | refine Run_seq ?_ | refine Run_skip ?_ | refine Run_block ?_ | refine Run_blk ?_ | refine Run_exit rfl ?_ | refine Run_ret ?_ | refine Run_nil ?_ | refine Run_condK ?_ | refine Run_ops mixed ?_ | refine Run_opsX mixed ?_ | with_reducible refine PostV_open ?_ | with_reducible refine PostG_open ?_ | with_reducible refine PostQ_open ?_ | with_reducible refine ro_callV ?_ | with_reducible refine ro_callVX ?_ | simp (disch := omega) only [w64, wu64] | (with_reducible refine SliceK_own rfl rfl ?_ ?_; (focus ((try simp only [row1_len, row2_len, row3_len, rowsS_len, reduceIte, Int.natCast_nonneg, Int.le_refl, List.length_append, List.length_map, Nat.sub_zero]) <;> ((repeat' (with_reducible refine And.intro ?_ ?_)) <;> first | exact trivial | assumption | (simp; done) | (simp only [List.length_map] at *; omega) | omega | (simp [D.cells, D.ok, D.one, D.pt, D.pt1]; done))))) | (refine GuardK_split (fun hc => ?_) (fun hc => ?_) <;> (try simp only [hc]) <;> (try simp at hc)) | (refine CondK_split (fun hc => ?_) (fun hc => ?_) <;> (try simp only [hc]) <;> (try simp at hc)) | (with_reducible refine And.intro ?_ ?_; (focus ((repeat' (with_reducible refine And.intro ?_ ?_)) <;> first | exact trivial | assumption | (simp; done) | (simp only [List.length_map] at *; omega) | omega | (simp [D.cells, D.ok, D.one, D.pt, D.pt1]; done)))) | (with_reducible intro x hx) | omega) <;> (try simp only [rowsS_len, c3, hr, hu, LoadR_some, IaddrR_some, ro_nil, ro_mov, ro_bin, ro_conv, ro_faddr, ro_load, LoadK_elt, LoadK_ptr, LoadO_some, LoadR_some, ro_alloc, ro_store, StoreK_ptr, StoreO_some, StoreR_some, ro_iaddr, IaddrK_list, IaddrR_some, CondK_t, contP_some, lk_hit, lk_miss, Nat.reduceBEq, put_some, put_none, ev_t, ev_c, reduceIte, Nat.reduceAdd, reduceCtorEq, binD, binInt, convD, faddrD, loadD, splice, D.cells, D.ok, D.one, D.pt1, true_and, and_self, Bool.and_true, List.getElem?_cons_zero, List.getElem?_cons_succ, List.length_cons, List.length_nil, List.take_succ_cons, List.take_zero, List.take_nil, List.drop_succ_cons, List.drop_zero, List.drop_nil, List.cons_append, List.nil_append, List.append_nil, List.all_cons, List.all_nil, List.set_cons_zero, List.set_cons_succ, ne_eq, not_false_eq_true, Nat.zero_add, Nat.add_zero, Int.toNat_natCast, decide_true, Nat.le_refl, Int.natCast_nonneg, Nat.lt_add_one]))
    refine hk ⟨i + 1, by omega⟩ _ _ (by dsimp only; omega) ?_
    dsimp only
    refine Ent_gc [0, 1, 2] (by rfl) (by simp) (by simp [keptW, ObKW, ObW, imp_self, pullOb, or_false]) (by simp [lk_hit, lk_miss, D.pt0, viewS_own', pull, pull2, pull1, pull0, idx_hit, idx_miss, sucO_some, gate, List.mem_cons, or_false, view0])
  have c3 : ((i : Int) < (l.length : Int)) = False := by simp; omega
  obtain rfl : i = l.length := by omega
  rw [List.take_length, hc]
  repeat' ((first | refine Run_seq ?_ | refine Run_skip ?_ | refine Run_block ?_ | refine Run_blk ?_ | refine Run_exit rfl ?_ | refine Run_ret ?_ | refine Run_nil ?_ | refine Run_condK ?_ | refine Run_ops mixed ?_ | refine Run_opsX mixed ?_ | with_reducible refine PostV_open ?_ | with_reducible refine PostG_open ?_ | with_reducible refine PostQ_open ?_ | with_reducible refine ro_callV ?_ | with_reducible refine ro_callVX ?_ | simp (disch := omega) only [w64, wu64, wu32, wu16, wu8, Int.tdiv_eq_ediv_of_nonneg, Int.tmod_eq_emod_of_nonneg] | (with_reducible refine SliceK_own rfl rfl ?_ ?_; (focus ((try simp only [row1_len, row2_len, row3_len, rowsS_len, reduceIte, Int.natCast_nonneg, Int.le_refl, List.length_append, List.length_map, Nat.sub_zero]) <;> ((repeat' (with_reducible refine And.intro ?_ ?_)) <;> first | exact trivial | assumption | (simp; done) | (simp only [List.length_map] at *; omega) | omega | (simp [D.cells, D.ok, D.one, D.pt, D.pt1]; done))))) | (refine GuardK_split (fun hc => ?_) (fun hc => ?_) <;> (try simp only [hc]) <;> (try simp at hc)) | (refine CondK_split (fun hc => ?_) (fun hc => ?_) <;> (try simp only [hc]) <;> (try simp at hc)) | (with_reducible refine And.intro ?_ ?_; (focus ((repeat' (with_reducible refine And.intro ?_ ?_)) <;> first | exact trivial | assumption | (simp; done) | (simp only [List.length_map] at *; omega) | omega | (simp [D.cells, D.ok, D.one, D.pt, D.pt1]; done)))) | (with_reducible intro x hx) | omega) <;> (try simp only [c3, ro_nil, ro_mov, ro_bin, CondK_f, contP_some, lk_hit, lk_miss, Nat.reduceBEq, put_some, ev_t, ev_c, reduceIte, binD, binInt, true_and, decide_false]))
  refine Run_loop (ι := {j : Nat // j ≤ 7}) (fun j => ([(4, .ptr 0 0 0 1), (7, .ptr 1 0 0 1), (8, .int .i64 F), (9, .ptr 2 0 0 1), (10, .int .u64 (IntKind.u64.wrap (daysB s.1 * (s.2.2 - s.2.1)))), (13, .int .i64 (sumN s.1 j.1)), (58, .int .i64 j.1)], [⟨true, false, true, false, 3, [[.int .i64 s.1, .int .i64 s.2.1, .int .i64 s.2.2]], some 0⟩, ⟨true, false, true, false, 2, [[.list (some false) true [[.int .i64 s.1, .int .i64 s.2.1, .int .i64 s.2.2]], .list (some true) true []]], some 0⟩, ⟨true, false, true, false, 2, [[.int .i64 base, .list (some true) true []]], some 0⟩])) (fun j => 7 - j.1) ⟨0, by omega⟩ ?_ ?_
  · dsimp only [sumN]
    refine Ent_gc [0, 1, 2] (by rfl) (by simp) (by simp [keptW, ObKW, ObW, imp_self, pullOb, or_false]) (by simp [lk_hit, lk_miss, D.pt0, viewS_own', pull, pull2, pull1, pull0, idx_hit, idx_miss, sucO_some, gate, List.mem_cons, or_false, view0])
    skip
  rintro ⟨j, hj⟩ hk
  dsimp only at hk ⊢
  by_cases hlt : j < 7
  · have c4 : ((j : Int) < 7) = True := by simp; omega
    have b2 := bit2 s.1 j (by omega) (by omega) hlt
    have mj : min j 64 = j := by omega
    have bl := bitN_le s.1 j
    have sl := sumN_le s.1 j
    have es : sumN s.1 j + bitN s.1 j = sumN s.1 (j + 1) := rfl
    repeat' ((first | refine Run_seq ?_ | refine Run_skip ?_ | refine Run_block ?_ | refine Run_blk ?_ | refine Run_exit rfl ?_ | refine Run_ret ?_ | refine Run_nil ?_ | refine Run_condK ?_ | refine Run_ops mixed ?_ | refine Run_opsX mixed ?_ | with_reducible refine PostV_open ?_ | with_reducible refine PostG_open ?_ | with_reducible refine PostQ_open ?_ | with_reducible refine ro_callV ?_ | with_reducible refine ro_callVX ?_ | simp (disch := omega) only [w64] | (with_reducible refine SliceK_own rfl rfl ?_ ?_; (focus ((try simp only [row1_len, row2_len, row3_len, rowsS_len, reduceIte, Int.natCast_nonneg, Int.le_refl, List.length_append, List.length_map, Nat.sub_zero]) <;> ((repeat' (with_reducible refine And.intro ?_ ?_)) <;> first | exact trivial | assumption | (simp; done) | (simp only [List.length_map] at *; omega) | omega | (simp [D.cells, D.ok, D.one, D.pt, D.pt1]; done))))) | (refine GuardK_split (fun hc => ?_) (fun hc => ?_) <;> (try simp only [hc]) <;> (try simp at hc)) | (refine CondK_split (fun hc => ?_) (fun hc => ?_) <;> (try simp only [hc]) <;> (try simp at hc)) | (with_reducible refine And.intro ?_ ?_; (focus ((repeat' (with_reducible refine And.intro ?_ ?_)) <;> first | exact trivial | assumption | (simp; done) | (simp only [List.length_map] at *; omega) | omega | (simp [D.cells, D.ok, D.one, D.pt, D.pt1]; done)))) | (with_reducible intro x hx) | omega) <;> (try simp only [c4, mj, b2, es, ro_nil, ro_mov, ro_bin, ro_faddr, ro_load, LoadK_ptr, LoadO_some, LoadR_some, CondK_t, contP_some, lk_hit, lk_miss, Nat.reduceBEq, put_some, ev_t, ev_c, reduceIte, binD, binInt, faddrD, loadD, true_and, and_self, List.getElem?_cons_zero, List.length_cons, List.length_nil, Nat.zero_add, Nat.add_zero, Int.toNat_natCast, decide_true, IntKind.bits, Int.natCast_nonneg, Nat.lt_add_one]))
    refine hk ⟨j + 1, by omega⟩ _ _ (by dsimp only; omega) ?_
    dsimp only
    refine Ent_gc [0, 1, 2] (by rfl) (by simp) (by simp [keptW, ObKW, ObW, imp_self, pullOb, or_false]) (by simp [lk_hit, lk_miss, D.pt0, viewS_own', pull, pull2, pull1, pull0, idx_hit, idx_miss, sucO_some, gate, List.mem_cons, or_false, view0])
    skip
  have c4 : ((j : Int) < 7) = False := by simp; omega
  obtain rfl : j = 7 := by omega
  rw [sumN_days]
  have e5 : IntKind.i64.wrap (daysB s.1 * (s.2.2 - s.2.1)) = daysB s.1 * (s.2.2 - s.2.1) := by
    have u1 : 0 ≤ daysB s.1 * (s.2.2 - s.2.1) := Int.mul_nonneg hd.1 (by omega)
    have u2 : daysB s.1 * (s.2.2 - s.2.1) ≤ 7 * 1440 := by
      have v1 : daysB s.1 * (s.2.2 - s.2.1) ≤ 7 * (s.2.2 - s.2.1) := Int.mul_le_mul_of_nonneg_right (by omega) (by omega)
      omega
    exact w64 (by omega) (by omega)
  generalize hV : daysB s.1 * (s.2.2 - s.2.1) = V at e5 ⊢
  have ew : (W == W) = true := by simp
  have ev : (IntKind.u64.wrap V == IntKind.u64.wrap V) = true := by simp
  repeat' ((first | refine Run_seq ?_ | refine Run_skip ?_ | refine Run_block ?_ | refine Run_blk ?_ | refine Run_exit rfl ?_ | refine Run_ret ?_ | refine Run_nil ?_ | refine Run_condK ?_ | refine Run_ops mixed ?_ | refine Run_opsX mixed ?_ | with_reducible refine PostV_open ?_ | with_reducible refine PostG_open ?_ | with_reducible refine PostQ_open ?_ | with_reducible refine ro_callV ?_ | with_reducible refine ro_callVX ?_ | refine CallV_pure (fixed_p) ?_ ?_ | refine CallV_pure (w1) ?_ ?_ | refine CallV_pure (w2) ?_ ?_ | simp (disch := omega) only [w64] | (with_reducible refine SliceK_own rfl rfl ?_ ?_; (focus ((try simp only [row1_len, row2_len, row3_len, rowsS_len, reduceIte, Int.natCast_nonneg, Int.le_refl, List.length_append, List.length_map, Nat.sub_zero]) <;> ((repeat' (with_reducible refine And.intro ?_ ?_)) <;> first | exact trivial | assumption | (simp; done) | (simp only [List.length_map] at *; omega) | omega | (simp [D.cells, D.ok, D.one, D.pt, D.pt1]; done))))) | (refine GuardK_split (fun hc => ?_) (fun hc => ?_) <;> (try simp only [hc]) <;> (try simp at hc)) | (refine CondK_split (fun hc => ?_) (fun hc => ?_) <;> (try simp only [hc]) <;> (try simp at hc)) | (with_reducible refine And.intro ?_ ?_; (focus ((repeat' (with_reducible refine And.intro ?_ ?_)) <;> first | exact trivial | assumption | (simp; done) | (simp only [List.length_map] at *; omega) | omega | (simp [D.cells, D.ok, D.one, D.pt, D.pt1]; done)))) | (with_reducible intro x hx) | omega) <;> (try simp only [c4, hV, e5, ev, ew, ro_nil, ro_mov, ro_pick, ro_bin, ro_eq, ro_conv, ro_faddr, ro_load, LoadK_ptr, LoadO_some, LoadR_some, viewS_own', eqO_bool, rx_nil, rx_cons, keepK_nil, keepK_cons, keepE_nil, keepE_cons, keepN_nil, keepN_cons, D.names, ro_guard, GuardK_tt, CondK_f, contP_some, lk_hit, lk_miss, Nat.reduceBEq, put_some, ev_t, ev_c, reduceIte, Nat.reduceAdd, binD, binInt, eqD, eqN, boolD, pickD, convD, faddrD, loadD, D.pt, D.pt1, D.pt0, D.norm1, cond_true, cond_false, true_and, and_true, and_self, Bool.and_true, Bool.not_true, Bool.or_true, List.getElem?_cons_zero, List.getElem?_cons_succ, List.length_cons, List.length_nil, List.take_succ_cons, List.take_nil, List.drop_zero, List.append_nil, List.map_cons, List.map_nil, List.all_cons, List.all_nil, Option.map_some, Nat.zero_add, decide_false, Nat.le_refl, Nat.lt_add_one, view, view2, view1, view0, mapO, capsD_fn, D.sc, D.sc1, D.sc2, resK_nil, resK_tmp, ofRes]))
  skip
end Go.Proofs.Ytoljgjdloegnoaa
