import Derived.Test.YtapennlmboabeaaBGQ
set_option linter.unusedVariables false
set_option linter.unusedSimpArgs false
set_option linter.unnecessarySimpa false
namespace Go.Proofs.Ytapennlmboabeaa
open Go Go.Vi


def outU (user : Int) (l : List Us) : List Us := l.filter fun u => !(u.id == user)
theorem outU_at : ∀ (l : List Us) (k : Nat) (u : Us), (l.Pairwise fun a b => a.id < b.id) → l[k]? = some u → outU u.id l = l.take k ++ l.drop (k + 1)
  | [], k, u, _, h => by simp at h
  | x :: l, 0, u, hs, h => by
    obtain ⟨h1, h2⟩ := List.pairwise_cons.1 hs
    simp at h; subst h
    have e : outU x.id l = l := by
      unfold outU
      rw [List.filter_eq_self]
      intro y hy
      have := h1 y hy
      simp; omega
    have e2 : outU x.id (x :: l) = outU x.id l := by simp [outU]
    rw [e2, e]; simp
  | x :: l, k + 1, u, hs, h => by
    obtain ⟨h1, h2⟩ := List.pairwise_cons.1 hs
    have hm : l[k]? = some u := by simpa using h
    have hx := h1 u (List.mem_of_getElem? hm)
    have hn : (x.id == u.id) = false := by simp; omega
    have e2 : outU u.id (x :: l) = x :: outU u.id l := by simp [outU, hn]
    rw [e2, outU_at l k u h2 hm]; simp
theorem isAt_some {us : List Us} {k : Nat} {id : Int} (h : isAtB Us.id us k id = true) : ∃ u, us[k]? = some u ∧ u.id = id := by
  unfold isAtB at h
  split at h
  · rename_i x hx
    exact ⟨x, hx, by simpa using h⟩
  · cases h
theorem pt_rows (us : List Us) : ((rowsU us).all fun r => r.all D.pt1) = true := by simp [rowsU, Us.row, D.pt1]
theorem sz_rows (us : List Us) : ∀ r ∈ rowsU us, r.length = 9 := by simp [rowsU, Us.row]
theorem szP_rows (l : List Po) : ∀ r ∈ rowsP l, r.length = 16 := by simp [rowsP, Po.row]
theorem out_win (us : List Us) (k : Nat) (z : List D) (hk : k < us.length) : winD 0 (us.length - 1) us.length (List.take k (rowsU us) ++ List.drop (k + 1) (rowsU us) ++ [z]) = rowsU (us.take k ++ us.drop (k + 1)) := by
  unfold winD
  rw [if_neg (by omega), List.drop_zero, List.take_left' (by simp only [List.length_append, List.length_take, List.length_drop, rowsU_len]; omega)]
  simp [rowsU, List.map_take, List.map_drop]
theorem keep_win (l : List Po) (user : Int) (z : List D) : winD 0 (keepP user l).length l.length (rowsP (keepP user l) ++ List.replicate (l.length - (keepP user l).length) z) = rowsP (keepP user l) := by
  have hle : (keepP user l).length ≤ l.length := List.length_filter_le ..
  unfold winD
  split
  · rename_i h
    rw [h.2, Nat.sub_self]; simp
  · rw [List.drop_zero, List.take_left' (by rw [rowsP_len])]
set_option maxHeartbeats 2000000 in
theorem leave_p (t : Int) (us : List Us) (ps : List Po) (ds : List Dn) (user : Int) (hl : us.length ≤ 400000000000) (hlp : ps.length ≤ 400000000000) (hs : us.Pairwise fun a b => a.id < b.id) :
    PureD Try.prog 13 [St t us ps ds, .int .u32 user] (if (findU us user).isSome then .tup [St t (outU user us) (keepP user ps) ds, .int .i64 0] else .tup [St t us ps ds, .int .i64 4]) := by
  have pl := placeU_p t us ps ds user (by omega) hs
  have hf := findB_low Us.id us user hs
  have hff : findU us user = us.find? fun u => u.id == user := rfl
  rw [← hff] at hf
  by_cases hat : isAtB Us.id us (lowB Us.id us user) user = true
  · obtain ⟨u, hu, hid⟩ := isAt_some hat
    rw [hat] at pl
    rw [if_pos hat, hu] at hf
    rw [hf]
    have hlt := (List.getElem?_eq_some_iff.1 hu).1
    generalize lowB Us.id us user = k at pl hu hlt
    have ho := outU_at us k u hs hu
    rw [hid] at ho
    rw [ho]
    simp only [Option.isSome_some, if_true]
    have hune : rowsU us ≠ [] := by
      cases us with
      | nil => simp at hlt
      | cons => simp [rowsU]
    have cu := clU_ne false (rowsU us) hune (sz_rows us) (by rw [rowsU_len]; omega)
    have du := delU_p (rowsU us) k (sz_rows us) (pt_rows us) (by rw [rowsU_len]; omega) (by rw [rowsU_len]; omega)
    have ow := out_win us k zrU hlt
    have oe : (List.take k (rowsU us) ++ List.drop (k + 1) (rowsU us) ++ [zrU]).length = us.length := by simp only [List.length_append, List.length_take, List.length_drop, rowsU_len, List.length_cons, List.length_nil]; omega
    rw [rowsU_len] at cu du
    generalize List.take k (rowsU us) ++ List.drop (k + 1) (rowsU us) ++ [zrU] = M at du ow oe
    generalize us.take k ++ us.drop (k + 1) = us' at ow
    by_cases hp : ps = []
    · subst hp
      rw [show keepP user [] = [] from rfl]
      refine PureD_nils (pre := []) (xs := [.int .i64 t, L (rowsU us)]) (ys := [L (rowsD ds)]) (post := [.int .u32 user]) fun b _ => ?_
      refine pureV Try.func13 low13 (by simp [c13]) ?_
      simp only [c13, St, rowsP, List.map_nil, List.nil_append, List.cons_append] at pl ⊢
      cases b
      · have df := dfno_p false [] user (by simp) (by simp)
        simp only [List.length_nil, rowsP, List.map_nil] at df
        repeat' ((first | refine Run_seq ?_ | refine Run_skip ?_ | refine Run_block ?_ | refine Run_blk ?_ | refine Run_exit rfl ?_ | refine Run_ret ?_ | refine Run_nil ?_ | refine Run_condK ?_ | refine Run_ops mixed ?_ | refine Run_opsX mixed ?_ | with_reducible refine PostV_open ?_ | with_reducible refine PostG_open ?_ | with_reducible refine PostQ_open ?_ | with_reducible refine ro_callA (f := .c (.fn 27 [])) ?_ | with_reducible refine ro_callA' (f := .c (.fn 27 [])) ?_ | with_reducible refine ro_callA (f := .c (.fn 26 [])) ?_ | with_reducible refine ro_callA' (f := .c (.fn 26 [])) ?_ | with_reducible refine ro_callA (f := .c (.fn 29 [])) ?_ | with_reducible refine ro_callA' (f := .c (.fn 29 [])) ?_ | with_reducible refine ro_callA (f := .c (.fn 28 [])) ?_ | with_reducible refine ro_callA' (f := .c (.fn 28 [])) ?_ | with_reducible refine ro_callV ?_ | with_reducible refine ro_callVX ?_ | refine CallV_pure (pl) ?_ ?_ | with_reducible refine CallE_use (cu) (by simp) ?_ | with_reducible refine CallE_use (du) (by simp) ?_ | with_reducible refine CallE_use (clP_emp _) (by simp) ?_ | with_reducible refine CallE_use (df) (by simp) ?_ | simp (disch := omega) only [w64] | (with_reducible refine SliceK_own rfl rfl ?_ ?_; (focus ((try simp only [row1_len, row2_len, row3_len, rowsE_len, rowsU_len, rowsP_len, rowsD_len, reduceIte, Int.natCast_nonneg, Int.le_refl, List.length_append, List.length_map, Nat.sub_zero]) <;> ((repeat' (with_reducible refine And.intro ?_ ?_)) <;> first | exact trivial | assumption | (simp; done) | (simp only [List.length_map] at *; omega) | omega | (simp [D.cells, D.ok, D.one, D.pt, D.pt1]; done))))) | (refine GuardK_split (fun hc => ?_) (fun hc => ?_) <;> (try simp only [hc]) <;> (try simp at hc)) | (refine CondK_split (fun hc => ?_) (fun hc => ?_) <;> (try simp only [hc]) <;> (try simp at hc)) | (with_reducible refine And.intro ?_ ?_; (focus ((repeat' (with_reducible refine And.intro ?_ ?_)) <;> first | exact trivial | assumption | (simp; done) | (simp only [List.length_map] at *; omega) | omega | (simp [D.cells, D.ok, D.one, D.pt, D.pt1]; done)))) | (with_reducible intro x hx) | omega) <;> (try simp only [oe, ow, ro_nil, ro_mov, ro_mkfn, ro_bin, ro_un, ro_faddr, ro_ext, ro_load, LoadK_ptr, LoadO_some, LoadR_some, ro_box, ro_alloc, ro_store, StoreK_ptr, StoreO_some, StoreR_some, winD_all, viewS_own', viewO_some, acc_real, acc_nl, acc_pure, acc_fz, acc_sz, acc_rows, acc_spare, CondK_f, contP_some, lk_hit, lk_miss, Nat.reduceBEq, put_some, put_none, ev_t, ev_c, argEnv, reduceIte, Nat.reduceEqDiff, Nat.reduceAdd, Nat.reduceSub, Nat.reduceLeDiff, reduceCtorEq, binD, binInt, okD, unD, faddrD, extD, loadD, splice, D.cells, D.ok, D.one, D.pt, D.pt1, D.pt0, D.norm1, true_and, and_self, Bool.true_and, Bool.and_true, Bool.and_false, Bool.not_true, Bool.true_or, Bool.or_true, List.getElem?_cons_zero, List.getElem?_cons_succ, List.length_cons, List.length_nil, List.take_succ_cons, List.take_zero, List.take_nil, List.drop_succ_cons, List.drop_zero, List.drop_nil, List.cons_append, List.nil_append, List.append_nil, List.map_cons, List.map_nil, List.all_cons, List.all_nil, List.set_cons_zero, List.set_cons_succ, List.isEmpty_nil, ne_eq, not_false_eq_true, Option.map_some, Nat.zero_add, Nat.add_zero, Nat.sub_self, Nat.lt_irrefl, Nat.le_refl, Nat.lt_add_one, view, view2, view1, view0, mapO, capsD_fn, D.sc, D.sc1, D.sc2, pull, pull2, pull1, pull0, idx_hit, idx_miss, idx_nil, sucO_none, gate, pullσ, pullOb, Go.Vi.freeze, Go.Vi.freeze1, capt, capt.captL, reachL, reachO, isin, List.flatten_cons, List.flatten_nil, merge, mset, renOb, fr, D.ren, List.getD_cons_zero, resK_nil, resK_tmp, resK_cell, ResC_ptr, ResO_some, ResR_some, ResL_some, ofRes]))
      · repeat' ((first | refine Run_seq ?_ | refine Run_skip ?_ | refine Run_block ?_ | refine Run_blk ?_ | refine Run_exit rfl ?_ | refine Run_ret ?_ | refine Run_nil ?_ | refine Run_condK ?_ | refine Run_ops mixed ?_ | refine Run_opsX mixed ?_ | with_reducible refine PostV_open ?_ | with_reducible refine PostG_open ?_ | with_reducible refine PostQ_open ?_ | with_reducible refine ro_callA (f := .c (.fn 27 [])) ?_ | with_reducible refine ro_callA' (f := .c (.fn 27 [])) ?_ | with_reducible refine ro_callA (f := .c (.fn 26 [])) ?_ | with_reducible refine ro_callA' (f := .c (.fn 26 [])) ?_ | with_reducible refine ro_callA (f := .c (.fn 29 [])) ?_ | with_reducible refine ro_callA' (f := .c (.fn 29 [])) ?_ | with_reducible refine ro_callA (f := .c (.fn 28 [])) ?_ | with_reducible refine ro_callA' (f := .c (.fn 28 [])) ?_ | with_reducible refine ro_callV ?_ | with_reducible refine ro_callVX ?_ | refine CallV_pure (pl) ?_ ?_ | with_reducible refine CallE_use (cu) (by simp) ?_ | with_reducible refine CallE_use (du) (by simp) ?_ | with_reducible refine CallE_use (clP_nil _) (by simp) ?_ | with_reducible refine CallE_use (dfnil_p _ _) (by simp) ?_ | simp (disch := omega) only [w64] | (with_reducible refine SliceK_own rfl rfl ?_ ?_; (focus ((try simp only [row1_len, row2_len, row3_len, rowsE_len, rowsU_len, rowsP_len, rowsD_len, reduceIte, Int.natCast_nonneg, Int.le_refl, List.length_append, List.length_map, Nat.sub_zero]) <;> ((repeat' (with_reducible refine And.intro ?_ ?_)) <;> first | exact trivial | assumption | (simp; done) | (simp only [List.length_map] at *; omega) | omega | (simp [D.cells, D.ok, D.one, D.pt, D.pt1]; done))))) | (refine GuardK_split (fun hc => ?_) (fun hc => ?_) <;> (try simp only [hc]) <;> (try simp at hc)) | (refine CondK_split (fun hc => ?_) (fun hc => ?_) <;> (try simp only [hc]) <;> (try simp at hc)) | (with_reducible refine And.intro ?_ ?_; (focus ((repeat' (with_reducible refine And.intro ?_ ?_)) <;> first | exact trivial | assumption | (simp; done) | (simp only [List.length_map] at *; omega) | omega | (simp [D.cells, D.ok, D.one, D.pt, D.pt1]; done)))) | (with_reducible intro x hx) | omega) <;> (try simp only [oe, ow, ro_nil, ro_mov, ro_mkfn, ro_bin, ro_un, ro_faddr, ro_ext, ro_load, LoadK_ptr, LoadO_some, LoadR_some, ro_box, ro_alloc, ro_store, StoreK_ptr, StoreO_some, StoreR_some, viewS_own', viewO_some, acc_real, acc_nl, acc_pure, acc_fz, acc_sz, acc_rows, acc_spare, CondK_f, contP_some, lk_hit, lk_miss, Nat.reduceBEq, put_some, put_none, ev_t, ev_c, argEnv, reduceIte, Nat.reduceAdd, Nat.reduceSub, Nat.reduceLeDiff, reduceCtorEq, binD, binInt, okD, unD, faddrD, extD, loadD, splice, D.cells, D.ok, D.one, D.pt, D.pt1, D.pt0, D.norm1, true_and, and_self, Bool.true_and, Bool.and_true, Bool.and_false, Bool.not_true, Bool.true_or, Bool.or_true, List.getElem?_cons_zero, List.getElem?_cons_succ, List.length_cons, List.length_nil, List.take_succ_cons, List.take_zero, List.take_nil, List.drop_succ_cons, List.drop_zero, List.drop_nil, List.cons_append, List.nil_append, List.append_nil, List.map_cons, List.map_nil, List.all_cons, List.all_nil, List.set_cons_zero, List.set_cons_succ, ne_eq, not_false_eq_true, Option.map_some, Nat.zero_add, Nat.add_zero, Nat.sub_self, Nat.lt_irrefl, Nat.le_refl, Nat.lt_add_one, view, view2, view1, view0, mapO, capsD_fn, D.sc, D.sc1, D.sc2, pull, pull2, pull1, pull0, idx_hit, idx_nil, gate, pullσ, pullOb, Go.Vi.freeze, Go.Vi.freeze1, capt, capt.captL, reachL, reachO, isin, List.flatten_cons, List.flatten_nil, merge, mset, renOb, fr, D.ren, List.getD_cons_zero, resK_nil, resK_tmp, resK_cell, ResC_ptr, ResO_some, ResR_some, ResL_some, ofRes]))
    · have hpne : rowsP ps ≠ [] := by
        cases ps with
        | nil => exact absurd rfl hp
        | cons => simp [rowsP]
      have cp := clP_ne false (rowsP ps) hpne (szP_rows ps) (by rw [rowsP_len]; omega)
      rw [rowsP_len] at cp
      refine pureV Try.func13 low13 (by simp [c13]) ?_
      simp only [c13, St] at pl ⊢
      by_cases hn : ∃ p ∈ ps, p.owner = user
      · have df := df_p ps user (by omega) hn
        have kw := keep_win ps user zrP
        have ke : (rowsP (keepP user ps) ++ List.replicate (ps.length - (keepP user ps).length) zrP).length = ps.length := by
          have hle : (keepP user ps).length ≤ ps.length := List.length_filter_le ..
          simp only [List.length_append, rowsP_len, List.length_replicate]; omega
        generalize rowsP (keepP user ps) ++ List.replicate (ps.length - (keepP user ps).length) zrP = N at df kw ke
        generalize keepP user ps = F at df kw
        repeat' ((first | refine Run_seq ?_ | refine Run_skip ?_ | refine Run_block ?_ | refine Run_blk ?_ | refine Run_exit rfl ?_ | refine Run_ret ?_ | refine Run_nil ?_ | refine Run_condK ?_ | refine Run_ops mixed ?_ | refine Run_opsX mixed ?_ | with_reducible refine PostV_open ?_ | with_reducible refine PostG_open ?_ | with_reducible refine PostQ_open ?_ | with_reducible refine ro_callA (f := .c (.fn 27 [])) ?_ | with_reducible refine ro_callA' (f := .c (.fn 27 [])) ?_ | with_reducible refine ro_callA (f := .c (.fn 26 [])) ?_ | with_reducible refine ro_callA' (f := .c (.fn 26 [])) ?_ | with_reducible refine ro_callA (f := .c (.fn 29 [])) ?_ | with_reducible refine ro_callA' (f := .c (.fn 29 [])) ?_ | with_reducible refine ro_callA (f := .c (.fn 28 [])) ?_ | with_reducible refine ro_callA' (f := .c (.fn 28 [])) ?_ | with_reducible refine ro_callV ?_ | with_reducible refine ro_callVX ?_ | refine CallV_pure (pl) ?_ ?_ | with_reducible refine CallE_use (cu) (by simp) ?_ | with_reducible refine CallE_use (du) (by simp) ?_ | with_reducible refine CallE_use (cp) (by simp) ?_ | with_reducible refine CallE_use (df) (by simp) ?_ | simp (disch := omega) only [w64] | (with_reducible refine SliceK_own rfl rfl ?_ ?_; (focus ((try simp only [row1_len, row2_len, row3_len, rowsE_len, rowsU_len, rowsP_len, rowsD_len, reduceIte, Int.natCast_nonneg, Int.le_refl, List.length_append, List.length_map, Nat.sub_zero]) <;> ((repeat' (with_reducible refine And.intro ?_ ?_)) <;> first | exact trivial | assumption | (simp; done) | (simp only [List.length_map] at *; omega) | omega | (simp [D.cells, D.ok, D.one, D.pt, D.pt1]; done))))) | (refine GuardK_split (fun hc => ?_) (fun hc => ?_) <;> (try simp only [hc]) <;> (try simp at hc)) | (refine CondK_split (fun hc => ?_) (fun hc => ?_) <;> (try simp only [hc]) <;> (try simp at hc)) | (with_reducible refine And.intro ?_ ?_; (focus ((repeat' (with_reducible refine And.intro ?_ ?_)) <;> first | exact trivial | assumption | (simp; done) | (simp only [List.length_map] at *; omega) | omega | (simp [D.cells, D.ok, D.one, D.pt, D.pt1]; done)))) | (with_reducible intro x hx) | omega) <;> (try simp only [oe, ke, ow, kw, ro_nil, ro_mov, ro_mkfn, ro_bin, ro_un, ro_faddr, ro_ext, ro_load, LoadK_ptr, LoadO_some, LoadR_some, ro_box, ro_alloc, ro_store, StoreK_ptr, StoreO_some, StoreR_some, viewS_own', viewO_some, acc_real, acc_nl, acc_pure, acc_fz, acc_sz, acc_rows, acc_spare, CondK_f, contP_some, lk_hit, lk_miss, Nat.reduceBEq, put_some, put_none, ev_t, ev_c, argEnv, reduceIte, Nat.reduceEqDiff, Nat.reduceAdd, Nat.reduceSub, Nat.reduceLeDiff, reduceCtorEq, binD, binInt, okD, unD, faddrD, extD, loadD, splice, D.cells, D.ok, D.one, D.pt, D.pt1, D.pt0, D.norm1, true_and, and_self, Bool.true_and, Bool.and_true, Bool.and_false, Bool.not_true, Bool.true_or, Bool.or_true, List.getElem?_cons_zero, List.getElem?_cons_succ, List.length_cons, List.length_nil, List.take_succ_cons, List.take_zero, List.take_nil, List.drop_succ_cons, List.drop_zero, List.drop_nil, List.cons_append, List.nil_append, List.append_nil, List.map_cons, List.map_nil, List.all_cons, List.all_nil, List.set_cons_zero, List.set_cons_succ, ne_eq, not_false_eq_true, Option.map_some, Nat.zero_add, Nat.add_zero, Nat.sub_self, Nat.lt_irrefl, Nat.le_refl, Nat.lt_add_one, view, view2, view1, view0, mapO, capsD_fn, D.sc, D.sc1, D.sc2, pull, pull2, pull1, pull0, idx_hit, idx_miss, idx_nil, sucO_none, gate, pullσ, pullOb, Go.Vi.freeze, Go.Vi.freeze1, capt, capt.captL, reachL, reachO, isin, List.flatten_cons, List.flatten_nil, merge, mset, renOb, fr, D.ren, List.getD_cons_zero, resK_nil, resK_tmp, resK_cell, ResC_ptr, ResO_some, ResR_some, ResL_some, ofRes]))
      · have hn' : ∀ p ∈ ps, p.owner ≠ user := fun p hp h => hn ⟨p, hp, h⟩
        have df := dfno_p true ps user (by omega) hn'
        have kk : keepP user ps = ps := by
          unfold keepP
          rw [List.filter_eq_self]
          intro q hq
          simpa using hn' q hq
        rw [kk]
        repeat' ((first | refine Run_seq ?_ | refine Run_skip ?_ | refine Run_block ?_ | refine Run_blk ?_ | refine Run_exit rfl ?_ | refine Run_ret ?_ | refine Run_nil ?_ | refine Run_condK ?_ | refine Run_ops mixed ?_ | refine Run_opsX mixed ?_ | with_reducible refine PostV_open ?_ | with_reducible refine PostG_open ?_ | with_reducible refine PostQ_open ?_ | with_reducible refine ro_callA (f := .c (.fn 27 [])) ?_ | with_reducible refine ro_callA' (f := .c (.fn 27 [])) ?_ | with_reducible refine ro_callA (f := .c (.fn 26 [])) ?_ | with_reducible refine ro_callA' (f := .c (.fn 26 [])) ?_ | with_reducible refine ro_callA (f := .c (.fn 29 [])) ?_ | with_reducible refine ro_callA' (f := .c (.fn 29 [])) ?_ | with_reducible refine ro_callA (f := .c (.fn 28 [])) ?_ | with_reducible refine ro_callA' (f := .c (.fn 28 [])) ?_ | with_reducible refine ro_callV ?_ | with_reducible refine ro_callVX ?_ | refine CallV_pure (pl) ?_ ?_ | with_reducible refine CallE_use (cu) (by simp) ?_ | with_reducible refine CallE_use (du) (by simp) ?_ | with_reducible refine CallE_use (cp) (by simp) ?_ | with_reducible refine CallE_use (df) (by simp) ?_ | simp (disch := omega) only [w64] | (with_reducible refine SliceK_own rfl rfl ?_ ?_; (focus ((try simp only [row1_len, row2_len, row3_len, rowsE_len, rowsU_len, rowsP_len, rowsD_len, reduceIte, Int.natCast_nonneg, Int.le_refl, List.length_append, List.length_map, Nat.sub_zero]) <;> ((repeat' (with_reducible refine And.intro ?_ ?_)) <;> first | exact trivial | assumption | (simp; done) | (simp only [List.length_map] at *; omega) | omega | (simp [D.cells, D.ok, D.one, D.pt, D.pt1]; done))))) | (refine GuardK_split (fun hc => ?_) (fun hc => ?_) <;> (try simp only [hc]) <;> (try simp at hc)) | (refine CondK_split (fun hc => ?_) (fun hc => ?_) <;> (try simp only [hc]) <;> (try simp at hc)) | (with_reducible refine And.intro ?_ ?_; (focus ((repeat' (with_reducible refine And.intro ?_ ?_)) <;> first | exact trivial | assumption | (simp; done) | (simp only [List.length_map] at *; omega) | omega | (simp [D.cells, D.ok, D.one, D.pt, D.pt1]; done)))) | (with_reducible intro x hx) | omega) <;> (try simp only [rowsP_len, oe, ow, rowsP_len, ro_nil, ro_mov, ro_mkfn, ro_bin, ro_un, ro_faddr, ro_ext, ro_load, LoadK_ptr, LoadO_some, LoadR_some, ro_box, ro_alloc, ro_store, StoreK_ptr, StoreO_some, StoreR_some, winD_all, viewS_own', viewO_some, acc_real, acc_nl, acc_pure, acc_fz, acc_sz, acc_rows, acc_spare, CondK_f, contP_some, lk_hit, lk_miss, Nat.reduceBEq, put_some, put_none, ev_t, ev_c, argEnv, reduceIte, Nat.reduceEqDiff, Nat.reduceAdd, Nat.reduceSub, Nat.reduceLeDiff, reduceCtorEq, binD, binInt, okD, unD, faddrD, extD, loadD, splice, D.cells, D.ok, D.one, D.pt, D.pt1, D.pt0, D.norm1, true_and, and_self, Bool.true_and, Bool.and_true, Bool.and_false, Bool.not_true, Bool.true_or, Bool.or_true, List.getElem?_cons_zero, List.getElem?_cons_succ, List.length_cons, List.length_nil, List.take_succ_cons, List.take_zero, List.take_nil, List.drop_succ_cons, List.drop_zero, List.drop_nil, List.cons_append, List.nil_append, List.append_nil, List.map_cons, List.map_nil, List.all_cons, List.all_nil, List.set_cons_zero, List.set_cons_succ, ne_eq, not_false_eq_true, Option.map_some, Nat.zero_add, Nat.add_zero, Nat.sub_self, Nat.lt_irrefl, Nat.le_refl, Nat.lt_add_one, view, view2, view1, view0, mapO, capsD_fn, D.sc, D.sc1, D.sc2, pull, pull2, pull1, pull0, idx_hit, idx_miss, idx_nil, sucO_none, gate, pullσ, pullOb, Go.Vi.freeze, Go.Vi.freeze1, capt, capt.captL, reachL, reachO, isin, List.flatten_cons, List.flatten_nil, merge, mset, renOb, fr, D.ren, List.getD_cons_zero, resK_nil, resK_tmp, resK_cell, ResC_ptr, ResO_some, ResR_some, ResL_some, ofRes]))
  · have hat' : isAtB Us.id us (lowB Us.id us user) user = false := by simpa using hat
    rw [hat'] at pl
    rw [if_neg hat] at hf
    rw [hf]
    refine pureV Try.func13 low13 (by simp [c13]) ?_
    simp only [c13, St, Option.isSome_none, Bool.false_eq_true, if_false] at pl ⊢
    repeat' ((first | refine Run_seq ?_ | refine Run_skip ?_ | refine Run_block ?_ | refine Run_blk ?_ | refine Run_exit rfl ?_ | refine Run_ret ?_ | refine Run_nil ?_ | refine Run_condK ?_ | refine Run_ops mixed ?_ | refine Run_opsX mixed ?_ | with_reducible refine PostV_open ?_ | with_reducible refine PostG_open ?_ | with_reducible refine PostQ_open ?_ | with_reducible refine ro_callV ?_ | with_reducible refine ro_callVX ?_ | refine CallV_pure (pl) ?_ ?_ | simp (disch := omega) only [w64, wu64, wu32, wu16, wu8, Int.tdiv_eq_ediv_of_nonneg, Int.tmod_eq_emod_of_nonneg] | (with_reducible refine SliceK_own rfl rfl ?_ ?_; (focus ((try simp only [row1_len, row2_len, row3_len, rowsE_len, rowsU_len, rowsP_len, rowsD_len, reduceIte, Int.natCast_nonneg, Int.le_refl, List.length_append, List.length_map, Nat.sub_zero]) <;> ((repeat' (with_reducible refine And.intro ?_ ?_)) <;> first | exact trivial | assumption | (simp; done) | (simp only [List.length_map] at *; omega) | omega | (simp [D.cells, D.ok, D.one, D.pt, D.pt1]; done))))) | (refine GuardK_split (fun hc => ?_) (fun hc => ?_) <;> (try simp only [hc]) <;> (try simp at hc)) | (refine CondK_split (fun hc => ?_) (fun hc => ?_) <;> (try simp only [hc]) <;> (try simp at hc)) | (with_reducible refine And.intro ?_ ?_; (focus ((repeat' (with_reducible refine And.intro ?_ ?_)) <;> first | exact trivial | assumption | (simp; done) | (simp only [List.length_map] at *; omega) | omega | (simp [D.cells, D.ok, D.one, D.pt, D.pt1]; done)))) | (with_reducible intro x hx) | omega) <;> (try simp only [ro_nil, ro_mov, ro_un, ro_ext, ro_load, LoadK_ptr, LoadO_some, LoadR_some, ro_box, ro_alloc, ro_store, StoreK_ptr, StoreO_some, StoreR_some, viewS_own', CondK_t, contP_some, lk_hit, lk_miss, Nat.reduceBEq, put_some, put_none, ev_t, ev_c, argEnv, reduceIte, Nat.reduceAdd, reduceCtorEq, okD, unD, extD, loadD, splice, D.cells, D.ok, D.one, D.pt, D.pt1, D.pt0, D.norm1, true_and, and_self, Bool.and_true, Bool.not_false, Bool.or_true, List.getElem?_cons_zero, List.getElem?_cons_succ, List.length_cons, List.length_nil, List.take_succ_cons, List.take_zero, List.take_nil, List.drop_succ_cons, List.drop_zero, List.drop_nil, List.cons_append, List.nil_append, List.append_nil, List.map_cons, List.map_nil, List.all_cons, List.all_nil, List.set_cons_zero, List.set_cons_succ, ne_eq, not_false_eq_true, Option.map_some, Nat.zero_add, Nat.le_refl, Nat.lt_add_one, view, view2, view1, view0, mapO, capsD_fn, D.sc, D.sc1, D.sc2, resK_nil, resK_tmp, resK_cell, ResC_ptr, ResO_some, ResR_some, ResL_some, ofRes]))
end Go.Proofs.Ytapennlmboabeaa
