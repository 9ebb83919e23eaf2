import Derived.Test.YtapennlmboabeaaBGA5
set_option linter.unusedVariables false
set_option linter.unusedSimpArgs false
set_option linter.unnecessarySimpa false
namespace Go.Proofs.Ytapennlmboabeaa
open Go Go.Vi


theorem rises_wel {us : List Us} {n : Nat} (hw : Wel us n) : risU us = true := risU_iff.2 ⟨hw.2.1, fun u hu => (hw.2.2 u hu).2.1⟩
theorem zU_fit : zU.fit := by simp [zU, Us.fit, Se.fits]
theorem putF_cases (us : List Us) (user id : Int) (e : Ev) : ((putF us user id e).2.2 ≠ 0 ∧ (putF us user id e).1 = us ∧ (putF us user id e).2.1 = 0) ∨ ∃ u, findU us user = some u ∧ putF us user id e = (us.map (rep (putU u id e)), IntKind.u64.wrap (u.ver + 1), 0) := by
  unfold putF
  cases hu : findU us user with
  | none => exact .inl ⟨by simp, rfl, rfl⟩
  | some u =>
    dsimp only
    split
    · exact .inl ⟨by simp, rfl, rfl⟩
    · split
      · exact .inl ⟨by simp, rfl, rfl⟩
      · exact .inr ⟨u, rfl, rfl⟩
set_option maxHeartbeats 8000000 in
theorem back_p (t : Int) (us : List Us) (ps : List Po) (ds : List Dn) (user id other : Int) (e : Ev) (hf : fits us ps ds) (hfs : Sta.fits ⟨t, us, ps, ds⟩) (he : e.fits) :
    PureD Try.prog 6 [St t us ps ds, .int .u32 user, .int .u32 id, .int .u32 other, .agg e.cells] (.bool true) := by
  refine pureV Try.func6 low6 (by simp [c6]) ?_
  have h1 := great17_p t us ps ds hf
  have h2 := greatEv_p e
  by_cases hg : (greatSt us ps ds || !risU us) = true
  · rw [hg] at h1
    simp only [c6, St, Ev.cells] at h1 ⊢
    repeat' ((first | refine Run_seq ?_ | refine Run_skip ?_ | refine Run_block ?_ | refine Run_blk ?_ | refine Run_exit rfl ?_ | refine Run_ret ?_ | refine Run_nil ?_ | refine Run_condK ?_ | refine Run_ops mixed ?_ | refine Run_opsX mixed ?_ | with_reducible refine PostV_open ?_ | with_reducible refine PostG_open ?_ | with_reducible refine PostQ_open ?_ | with_reducible refine ro_callV ?_ | with_reducible refine ro_callVX ?_ | refine CallV_pure (h1) ?_ ?_ | refine CallV_pure (fixed_p) ?_ ?_ | simp (disch := omega) only [w64, wu64, wu32, wu16, wu8, Int.tdiv_eq_ediv_of_nonneg, Int.tmod_eq_emod_of_nonneg] | (with_reducible refine SliceK_own rfl rfl ?_ ?_; (focus ((try simp only [row1_len, row2_len, row3_len, rowsE_len, rowsU_len, rowsP_len, rowsD_len, reduceIte, Int.natCast_nonneg, Int.le_refl, List.length_append, List.length_map, Nat.sub_zero]) <;> ((repeat' (with_reducible refine And.intro ?_ ?_)) <;> first | exact trivial | assumption | (simp; done) | (simp only [List.length_map] at *; omega) | omega | (simp [D.cells, D.ok, D.one, D.pt, D.pt1]; done))))) | (refine GuardK_split (fun hc => ?_) (fun hc => ?_) <;> (try simp only [hc]) <;> (try simp at hc)) | (refine CondK_split (fun hc => ?_) (fun hc => ?_) <;> (try simp only [hc]) <;> (try simp at hc)) | (with_reducible refine And.intro ?_ ?_; (focus ((repeat' (with_reducible refine And.intro ?_ ?_)) <;> first | exact trivial | assumption | (simp; done) | (simp only [List.length_map] at *; omega) | omega | (simp [D.cells, D.ok, D.one, D.pt, D.pt1]; done)))) | (with_reducible intro x hx) | omega) <;> (try simp only [ro_nil, ro_mov, ro_pick, ro_load, LoadK_ptr, LoadO_some, LoadR_some, ro_box, viewS_own', ro_guard, GuardK_tf, CondK_t, contP_some, lk_hit, lk_miss, Nat.reduceBEq, put_some, ev_t, ev_c, argEnv, reduceIte, Nat.reduceAdd, reduceCtorEq, pickD, loadD, D.cells, D.ok, D.one, D.pt, D.pt1, D.pt0, D.norm1, cond_true, true_and, and_self, Bool.and_true, Bool.or_true, List.getElem?_cons_zero, List.length_cons, List.length_nil, List.take_succ_cons, List.take_nil, List.drop_zero, List.cons_append, List.nil_append, List.append_nil, List.map_cons, List.map_nil, List.all_cons, List.all_nil, ne_eq, not_false_eq_true, Option.map_some, Nat.zero_add, Nat.le_refl, Nat.lt_add_one, view, view2, view1, view0, mapO, capsD_fn, D.sc, D.sc1, D.sc2, resK_nil, resK_tmp, ofRes]))
  have hg' : (greatSt us ps ds || !risU us) = false := by simpa using hg
  rw [hg'] at h1
  by_cases hge : e.great = true
  · rw [hge] at h2
    simp only [c6, St, Ev.cells] at h1 h2 ⊢
    repeat' ((first | refine Run_seq ?_ | refine Run_skip ?_ | refine Run_block ?_ | refine Run_blk ?_ | refine Run_exit rfl ?_ | refine Run_ret ?_ | refine Run_nil ?_ | refine Run_condK ?_ | refine Run_ops mixed ?_ | refine Run_opsX mixed ?_ | with_reducible refine PostV_open ?_ | with_reducible refine PostG_open ?_ | with_reducible refine PostQ_open ?_ | with_reducible refine ro_callV ?_ | with_reducible refine ro_callVX ?_ | refine CallV_pure (h1) ?_ ?_ | refine CallV_pure (h2) ?_ ?_ | refine CallV_pure (fixed_p) ?_ ?_ | simp (disch := omega) only [w64, wu64, wu32, wu16, wu8, Int.tdiv_eq_ediv_of_nonneg, Int.tmod_eq_emod_of_nonneg] | (with_reducible refine SliceK_own rfl rfl ?_ ?_; (focus ((try simp only [row1_len, row2_len, row3_len, rowsE_len, rowsU_len, rowsP_len, rowsD_len, reduceIte, Int.natCast_nonneg, Int.le_refl, List.length_append, List.length_map, Nat.sub_zero]) <;> ((repeat' (with_reducible refine And.intro ?_ ?_)) <;> first | exact trivial | assumption | (simp; done) | (simp only [List.length_map] at *; omega) | omega | (simp [D.cells, D.ok, D.one, D.pt, D.pt1]; done))))) | (refine GuardK_split (fun hc => ?_) (fun hc => ?_) <;> (try simp only [hc]) <;> (try simp at hc)) | (refine CondK_split (fun hc => ?_) (fun hc => ?_) <;> (try simp only [hc]) <;> (try simp at hc)) | (with_reducible refine And.intro ?_ ?_; (focus ((repeat' (with_reducible refine And.intro ?_ ?_)) <;> first | exact trivial | assumption | (simp; done) | (simp only [List.length_map] at *; omega) | omega | (simp [D.cells, D.ok, D.one, D.pt, D.pt1]; done)))) | (with_reducible intro x hx) | omega) <;> (try simp only [ro_nil, ro_mov, ro_pick, ro_load, LoadK_ptr, LoadO_some, LoadR_some, ro_box, viewS_own', ro_guard, GuardK_ff, CondK_t, contP_some, lk_hit, lk_miss, Nat.reduceBEq, put_some, ev_t, ev_c, argEnv, reduceIte, Nat.reduceAdd, reduceCtorEq, pickD, loadD, D.cells, D.ok, D.one, D.pt, D.pt1, D.pt0, D.norm1, cond_false, true_and, and_self, Bool.and_true, Bool.or_true, List.getElem?_cons_zero, List.getElem?_cons_succ, List.length_cons, List.length_nil, List.take_succ_cons, List.take_nil, List.drop_zero, List.cons_append, List.nil_append, List.append_nil, List.map_cons, List.map_nil, List.all_cons, List.all_nil, ne_eq, not_false_eq_true, Option.map_some, Nat.zero_add, Nat.le_refl, Nat.lt_add_one, view, view2, view1, view0, mapO, capsD_fn, D.sc, D.sc1, D.sc2, resK_nil, resK_tmp, ofRes]))
  have hge' : e.great = false := by simpa using hge
  rw [hge'] at h2
  simp only [Bool.or_eq_false_iff, Bool.not_eq_false'] at hg'
  obtain ⟨g1, g2⟩ := hg'
  have w0 := wel_of hfs g1 g2
  have pa := putF_p t ps ds user id w0 (by omega) he (great_ch hge')
  rcases putF_cases us user id e with ⟨q1, q2, q3⟩ | ⟨u, hu, hq⟩
  · rw [q2, q3] at pa
    generalize (putF us user id e).2.2 = x at pa q1
    have c1 : (x == 0) = false := by simpa using q1
    have ss := sameSt_p ⟨t, us, ps, ds⟩ ⟨t, us, ps, ds⟩ hfs hfs
    rw [decide_eq_true rfl] at ss
    simp only [c6, St, Ev.cells, Sta.cells] at h1 h2 pa ss ⊢
    repeat' ((first | refine Run_seq ?_ | refine Run_skip ?_ | refine Run_block ?_ | refine Run_blk ?_ | refine Run_exit rfl ?_ | refine Run_ret ?_ | refine Run_nil ?_ | refine Run_condK ?_ | refine Run_ops mixed ?_ | refine Run_opsX mixed ?_ | with_reducible refine PostV_open ?_ | with_reducible refine PostG_open ?_ | with_reducible refine PostQ_open ?_ | with_reducible refine ro_callV ?_ | with_reducible refine ro_callVX ?_ | refine CallV_pure (h1) ?_ ?_ | refine CallV_pure (h2) ?_ ?_ | refine CallV_pure (pa) ?_ ?_ | refine CallV_pure (fixed_p) ?_ ?_ | refine CallV_pure (ss) ?_ ?_ | simp (disch := omega) only [w64, wu64, wu32, wu16, wu8, Int.tdiv_eq_ediv_of_nonneg, Int.tmod_eq_emod_of_nonneg] | (with_reducible refine SliceK_own rfl rfl ?_ ?_; (focus ((try simp only [row1_len, row2_len, row3_len, rowsE_len, rowsU_len, rowsP_len, rowsD_len, reduceIte, Int.natCast_nonneg, Int.le_refl, List.length_append, List.length_map, Nat.sub_zero]) <;> ((repeat' (with_reducible refine And.intro ?_ ?_)) <;> first | exact trivial | assumption | (simp; done) | (simp only [List.length_map] at *; omega) | omega | (simp [D.cells, D.ok, D.one, D.pt, D.pt1]; done))))) | (refine GuardK_split (fun hc => ?_) (fun hc => ?_) <;> (try simp only [hc]) <;> (try simp at hc)) | (refine CondK_split (fun hc => ?_) (fun hc => ?_) <;> (try simp only [hc]) <;> (try simp at hc)) | (with_reducible refine And.intro ?_ ?_; (focus ((repeat' (with_reducible refine And.intro ?_ ?_)) <;> first | exact trivial | assumption | (simp; done) | (simp only [List.length_map] at *; omega) | omega | (simp [D.cells, D.ok, D.one, D.pt, D.pt1]; done)))) | (with_reducible intro x hx) | omega) <;> (try simp only [ro_nil, ro_mov, ro_pick, ro_bin, ro_ext, ro_load, LoadK_ptr, LoadO_some, LoadR_some, ro_box, ro_alloc, ro_store, StoreK_ptr, StoreO_some, StoreR_some, viewS_own', ro_guard, GuardK_tt, GuardK_ff, CondK_t, CondK_f, contP_some, lk_hit, lk_miss, Nat.reduceBEq, put_some, put_none, ev_t, ev_c, argEnv, reduceIte, Nat.reduceAdd, reduceCtorEq, binD, binInt, pickD, extD, loadD, splice, D.cells, D.ok, D.one, D.pt, D.pt1, D.pt0, D.norm1, cond_true, cond_false, true_and, and_self, Bool.and_true, Bool.and_false, Bool.or_true, Bool.or_false, List.getElem?_cons_zero, List.getElem?_cons_succ, List.length_cons, List.length_nil, List.take_succ_cons, List.take_zero, List.take_nil, List.drop_succ_cons, List.drop_zero, List.drop_nil, List.cons_append, List.nil_append, List.append_nil, List.map_cons, List.map_nil, List.all_cons, List.all_nil, List.set_cons_zero, List.set_cons_succ, ne_eq, not_false_eq_true, Option.map_some, Nat.zero_add, beq_self_eq_true, Nat.le_refl, Nat.lt_add_one, view, view2, view1, view0, mapO, capsD_fn, D.sc, D.sc1, D.sc2, resK_nil, resK_tmp, ofRes]))
  · have wa := w0.put user id (by omega) he
    rw [hq] at pa wa
    dsimp only at pa wa
    obtain ⟨w1, w2, w3⟩ := w0
    obtain ⟨v1, v2, v3⟩ := wa
    obtain ⟨uf, us1, ul⟩ := w3 u (findU_some hu).1
    have hid := findU_id hu
    have hfa : findU (us.map (rep (putU u id e))) user = some (putU u id e) := by
      have := findU_rep_eq (u' := putU u id e) (us := us) (u := u) (by show findU us u.id = _; rw [hid]; exact hu)
      have hpi : (putU u id e).id = user := hid
      rw [hpi] at this
      exact this
    have hoa : other ≠ user → findU (us.map (rep (putU u id e))) other = findU us other := fun h => findU_rep_ne (by show u.id ≠ other; rw [hid]; exact fun hh => h hh.symm)
    have ra := rises17_p t (us.map (rep (putU u id e))) ps ds (by omega) (fun x hx => by have := (v3 x hx).2.2; omega)
    rw [rises_wel ⟨v1, v2, v3⟩] at ra
    have ev := event_p t (us.map (rep (putU u id e))) ps ds user id (by omega) v2 (fun x hx => by have := (v3 x hx).2.2; omega) (fun x hx => (v3 x hx).2.1)
    unfold findER at ev
    rw [hfa] at ev
    have fe : findE (putU u id e).evs id = some ⟨id, e⟩ := findE_put u.evs id e
    simp only [Option.getD_some] at ev
    rw [fe] at ev
    simp only [Option.map_some, Option.getD_some, Option.isSome_some] at ev
    have se := sameEv_p e e he he
    rw [decide_eq_true rfl] at se
    have fu := bookFind_p t us ps ds user (by omega) w2
    unfold findUR at fu
    rw [hu] at fu
    simp only [Option.getD_some, Option.isSome_some] at fu
    have pl := putEv_len u.evs id e
    have ca := ca_ok t (us.map (rep (putU u id e))) ps ds user id (putU u id e) (by omega) v2 hfa (by show (putEv u.evs id e).length ≤ _; omega) (putEv_sorted id e us1) (by rw [fe]; rfl)
    have wb : Wel ((us.map (rep (putU u id e))).map (rep (delU (putU u id e) id))) 11 := by
      refine Wel.rep ⟨v1, v2, v3⟩ (Nat.le_refl _) (delU_fit (putU_fit uf (by omega) he)) (delEv_sorted id (putEv_sorted id e us1)) ?_
      have := delEv_len (putEv u.evs id e) id
      show (delEv (putEv u.evs id e) id).length ≤ _
      omega
    obtain ⟨x1, x2, x3⟩ := wb
    have hfb : findU ((us.map (rep (putU u id e))).map (rep (delU (putU u id e) id))) user = some (delU (putU u id e) id) := by
      have := findU_rep_eq (u' := delU (putU u id e) id) (us := us.map (rep (putU u id e))) (u := putU u id e) (by show findU _ u.id = _; rw [hid]; exact hfa)
      have hpi : (delU (putU u id e) id).id = user := hid
      rw [hpi] at this
      exact this
    have hob : other ≠ user → findU ((us.map (rep (putU u id e))).map (rep (delU (putU u id e) id))) other = findU us other := fun h => by
      rw [findU_rep_ne (by show u.id ≠ other; rw [hid]; exact fun hh => h hh.symm), hoa h]
    have ev2 := event_p t ((us.map (rep (putU u id e))).map (rep (delU (putU u id e) id))) ps ds user id (by omega) x2 (fun x hx => by have := (x3 x hx).2.2; omega) (fun x hx => (x3 x hx).2.1)
    unfold findER at ev2
    rw [hfb] at ev2
    simp only [Option.getD_some] at ev2
    rw [show findE (delU (putU u id e) id).evs id = none from findE_del _ id] at ev2
    simp only [Option.map_none, Option.getD_none, Option.isSome_none] at ev2
    have fo := bookFind_p t us ps ds other (by omega) w2
    have fo2 := bookFind_p t ((us.map (rep (putU u id e))).map (rep (delU (putU u id e) id))) ps ds other (by omega) x2
    unfold findUR at fo fo2
    have hver : (putU u id e).ver = IntKind.u64.wrap (u.ver + 1) := rfl
    rw [hver] at ca
    generalize (us.map (rep (putU u id e))).map (rep (delU (putU u id e) id)) = usb at ca ev2 fo2 hob
    generalize us.map (rep (putU u id e)) = usa at pa ra ev ca
    generalize zE = z at ev2
    by_cases hou : other = user
    · have c3 : (other == user) = true := by simpa using hou
      generalize (findU usb other).getD zU = p1 at fo2
      generalize (findU usb other).isSome = p2 at fo2
      generalize (findU us other).getD zU = p3 at fo
      generalize (findU us other).isSome = p4 at fo
      simp only [c6, St, Ev.cells, Us.row] at h1 h2 pa ra ev se fu ca ev2 fo fo2 ⊢
      repeat' ((first | refine Run_seq ?_ | refine Run_skip ?_ | refine Run_block ?_ | refine Run_blk ?_ | refine Run_exit rfl ?_ | refine Run_ret ?_ | refine Run_nil ?_ | refine Run_condK ?_ | refine Run_ops mixed ?_ | refine Run_opsX mixed ?_ | with_reducible refine PostV_open ?_ | with_reducible refine PostG_open ?_ | with_reducible refine PostQ_open ?_ | with_reducible refine ro_callV ?_ | with_reducible refine ro_callVX ?_ | refine CallV_pure (h1) ?_ ?_ | refine CallV_pure (h2) ?_ ?_ | refine CallV_pure (pa) ?_ ?_ | refine CallV_pure (ev) ?_ ?_ | refine CallV_pure (fu) ?_ ?_ | refine CallV_pure (se) ?_ ?_ | refine CallV_pure (ra) ?_ ?_ | refine CallV_pure (ca) ?_ ?_ | refine CallV_pure (ev2) ?_ ?_ | refine CallV_pure (fo) ?_ ?_ | refine CallV_pure (fo2) ?_ ?_ | refine CallV_pure (fixed_p) ?_ ?_ | simp (disch := omega) only [w64, wu64, wu32, wu16, wu8, Int.tdiv_eq_ediv_of_nonneg, Int.tmod_eq_emod_of_nonneg] | (with_reducible refine SliceK_own rfl rfl ?_ ?_; (focus ((try simp only [row1_len, row2_len, row3_len, rowsE_len, rowsU_len, rowsP_len, rowsD_len, reduceIte, Int.natCast_nonneg, Int.le_refl, List.length_append, List.length_map, Nat.sub_zero]) <;> ((repeat' (with_reducible refine And.intro ?_ ?_)) <;> first | exact trivial | assumption | (simp; done) | (simp only [List.length_map] at *; omega) | omega | (simp [D.cells, D.ok, D.one, D.pt, D.pt1]; done))))) | (refine GuardK_split (fun hc => ?_) (fun hc => ?_) <;> (try simp only [hc]) <;> (try simp at hc)) | (refine CondK_split (fun hc => ?_) (fun hc => ?_) <;> (try simp only [hc]) <;> (try simp at hc)) | (with_reducible refine And.intro ?_ ?_; (focus ((repeat' (with_reducible refine And.intro ?_ ?_)) <;> first | exact trivial | assumption | (simp; done) | (simp only [List.length_map] at *; omega) | omega | (simp [D.cells, D.ok, D.one, D.pt, D.pt1]; done)))) | (with_reducible intro x hx) | omega) <;> (try simp only [c3, ro_nil, ro_mov, ro_pick, ro_bin, ro_un, ro_faddr, ro_ext, ro_load, LoadK_ptr, LoadO_some, LoadR_some, ro_box, ro_alloc, ro_store, StoreK_ptr, StoreO_some, StoreR_some, viewS_own', ro_guard, GuardK_tt, GuardK_ff, GuardK_tf, CondK_f, contP_some, lk_hit, lk_miss, Nat.reduceBEq, put_some, put_none, ev_t, ev_c, argEnv, reduceIte, Nat.reduceAdd, reduceCtorEq, binD, binInt, okD, unD, pickD, faddrD, extD, loadD, splice, D.cells, D.ok, D.one, D.pt, D.pt1, D.pt0, D.norm1, cond_true, cond_false, true_and, and_self, Bool.and_true, Bool.and_false, Bool.not_true, Bool.not_false, Bool.or_true, Bool.or_false, List.getElem?_cons_zero, List.getElem?_cons_succ, List.length_cons, List.length_nil, List.take_succ_cons, List.take_zero, List.take_nil, List.drop_succ_cons, List.drop_zero, List.drop_nil, List.cons_append, List.nil_append, List.append_nil, List.map_cons, List.map_nil, List.all_cons, List.all_nil, List.set_cons_zero, List.set_cons_succ, ne_eq, not_false_eq_true, Option.map_some, Nat.zero_add, beq_self_eq_true, Nat.le_refl, Nat.lt_add_one, view, view2, view1, view0, mapO, capsD_fn, D.sc, D.sc1, D.sc2, resK_nil, resK_tmp, ofRes]))

    · have c3 : (other == user) = false := by simpa using hou
      rw [hob hou] at fo2
      have fp : ((findU us other).getD zU).fit := by
        cases hh : findU us other with
        | none => exact zU_fit
        | some y => exact (w3 y (findU_some hh).1).1
      have su := sameUs_p _ _ fp fp
      rw [decide_eq_true rfl] at su
      generalize (findU us other).getD zU = p3 at fo fo2 su
      generalize (findU us other).isSome = p4 at fo fo2
      simp only [c6, St, Ev.cells, Us.row] at h1 h2 pa ra ev se fu ca ev2 fo fo2 su ⊢
      repeat' ((first | refine Run_seq ?_ | refine Run_skip ?_ | refine Run_block ?_ | refine Run_blk ?_ | refine Run_exit rfl ?_ | refine Run_ret ?_ | refine Run_nil ?_ | refine Run_condK ?_ | refine Run_ops mixed ?_ | refine Run_opsX mixed ?_ | with_reducible refine PostV_open ?_ | with_reducible refine PostG_open ?_ | with_reducible refine PostQ_open ?_ | with_reducible refine ro_callV ?_ | with_reducible refine ro_callVX ?_ | refine CallV_pure (h1) ?_ ?_ | refine CallV_pure (h2) ?_ ?_ | refine CallV_pure (pa) ?_ ?_ | refine CallV_pure (ev) ?_ ?_ | refine CallV_pure (fu) ?_ ?_ | refine CallV_pure (se) ?_ ?_ | refine CallV_pure (ra) ?_ ?_ | refine CallV_pure (ca) ?_ ?_ | refine CallV_pure (ev2) ?_ ?_ | refine CallV_pure (fo) ?_ ?_ | refine CallV_pure (fo2) ?_ ?_ | refine CallV_pure (fixed_p) ?_ ?_ | refine CallV_pure (su) ?_ ?_ | simp (disch := omega) only [w64, wu64, wu32, wu16, wu8, Int.tdiv_eq_ediv_of_nonneg, Int.tmod_eq_emod_of_nonneg] | (with_reducible refine SliceK_own rfl rfl ?_ ?_; (focus ((try simp only [row1_len, row2_len, row3_len, rowsE_len, rowsU_len, rowsP_len, rowsD_len, reduceIte, Int.natCast_nonneg, Int.le_refl, List.length_append, List.length_map, Nat.sub_zero]) <;> ((repeat' (with_reducible refine And.intro ?_ ?_)) <;> first | exact trivial | assumption | (simp; done) | (simp only [List.length_map] at *; omega) | omega | (simp [D.cells, D.ok, D.one, D.pt, D.pt1]; done))))) | (refine GuardK_split (fun hc => ?_) (fun hc => ?_) <;> (try simp only [hc]) <;> (try simp at hc)) | (refine CondK_split (fun hc => ?_) (fun hc => ?_) <;> (try simp only [hc]) <;> (try simp at hc)) | (with_reducible refine And.intro ?_ ?_; (focus ((repeat' (with_reducible refine And.intro ?_ ?_)) <;> first | exact trivial | assumption | (simp; done) | (simp only [List.length_map] at *; omega) | omega | (simp [D.cells, D.ok, D.one, D.pt, D.pt1]; done)))) | (with_reducible intro x hx) | omega) <;> (try simp only [c3, ro_nil, ro_mov, ro_pick, ro_bin, ro_un, ro_faddr, ro_ext, ro_load, LoadK_ptr, LoadO_some, LoadR_some, ro_box, ro_alloc, ro_store, StoreK_ptr, StoreO_some, StoreR_some, viewS_own', ro_guard, GuardK_tt, GuardK_ff, CondK_f, contP_some, lk_hit, lk_miss, Nat.reduceBEq, put_some, put_none, ev_t, ev_c, argEnv, reduceIte, Nat.reduceAdd, reduceCtorEq, binD, binInt, okD, unD, pickD, faddrD, extD, loadD, splice, D.cells, D.ok, D.one, D.pt, D.pt1, D.pt0, D.norm1, cond_true, cond_false, true_and, and_self, Bool.and_true, Bool.and_false, Bool.not_true, Bool.not_false, Bool.or_true, Bool.or_false, List.getElem?_cons_zero, List.getElem?_cons_succ, List.length_cons, List.length_nil, List.take_succ_cons, List.take_zero, List.take_nil, List.drop_succ_cons, List.drop_zero, List.drop_nil, List.cons_append, List.nil_append, List.append_nil, List.map_cons, List.map_nil, List.all_cons, List.all_nil, List.set_cons_zero, List.set_cons_succ, ne_eq, not_false_eq_true, Option.map_some, Nat.zero_add, beq_self_eq_true, Nat.le_refl, Nat.lt_add_one, view, view2, view1, view0, mapO, capsD_fn, D.sc, D.sc1, D.sc2, resK_nil, resK_tmp, ofRes]))

end Go.Proofs.Ytapennlmboabeaa
