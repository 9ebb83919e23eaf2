import Derived.Test.YtfpohilhapaiiaaUE8
set_option linter.unusedVariables false
set_option linter.unusedSimpArgs false
set_option linter.unnecessarySimpa false
namespace Go.Proofs.Ytfpohilhapaiiaa
open Go Go.Vi


set_option maxHeartbeats 8000000 in
theorem efiner_p (l : List Sp) (n g more kk : Nat) (hl : l.length ≤ 140737488351232) (fl : FitS l) (hn : n ≤ 255) (hg : g ≤ 255) (hmo : more ≤ 255) (hkk : kk ≤ 255) :
    PureD Try.prog 6 [LS l, .int .u8 n, .int .u8 g, .int .u8 more, .int .u8 kk] (.bool true) := by
  refine pureV Try.func6 low6 (by simp [c6]) ?_
  simp only [c6]
  obtain ⟨d, hd⟩ : ∃ d : Int, 1 + (g : Int) % 60 = d := ⟨_, rfl⟩
  obtain ⟨q, hq⟩ : ∃ q : Int, 1 + (kk : Int) % 5 = q := ⟨_, rfl⟩
  have d1 : 1 ≤ d ∧ d ≤ 60 := by omega
  have q1 : 1 ≤ q ∧ q ≤ 5 := by omega
  by_cases h0 : l.length > 30
  · have c0 : ((l.length : Int) > 30) = True := gtT h0
    repeat' ((first | refine Run_seq ?_ | refine Run_skip ?_ | refine Run_block ?_ | refine Run_blk ?_ | refine Run_exit rfl ?_ | refine Run_ret ?_ | refine Run_nil ?_ | refine Run_condK ?_ | refine Run_ops mixed ?_ | refine Run_opsX mixed ?_ | with_reducible refine PostV_open ?_ | with_reducible refine PostG_open ?_ | with_reducible refine PostQ_open ?_ | with_reducible refine ro_callV ?_ | with_reducible refine ro_callVX ?_ | refine CallV_pure (fixed_p) ?_ ?_ | simp (disch := omega) only [w64, wu64, wu32, wu16, wu8, Int.tdiv_eq_ediv_of_nonneg, Int.tmod_eq_emod_of_nonneg] | (with_reducible refine SliceK_own rfl rfl ?_ ?_; (focus ((try simp only [rowsS_len, rowI_len, reduceIte, Int.natCast_nonneg, Int.le_refl, List.length_append, List.length_map, Nat.sub_zero]) <;> ((repeat' (with_reducible refine And.intro ?_ ?_)) <;> first | exact trivial | assumption | (simp; done) | (simp only [List.length_map] at *; omega) | omega | (simp [D.cells, D.ok, D.one, D.pt, D.pt1]; done))))) | (refine GuardK_split (fun hc => ?_) (fun hc => ?_) <;> (try simp only [hc]) <;> (try simp at hc)) | (refine CondK_split (fun hc => ?_) (fun hc => ?_) <;> (try simp only [hc]) <;> (try simp at hc)) | (with_reducible refine And.intro ?_ ?_; (focus ((repeat' (with_reducible refine And.intro ?_ ?_)) <;> first | exact trivial | assumption | (simp; done) | (simp only [List.length_map] at *; omega) | omega | (simp [D.cells, D.ok, D.one, D.pt, D.pt1]; done)))) | (with_reducible intro x hx) | omega) <;> (try simp only [rowsS_len, c0, ro_nil, ro_mov, ro_bin, ro_len, viewS_own', CondK_t, contP_some, lk_hit, lk_miss, Nat.reduceBEq, put_some, ev_t, ev_c, argEnv, reduceIte, Nat.reduceAdd, binD, binInt, lenD, D.pt0, D.norm1, true_and, Bool.or_true, List.getElem?_nil, List.append_nil, List.map_nil, List.all_nil, Nat.zero_add, decide_true, view, view2, view1, view0, mapO, capsD_fn, D.sc, D.sc1, D.sc2, resK_nil, resK_tmp, ofRes]))
  have c0 : ((l.length : Int) > 30) = False := by simp; omega
  repeat' ((first | refine Run_seq ?_ | refine Run_skip ?_ | refine Run_block ?_ | refine Run_blk ?_ | refine Run_exit rfl ?_ | refine Run_ret ?_ | refine Run_nil ?_ | refine Run_condK ?_ | refine Run_ops mixed ?_ | refine Run_opsX mixed ?_ | with_reducible refine PostV_open ?_ | with_reducible refine PostG_open ?_ | with_reducible refine PostQ_open ?_ | with_reducible refine ro_callV ?_ | with_reducible refine ro_callVX ?_ | simp (disch := omega) only [w64, Int.tmod_eq_emod_of_nonneg] | (with_reducible refine SliceK_own rfl rfl ?_ ?_; (focus ((try simp only [rowsS_len, rowI_len, reduceIte, Int.natCast_nonneg, Int.le_refl, List.length_append, List.length_map, Nat.sub_zero]) <;> ((repeat' (with_reducible refine And.intro ?_ ?_)) <;> first | exact trivial | assumption | (simp; done) | (simp only [List.length_map] at *; omega) | omega | (simp [D.cells, D.ok, D.one, D.pt, D.pt1]; done))))) | (refine GuardK_split (fun hc => ?_) (fun hc => ?_) <;> (try simp only [hc]) <;> (try simp at hc)) | (refine CondK_split (fun hc => ?_) (fun hc => ?_) <;> (try simp only [hc]) <;> (try simp at hc)) | (with_reducible refine And.intro ?_ ?_; (focus ((repeat' (with_reducible refine And.intro ?_ ?_)) <;> first | exact trivial | assumption | (simp; done) | (simp only [List.length_map] at *; omega) | omega | (simp [D.cells, D.ok, D.one, D.pt, D.pt1]; done)))) | (with_reducible intro x hx) | omega) <;> (try simp only [rowsS_len, c0, hd, ro_nil, ro_mov, ro_bin, ro_conv, ro_len, CondK_f, contP_some, lk_hit, lk_miss, Nat.reduceBEq, put_some, ev_t, ev_c, argEnv, reduceIte, Nat.reduceAdd, binD, binInt, convD, lenD, true_and, ne_eq, not_false_eq_true, Nat.zero_add, Int.reduceEq, decide_false]))
  refine Run_loop (ι := {i : Nat // i ≤ l.length ∧ In2 (-100000) 100000 (l.take i)}) (fun i => ([(0, LS l), (1, .int .u8 n), (3, .int .u8 more), (4, .int .u8 kk), (11, .int .i64 d), (28, LS l), (29, .int .i64 l.length), (30, .int .i64 i.1)], [])) (fun i => l.length - i.1) ⟨0, by simp, by simp [In2]⟩ ?_ ?_
  · refine Ent_gc [] (by rfl) (by simp) (by simp [keptW]) (by simp [lk_hit, lk_miss, D.pt0, viewS_own', pull, pull2, pull1, pull0, idx_nil, gate, List.mem_cons, or_false, view0])
  rintro ⟨i, hi, hin⟩ hk'
  dsimp only at hk' ⊢
  by_cases hlt : i < l.length
  · have c3 : ((i : Int) < (l.length : Int)) = True := by simp; omega
    obtain ⟨s, hs⟩ : ∃ s, l[i]? = some s := ⟨_, List.getElem?_eq_getElem hlt⟩
    have hr := rowsS_get hs
    by_cases h3 : s.1 < -100000
    · have c4 : (s.1 < -100000) = True := by simpa using h3
      repeat' ((first | refine Run_seq ?_ | refine Run_skip ?_ | refine Run_block ?_ | refine Run_blk ?_ | refine Run_exit rfl ?_ | refine Run_ret ?_ | refine Run_nil ?_ | refine Run_condK ?_ | refine Run_ops mixed ?_ | refine Run_opsX mixed ?_ | with_reducible refine PostV_open ?_ | with_reducible refine PostG_open ?_ | with_reducible refine PostQ_open ?_ | with_reducible refine ro_callV ?_ | with_reducible refine ro_callVX ?_ | refine CallV_pure (fixed_p) ?_ ?_ | simp (disch := omega) only [w64, wu64, wu32, wu16, wu8, Int.tdiv_eq_ediv_of_nonneg, Int.tmod_eq_emod_of_nonneg] | (with_reducible refine SliceK_own rfl rfl ?_ ?_; (focus ((try simp only [rowsS_len, rowI_len, reduceIte, Int.natCast_nonneg, Int.le_refl, List.length_append, List.length_map, Nat.sub_zero]) <;> ((repeat' (with_reducible refine And.intro ?_ ?_)) <;> first | exact trivial | assumption | (simp; done) | (simp only [List.length_map] at *; omega) | omega | (simp [D.cells, D.ok, D.one, D.pt, D.pt1]; done))))) | (refine GuardK_split (fun hc => ?_) (fun hc => ?_) <;> (try simp only [hc]) <;> (try simp at hc)) | (refine CondK_split (fun hc => ?_) (fun hc => ?_) <;> (try simp only [hc]) <;> (try simp at hc)) | (with_reducible refine And.intro ?_ ?_; (focus ((repeat' (with_reducible refine And.intro ?_ ?_)) <;> first | exact trivial | assumption | (simp; done) | (simp only [List.length_map] at *; omega) | omega | (simp [D.cells, D.ok, D.one, D.pt, D.pt1]; done)))) | (with_reducible intro x hx) | omega) <;> (try simp only [rowsS_len, c3, c4, hr, LoadR_some, IaddrR_some, ro_nil, ro_mov, ro_pick, ro_bin, ro_faddr, ro_load, LoadK_elt, LoadK_ptr, LoadO_some, LoadR_some, ro_alloc, ro_store, StoreK_ptr, StoreO_some, StoreR_some, ro_iaddr, IaddrK_list, IaddrR_some, viewS_own', ro_guard, GuardK_tf, CondK_t, contP_some, lk_hit, lk_miss, Nat.reduceBEq, put_some, put_none, ev_t, ev_c, reduceIte, Nat.reduceAdd, reduceCtorEq, binD, binInt, pickD, faddrD, loadD, splice, D.cells, D.ok, D.one, D.pt1, D.pt0, D.norm1, cond_true, true_and, and_self, Bool.and_true, Bool.or_true, List.getElem?_cons_zero, List.length_cons, List.length_nil, List.take_succ_cons, List.take_zero, List.take_nil, List.drop_succ_cons, List.drop_zero, List.drop_nil, List.nil_append, List.append_nil, List.map_nil, List.all_cons, List.all_nil, List.set_cons_zero, ne_eq, not_false_eq_true, Nat.zero_add, Nat.add_zero, Int.toNat_natCast, Int.reduceNeg, decide_true, Nat.le_refl, Int.natCast_nonneg, Nat.lt_add_one, view, view2, view1, view0, mapO, capsD_fn, D.sc, D.sc1, D.sc2, resK_nil, resK_tmp, ofRes]))
    · have c4 : (s.1 < -100000) = False := by simpa using h3
      by_cases h4 : s.2 > 100000
      · have c5 : (s.2 > 100000) = True := by simpa using h4
        repeat' ((first | refine Run_seq ?_ | refine Run_skip ?_ | refine Run_block ?_ | refine Run_blk ?_ | refine Run_exit rfl ?_ | refine Run_ret ?_ | refine Run_nil ?_ | refine Run_condK ?_ | refine Run_ops mixed ?_ | refine Run_opsX mixed ?_ | with_reducible refine PostV_open ?_ | with_reducible refine PostG_open ?_ | with_reducible refine PostQ_open ?_ | with_reducible refine ro_callV ?_ | with_reducible refine ro_callVX ?_ | refine CallV_pure (fixed_p) ?_ ?_ | simp (disch := omega) only [w64, wu64, wu32, wu16, wu8, Int.tdiv_eq_ediv_of_nonneg, Int.tmod_eq_emod_of_nonneg] | (with_reducible refine SliceK_own rfl rfl ?_ ?_; (focus ((try simp only [rowsS_len, rowI_len, reduceIte, Int.natCast_nonneg, Int.le_refl, List.length_append, List.length_map, Nat.sub_zero]) <;> ((repeat' (with_reducible refine And.intro ?_ ?_)) <;> first | exact trivial | assumption | (simp; done) | (simp only [List.length_map] at *; omega) | omega | (simp [D.cells, D.ok, D.one, D.pt, D.pt1]; done))))) | (refine GuardK_split (fun hc => ?_) (fun hc => ?_) <;> (try simp only [hc]) <;> (try simp at hc)) | (refine CondK_split (fun hc => ?_) (fun hc => ?_) <;> (try simp only [hc]) <;> (try simp at hc)) | (with_reducible refine And.intro ?_ ?_; (focus ((repeat' (with_reducible refine And.intro ?_ ?_)) <;> first | exact trivial | assumption | (simp; done) | (simp only [List.length_map] at *; omega) | omega | (simp [D.cells, D.ok, D.one, D.pt, D.pt1]; done)))) | (with_reducible intro x hx) | omega) <;> (try simp only [rowsS_len, c3, c4, c5, hr, LoadR_some, IaddrR_some, ro_nil, ro_mov, ro_pick, ro_bin, ro_faddr, ro_load, LoadK_elt, LoadK_ptr, LoadO_some, LoadR_some, ro_alloc, ro_store, StoreK_ptr, StoreO_some, StoreR_some, ro_iaddr, IaddrK_list, IaddrR_some, viewS_own', ro_guard, GuardK_ff, CondK_t, contP_some, lk_hit, lk_miss, Nat.reduceBEq, put_some, put_none, ev_t, ev_c, reduceIte, Nat.reduceAdd, reduceCtorEq, binD, binInt, pickD, faddrD, loadD, splice, D.cells, D.ok, D.one, D.pt1, D.pt0, D.norm1, cond_false, true_and, and_self, Bool.and_true, Bool.or_true, List.getElem?_cons_zero, List.getElem?_cons_succ, List.length_cons, List.length_nil, List.take_succ_cons, List.take_zero, List.take_nil, List.drop_succ_cons, List.drop_zero, List.drop_nil, List.nil_append, List.append_nil, List.map_nil, List.all_cons, List.all_nil, List.set_cons_zero, ne_eq, not_false_eq_true, Nat.zero_add, Nat.add_zero, Int.toNat_natCast, Int.reduceNeg, decide_true, decide_false, Nat.le_refl, Int.natCast_nonneg, Nat.lt_add_one, view, view2, view1, view0, mapO, capsD_fn, D.sc, D.sc1, D.sc2, resK_nil, resK_tmp, ofRes]))
      · have c5 : (s.2 > 100000) = False := by simpa using h4
        repeat' ((first | refine Run_seq ?_ | refine Run_skip ?_ | refine Run_block ?_ | refine Run_blk ?_ | refine Run_exit rfl ?_ | refine Run_ret ?_ | refine Run_nil ?_ | refine Run_condK ?_ | refine Run_ops mixed ?_ | refine Run_opsX mixed ?_ | with_reducible refine PostV_open ?_ | with_reducible refine PostG_open ?_ | with_reducible refine PostQ_open ?_ | with_reducible refine ro_callV ?_ | with_reducible refine ro_callVX ?_ | simp (disch := omega) only [w64] | (with_reducible refine SliceK_own rfl rfl ?_ ?_; (focus ((try simp only [rowsS_len, rowI_len, reduceIte, Int.natCast_nonneg, Int.le_refl, List.length_append, List.length_map, Nat.sub_zero]) <;> ((repeat' (with_reducible refine And.intro ?_ ?_)) <;> first | exact trivial | assumption | (simp; done) | (simp only [List.length_map] at *; omega) | omega | (simp [D.cells, D.ok, D.one, D.pt, D.pt1]; done))))) | (refine GuardK_split (fun hc => ?_) (fun hc => ?_) <;> (try simp only [hc]) <;> (try simp at hc)) | (refine CondK_split (fun hc => ?_) (fun hc => ?_) <;> (try simp only [hc]) <;> (try simp at hc)) | (with_reducible refine And.intro ?_ ?_; (focus ((repeat' (with_reducible refine And.intro ?_ ?_)) <;> first | exact trivial | assumption | (simp; done) | (simp only [List.length_map] at *; omega) | omega | (simp [D.cells, D.ok, D.one, D.pt, D.pt1]; done)))) | (with_reducible intro x hx) | omega) <;> (try simp only [rowsS_len, c3, c4, c5, hr, LoadR_some, IaddrR_some, ro_nil, ro_mov, ro_pick, ro_bin, ro_faddr, ro_load, LoadK_elt, LoadK_ptr, LoadO_some, LoadR_some, ro_alloc, ro_store, StoreK_ptr, StoreO_some, StoreR_some, ro_iaddr, IaddrK_list, IaddrR_some, ro_guard, GuardK_ff, CondK_t, CondK_f, contP_some, lk_hit, lk_miss, Nat.reduceBEq, put_some, put_none, ev_t, ev_c, reduceIte, Nat.reduceAdd, reduceCtorEq, binD, binInt, pickD, faddrD, loadD, splice, D.cells, D.ok, D.one, D.pt1, cond_false, true_and, and_self, Bool.and_true, List.getElem?_cons_zero, List.getElem?_cons_succ, List.length_cons, List.length_nil, List.take_succ_cons, List.take_zero, List.take_nil, List.drop_succ_cons, List.drop_zero, List.drop_nil, List.nil_append, List.append_nil, List.all_cons, List.all_nil, List.set_cons_zero, ne_eq, not_false_eq_true, Nat.zero_add, Nat.add_zero, Int.toNat_natCast, Int.reduceNeg, decide_true, decide_false, Nat.le_refl, Int.natCast_nonneg, Nat.lt_add_one]))
        refine hk' ⟨i + 1, by omega, hin.snoc hs (by omega) (by omega)⟩ _ _ (by dsimp only; omega) ?_
        dsimp only
        refine Ent_gc [] (by rfl) (by simp) (by simp [keptW]) (by simp [lk_hit, lk_miss, D.pt0, viewS_own', pull, pull2, pull1, pull0, idx_nil, gate, List.mem_cons, or_false, view0])
  have c3 : ((i : Int) < (l.length : Int)) = False := by simp; omega
  obtain rfl : i = l.length := by omega
  rw [List.take_length] at hin
  clear hk'
  have hdq : d ∣ d * q := ⟨q, rfl⟩
  have dq1 : 1 ≤ d * q ∧ d * q ≤ 300 := by
    have a1 := Int.mul_le_mul_of_nonneg_left (show 1 ≤ q by omega) (show 0 ≤ d by omega)
    have a2 := Int.mul_le_mul_of_nonneg_left (show q ≤ 5 by omega) (show 0 ≤ d by omega)
    omega
  have eD : IntKind.i64.wrap (d * q) = d * q := w64 (by omega) (by omega)
  generalize hD : d * q = D2 at hdq dq1 eD
  have se := startsE_p l ((n : Int) + (more : Int)) D2 200 (by omega) fl (by omega)
  have hrw := row_p l (by omega)
  have sf := spOk_frm fl
  have fln := frm_len l
  have hc := (frm_spec l).1
  have hpk := pick_p (frm l) (0, 0) n d
  have p0o := pk0_ok sf (by omega)
  obtain ⟨hn1, hn2⟩ := heldI_ok (n : Int)
  have hn3 : heldI (n : Int) ≤ heldI ((n : Int) + (more : Int)) := by unfold heldI; omega
  have p0W := pk0_outs sf (n := heldI (n : Int)) (by omega) d
  have hfi := fun x hx => finer hc (n := heldI (n : Int)) (k := heldI ((n : Int) + (more : Int))) (g := d) (h := D2) (x := x) (by omega) hn3 (by omega) (by omega) hdq hx
  have hWs := gridL_sorted (g := d) (by omega) _ (stS_sorted hc (n := heldI (n : Int)) (by omega))
  have hVs := gridL_sorted (g := D2) (by omega) _ (stS_sorted hc (n := heldI ((n : Int) + (more : Int))) (by omega))
  rw [held_id (n := D2) (by omega) (by omega)] at se
  rw [held_id (n := d) (by omega) (by omega)] at hpk
  have p0t : (pk0 (frm l)).t.ok := by simp [pk0, Ts.ok]
  obtain ⟨V, hV⟩ : ∃ V, V = (gridL D2 (stS (heldI ((n : Int) + (more : Int))) (frm l))).take 200 := ⟨_, rfl⟩
  have hVm : ∀ x ∈ V, x ∈ gridL d (stS (heldI (n : Int)) (frm l)) := fun x hx => hfi x (List.mem_of_mem_take (by rw [← hV]; exact hx))
  have hVs' : V.Pairwise (· < ·) := by rw [hV]; exact hVs.take
  have hVl : V.length ≤ 200 := by rw [hV, List.length_take]; omega
  rw [← hV] at se
  have hVF : ∀ x ∈ V, Fit x := fun x hx => by
    have h1 := (mem_gridL (by omega) _ _).1 (hVm x hx)
    obtain ⟨s, hs, a, b⟩ := hasS_iff.1 h1.1
    have h2 := stS_ok (n := heldI (n : Int)) (by omega) (k := -9223372036854775808) (fun s hs => (sf s hs).2.1.1) s hs
    obtain ⟨y, hy, hys⟩ := List.mem_flatMap.1 hs
    have h3 := (sf y hy).2.2
    split at hys
    · obtain rfl : s = _ := by simpa using hys
      unfold Fit at h3 ⊢
      dsimp only at a b h2
      omega
    · cases hys
  generalize gridL d (stS (heldI (n : Int)) (frm l)) = W at p0W hVm hWs
  generalize heldI (n : Int) = n' at hn1 hn2 hpk p0W
  generalize hF : frm l = F at hrw hpk p0o p0W p0t
  clear hfi hVs hV
  repeat' ((first | refine Run_seq ?_ | refine Run_skip ?_ | refine Run_block ?_ | refine Run_blk ?_ | refine Run_exit rfl ?_ | refine Run_ret ?_ | refine Run_nil ?_ | refine Run_condK ?_ | refine Run_ops mixed ?_ | refine Run_opsX mixed ?_ | with_reducible refine PostV_open ?_ | with_reducible refine PostG_open ?_ | with_reducible refine PostQ_open ?_ | with_reducible refine ro_callA (f := .c (.fn 12 [])) ?_ | with_reducible refine ro_callA' (f := .c (.fn 12 [])) ?_ | with_reducible refine ro_callA (f := .c (.fn 11 [])) ?_ | with_reducible refine ro_callA' (f := .c (.fn 11 [])) ?_ | with_reducible refine ro_callV ?_ | with_reducible refine ro_callVX ?_ | refine CallV_pure (se) ?_ ?_ | with_reducible refine CallE_use (hrw) (by simp) ?_ | with_reducible refine CallE_use (hpk) (by simp) ?_ | simp (disch := omega) only [w64, Int.tmod_eq_emod_of_nonneg] | (with_reducible refine SliceK_own rfl rfl ?_ ?_; (focus ((try simp only [rowsS_len, rowI_len, reduceIte, Int.natCast_nonneg, Int.le_refl, List.length_append, List.length_map, Nat.sub_zero]) <;> ((repeat' (with_reducible refine And.intro ?_ ?_)) <;> first | exact trivial | assumption | (simp; done) | (simp only [List.length_map] at *; omega) | omega | (simp [D.cells, D.ok, D.one, D.pt, D.pt1]; done))))) | (refine GuardK_split (fun hc => ?_) (fun hc => ?_) <;> (try simp only [hc]) <;> (try simp at hc)) | (refine CondK_split (fun hc => ?_) (fun hc => ?_) <;> (try simp only [hc]) <;> (try simp at hc)) | (with_reducible refine And.intro ?_ ?_; (focus ((repeat' (with_reducible refine And.intro ?_ ?_)) <;> first | exact trivial | assumption | (simp; done) | (simp only [List.length_map] at *; omega) | omega | (simp [D.cells, D.ok, D.one, D.pt, D.pt1]; done)))) | (with_reducible intro x hx) | omega) <;> (try simp only [rowI_len, c3, hq, hD, eD, ro_nil, ro_mov, ro_bin, ro_conv, ro_len, CondK_f, contP_some, lk_hit, lk_miss, Nat.reduceBEq, put_some, ev_t, ev_c, reduceIte, Nat.reduceAdd, Nat.reduceSub, Nat.reduceLT, reduceCtorEq, binD, binInt, convD, lenD, D.pt, D.pt1, D.pt0, D.norm1, true_and, Bool.and_true, Bool.or_false, List.getElem?_cons_zero, List.length_cons, List.length_nil, List.drop_succ_cons, List.drop_zero, List.cons_append, List.nil_append, List.append_nil, List.map_cons, List.map_nil, List.all_cons, List.all_nil, List.set_cons_zero, ne_eq, not_false_eq_true, Nat.zero_add, Nat.add_zero, Nat.sub_self, Int.reduceEq, Int.reduceNeg, decide_false, Nat.lt_irrefl, Nat.lt_add_one, view, view2, view1, view0, mapO, capsD_fn, D.sc, D.sc1, D.sc2, pull, pull2, pull1, pull0, idx_hit, pullσ, pullOb, Go.Vi.freeze, capt, reachL, reachO, isin, List.flatten_cons, List.flatten_nil, merge, mset, renOb, fr, D.ren, D.renL, List.getD_cons_zero, List.getD_cons_succ]))
  refine Run_loop (ι := {r : Nat × Pk // r.1 ≤ V.length ∧ (∃ c : Int, r.2.outs d n' = W.filter (fun y => decide (c ≤ y)) ∧ ∀ x ∈ V.drop r.1, c ≤ x) ∧ PkOk r.2 ∧ r.2.t.ok}) (fun r => ([(15, .ptr 0 0 0 1), (63, LI V), (64, .int .i64 V.length), (65, .int .i64 r.1.1)], PkO d n' r.1.2)) (fun r => V.length - r.1.1) ⟨(0, pk0 F), by simp, ⟨-9223372036854775808, by
      dsimp only
      rw [p0W, List.filter_eq_self.2]
      intro y hy
      rw [← p0W] at hy
      rw [pk0_outs (by rw [← hF]; exact spOk_frm fl) (by omega)] at hy
      have h1 := (mem_gridL (by omega) _ _).1 hy
      obtain ⟨s, hs, a, b⟩ := hasS_iff.1 h1.1
      have h2 := stS_ok (n := n') (by omega) (k := -9223372036854775808) (fun s hs => (spOk_frm fl s (by rw [hF]; exact hs)).2.1.1) s hs
      simp only [decide_eq_true_eq]
      omega, fun x hx => (hVF x (List.mem_of_mem_drop hx)).1⟩, p0o, p0t⟩ ?_ ?_
  · simp only [pk0]
    refine Ent_gc [3, 2, 1, 0] (by rfl) (by simp) (by simp [keptW, ObKW, ObW, imp_self, D.pt1, D.pt0, pull1, pull0, idx_hit, idx_miss, sucO_some, pullOb, or_false, mapO]) (by simp [lk_hit, lk_miss, D.pt0, viewS_own', pull, pull2, pull1, pull0, idx_hit, gate, List.mem_cons, or_false, view0])
    skip
  rintro ⟨⟨j, p⟩, hj1, ⟨c, hj2, hj5⟩, hj3, hj4⟩ hk'
  dsimp only at hj1 hj2 hj3 hj4 hj5 hk' ⊢
  by_cases hlt3 : j < V.length
  · have c5 : ((j : Int) < (V.length : Int)) = True := by simp; omega
    obtain ⟨x, hx⟩ : ∃ x, V[j]? = some x := ⟨_, List.getElem?_eq_getElem hlt3⟩
    have hr := rowI_get hx
    have hxm := List.mem_of_getElem? hx
    have e := drop_cons hx
    have hcx := hj5 x (by rw [e]; simp)
    have hsp := skipP_p d n' x p
    have hso := Pk.skip_outs (g := d) (by omega) n' x p hj4
    have hsk1 := PkOk.skipTo (hVF x hxm) hj3
    have hsk2 : (p.skipTo x).t.ok := Ts.skip_ok x _ hj4
    rw [hj2, filter_filter_le hcx, filter_from hWs (hVm x hxm)] at hso
    generalize p.skipTo x = ps at hsp hso hsk1 hsk2
    have hnx := nextP_p d n' ps (by omega) ⟨hn1, hn2⟩ (ps.need n') (Nat.le_refl _) hsk1
    obtain ⟨s1, s2, s3, s4⟩ := nextP_spec (show 0 < d by omega) n' (ps.need n') ps (Nat.le_refl _) hsk2
    have nok := nextP_ok (g := d) (show 0 < d by omega) ⟨hn1, hn2⟩ (ps.need n') ps hsk1
    rw [hso] at s1 s2
    rw [s1] at hnx
    generalize (nextP d n' (ps.need n') ps).2 = p' at hnx s2 s3 s4 nok
    simp only [List.head?_cons, List.tail_cons, ansP] at hnx s2
    have c7 : (x != x) = false := by simp
    repeat' ((first | refine Run_seq ?_ | refine Run_skip ?_ | refine Run_block ?_ | refine Run_blk ?_ | refine Run_exit rfl ?_ | refine Run_ret ?_ | refine Run_nil ?_ | refine Run_condK ?_ | refine Run_ops mixed ?_ | refine Run_opsX mixed ?_ | with_reducible refine PostV_open ?_ | with_reducible refine PostG_open ?_ | with_reducible refine PostQ_open ?_ | with_reducible refine ro_callA (f := .c (.fn 13 [])) ?_ | with_reducible refine ro_callA' (f := .c (.fn 13 [])) ?_ | with_reducible refine ro_callA (f := .c (.fn 14 [])) ?_ | with_reducible refine ro_callA' (f := .c (.fn 14 [])) ?_ | with_reducible refine ro_callV ?_ | with_reducible refine ro_callVX ?_ | with_reducible refine CallE_use (hsp) (by simp) ?_ | with_reducible refine CallE_use (hnx) (by simp) ?_ | simp (disch := omega) only [w64] | (with_reducible refine SliceK_own rfl rfl ?_ ?_; (focus ((try simp only [rowsS_len, rowI_len, reduceIte, Int.natCast_nonneg, Int.le_refl, List.length_append, List.length_map, Nat.sub_zero]) <;> ((repeat' (with_reducible refine And.intro ?_ ?_)) <;> first | exact trivial | assumption | (simp; done) | (simp only [List.length_map] at *; omega) | omega | (simp [D.cells, D.ok, D.one, D.pt, D.pt1]; done))))) | (refine GuardK_split (fun hc => ?_) (fun hc => ?_) <;> (try simp only [hc]) <;> (try simp at hc)) | (refine CondK_split (fun hc => ?_) (fun hc => ?_) <;> (try simp only [hc]) <;> (try simp at hc)) | (with_reducible refine And.intro ?_ ?_; (focus ((repeat' (with_reducible refine And.intro ?_ ?_)) <;> first | exact trivial | assumption | (simp; done) | (simp only [List.length_map] at *; omega) | omega | (simp [D.cells, D.ok, D.one, D.pt, D.pt1]; done)))) | (with_reducible intro x hx) | omega) <;> (try simp only [rowI_len, c5, c7, hr, IaddrR_some, ro_nil, ro_mov, ro_pick, ro_bin, ro_un, ro_ext, ro_load, LoadK_elt, ro_iaddr, IaddrK_list, IaddrR_some, ro_guard, GuardK_ff, CondK_t, CondK_f, contP_some, lk_hit, lk_miss, Nat.reduceBEq, put_some, ev_t, ev_c, reduceIte, Nat.reduceEqDiff, Nat.reduceAdd, Nat.reduceSub, Nat.reduceLT, reduceCtorEq, binD, binInt, okD, unD, pickD, extD, loadD, D.pt1, D.pt0, cond_false, true_and, and_self, Bool.and_true, Bool.and_false, Bool.not_true, List.getElem?_cons_zero, List.getElem?_cons_succ, List.length_cons, List.length_nil, List.drop_succ_cons, List.drop_nil, List.cons_append, List.nil_append, List.append_nil, List.map_cons, List.map_nil, List.all_cons, List.all_nil, List.set_cons_zero, List.set_cons_succ, Nat.zero_add, Nat.add_zero, Int.toNat_natCast, Int.reduceNeg, decide_true, Int.natCast_nonneg, Nat.lt_add_one, mapO, capsD_fn, pull, pull2, pull1, pull0, idx_hit, idx_miss, sucO_some, pullσ, pullOb, Go.Vi.freeze, capt, reachL, reachO, isin, List.flatten_cons, List.flatten_nil, merge, mset, renOb, fr, D.ren, D.renL, List.getD_cons_zero, List.getD_cons_succ]))
    refine hk' ⟨(j + 1, p'), by dsimp only; omega, ⟨x + 1, s2, fun y hy => ?_⟩, nok, s3⟩ _ _ (by dsimp only; omega) ?_
    · dsimp only at hy
      have hp := hVs'.drop (i := j)
      rw [e] at hp
      have := (List.pairwise_cons.1 hp).1 y hy
      omega
    dsimp only
    refine Ent_gc [0, 1, 2, 3] (by rfl) (by simp) (by simp [keptW, ObKW, ObW, imp_self, D.pt1, D.pt0, pull1, pull0, idx_hit, idx_miss, sucO_some, pullOb, or_false, mapO]) (by simp [lk_hit, lk_miss, D.pt0, viewS_own', pull, pull2, pull1, pull0, idx_hit, gate, List.mem_cons, or_false, view0])
  · have c5 : ((j : Int) < (V.length : Int)) = False := by simp; omega
    repeat' ((first | refine Run_seq ?_ | refine Run_skip ?_ | refine Run_block ?_ | refine Run_blk ?_ | refine Run_exit rfl ?_ | refine Run_ret ?_ | refine Run_nil ?_ | refine Run_condK ?_ | refine Run_ops mixed ?_ | refine Run_opsX mixed ?_ | with_reducible refine PostV_open ?_ | with_reducible refine PostG_open ?_ | with_reducible refine PostQ_open ?_ | with_reducible refine ro_callV ?_ | with_reducible refine ro_callVX ?_ | refine CallV_pure (fixed_p) ?_ ?_ | simp (disch := omega) only [w64, wu64, wu32, wu16, wu8, Int.tdiv_eq_ediv_of_nonneg, Int.tmod_eq_emod_of_nonneg] | (with_reducible refine SliceK_own rfl rfl ?_ ?_; (focus ((try simp only [rowsS_len, rowI_len, reduceIte, Int.natCast_nonneg, Int.le_refl, List.length_append, List.length_map, Nat.sub_zero]) <;> ((repeat' (with_reducible refine And.intro ?_ ?_)) <;> first | exact trivial | assumption | (simp; done) | (simp only [List.length_map] at *; omega) | omega | (simp [D.cells, D.ok, D.one, D.pt, D.pt1]; done))))) | (refine GuardK_split (fun hc => ?_) (fun hc => ?_) <;> (try simp only [hc]) <;> (try simp at hc)) | (refine CondK_split (fun hc => ?_) (fun hc => ?_) <;> (try simp only [hc]) <;> (try simp at hc)) | (with_reducible refine And.intro ?_ ?_; (focus ((repeat' (with_reducible refine And.intro ?_ ?_)) <;> first | exact trivial | assumption | (simp; done) | (simp only [List.length_map] at *; omega) | omega | (simp [D.cells, D.ok, D.one, D.pt, D.pt1]; done)))) | (with_reducible intro x hx) | omega) <;> (try simp only [c5, ro_nil, ro_mov, ro_bin, viewS_own', CondK_f, contP_some, lk_hit, lk_miss, Nat.reduceBEq, put_some, ev_t, ev_c, reduceIte, binD, binInt, D.pt0, D.norm1, true_and, Bool.or_true, List.append_nil, List.map_nil, List.all_nil, decide_false, view, view2, view1, view0, mapO, capsD_fn, D.sc, D.sc1, D.sc2, resK_nil, resK_tmp, ofRes]))
end Go.Proofs.Ytfpohilhapaiiaa
