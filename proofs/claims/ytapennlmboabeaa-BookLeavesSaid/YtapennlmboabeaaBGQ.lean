import Derived.Test.YtapennlmboabeaaBGD
set_option linter.unusedVariables false
set_option linter.unusedSimpArgs false
set_option linter.unnecessarySimpa false
namespace Go.Proofs.Ytapennlmboabeaa
open Go Go.Vi


theorem clP_ne (tg : Bool) (l : List (List D)) (hne : l ≠ []) (hsz : ∀ r ∈ l, r.length = 16) (hl : l.length ≤ 400000000000) : CallG Try.prog 29 [.list none tg l] [] (.own 0 0 l.length l.length 16 none) [acc true 16 true l] := by
  refine callG Try.func29 low29 (by simp [c29]) ?_
  simp only [c29]
  refine Run_nils 0 rfl fun b hb => ?_
  obtain rfl : b = false := by
    cases b with
    | false => rfl
    | true => exact absurd (hb rfl) hne
  repeat' ((first | refine Run_seq ?_ | refine Run_skip ?_ | refine Run_block ?_ | refine Run_blk ?_ | refine Run_exit rfl ?_ | refine Run_ret ?_ | refine Run_nil ?_ | refine Run_condK ?_ | refine Run_ops mixed ?_ | refine Run_opsX mixed ?_ | with_reducible refine PostV_open ?_ | with_reducible refine PostG_open ?_ | with_reducible refine PostQ_open ?_ | with_reducible refine ro_callV ?_ | with_reducible refine ro_callVX ?_ | simp (disch := omega) only [w64, wu64, wu32, wu16, wu8, Int.tdiv_eq_ediv_of_nonneg, Int.tmod_eq_emod_of_nonneg] | (with_reducible refine SliceK_own rfl rfl ?_ ?_; (focus ((try simp only [row1_len, row2_len, row3_len, rowsE_len, rowsU_len, rowsP_len, rowsD_len, reduceIte, Int.natCast_nonneg, Int.le_refl, List.length_append, List.length_map, Nat.sub_zero]) <;> ((repeat' (with_reducible refine And.intro ?_ ?_)) <;> first | exact trivial | assumption | (simp; done) | (simp only [List.length_map] at *; omega) | omega | (simp [D.cells, D.ok, D.one, D.pt, D.pt1]; done))))) | (refine GuardK_split (fun hc => ?_) (fun hc => ?_) <;> (try simp only [hc]) <;> (try simp at hc)) | (refine CondK_split (fun hc => ?_) (fun hc => ?_) <;> (try simp only [hc]) <;> (try simp at hc)) | (with_reducible refine And.intro ?_ ?_; (focus ((repeat' (with_reducible refine And.intro ?_ ?_)) <;> first | exact trivial | assumption | (simp; done) | (simp only [List.length_map] at *; omega) | omega | (simp [D.cells, D.ok, D.one, D.pt, D.pt1]; done)))) | (with_reducible intro x hx) | omega) <;> (try simp only [ro_nil, ro_mov, ro_slit, SlitK_t, ro_eq, ro_app, newsD_list, AppN_some, AppS_nil, eqO_list, CondK_f, contP_some, lk_hit, lk_miss, Nat.reduceBEq, put_some, ev_t, ev_c, argEnv, eqD, eqN, boolD, D.cells, D.ok, D.one, cond_false, true_and, and_self, Bool.not_false, List.length_nil, List.nil_append, List.map_nil, List.all_nil, List.not_mem_nil, false_imp_iff, implies_true, Nat.zero_lt_succ, resK_nil, resK_tmp, ofRes]))
  rw [acc_b' (by simpa using hne)]
  refine GcTo_own [0] (by rfl) (by simp) (by simp [keptW, ObKW, ObW, imp_self, acc_real, acc_nl, acc_pure, acc_fz, acc_sz, acc_rows, acc_spare, pull, pull2, pull1, pull0, idx_hit, pullOb])
theorem clP_nil (tg : Bool) : CallG Try.prog 29 [.list (some true) tg []] [] (.list (some true) true []) [] := by
  refine callG Try.func29 low29 (by simp [c29]) ?_
  simp only [c29]
  repeat' ((first | refine Run_seq ?_ | refine Run_skip ?_ | refine Run_block ?_ | refine Run_blk ?_ | refine Run_exit rfl ?_ | refine Run_ret ?_ | refine Run_nil ?_ | refine Run_condK ?_ | refine Run_ops mixed ?_ | refine Run_opsX mixed ?_ | with_reducible refine PostV_open ?_ | with_reducible refine PostG_open ?_ | with_reducible refine PostQ_open ?_ | with_reducible refine ro_callV ?_ | with_reducible refine ro_callVX ?_ | simp (disch := omega) only [w64, wu64, wu32, wu16, wu8, Int.tdiv_eq_ediv_of_nonneg, Int.tmod_eq_emod_of_nonneg] | (with_reducible refine SliceK_own rfl rfl ?_ ?_; (focus ((try simp only [row1_len, row2_len, row3_len, rowsE_len, rowsU_len, rowsP_len, rowsD_len, reduceIte, Int.natCast_nonneg, Int.le_refl, List.length_append, List.length_map, Nat.sub_zero]) <;> ((repeat' (with_reducible refine And.intro ?_ ?_)) <;> first | exact trivial | assumption | (simp; done) | (simp only [List.length_map] at *; omega) | omega | (simp [D.cells, D.ok, D.one, D.pt, D.pt1]; done))))) | (refine GuardK_split (fun hc => ?_) (fun hc => ?_) <;> (try simp only [hc]) <;> (try simp at hc)) | (refine CondK_split (fun hc => ?_) (fun hc => ?_) <;> (try simp only [hc]) <;> (try simp at hc)) | (with_reducible refine And.intro ?_ ?_; (focus ((repeat' (with_reducible refine And.intro ?_ ?_)) <;> first | exact trivial | assumption | (simp; done) | (simp only [List.length_map] at *; omega) | omega | (simp [D.cells, D.ok, D.one, D.pt, D.pt1]; done)))) | (with_reducible intro x hx) | omega) <;> (try simp only [ro_nil, ro_mov, ro_eq, eqO_list, CondK_t, contP_some, lk_hit, lk_miss, Nat.reduceBEq, put_some, ev_t, ev_c, argEnv, eqD, eqN, boolD, cond_false, true_and, Bool.not_true, resK_nil, resK_tmp, ofRes]))
  refine GcTo_own [] (by rfl) (by simp) (by simp [keptW, D.pt0, pull, pull2, pull1, pull0])
theorem clP_emp (tg : Bool) : CallG Try.prog 29 [.list (some false) tg []] [] (.own 0 0 0 0 16 none) [acc false 16 true []] := by
  refine callG Try.func29 low29 (by simp [c29]) ?_
  simp only [c29]
  repeat' ((first | refine Run_seq ?_ | refine Run_skip ?_ | refine Run_block ?_ | refine Run_blk ?_ | refine Run_exit rfl ?_ | refine Run_ret ?_ | refine Run_nil ?_ | refine Run_condK ?_ | refine Run_ops mixed ?_ | refine Run_opsX mixed ?_ | with_reducible refine PostV_open ?_ | with_reducible refine PostG_open ?_ | with_reducible refine PostQ_open ?_ | with_reducible refine ro_callV ?_ | with_reducible refine ro_callVX ?_ | simp (disch := omega) only [w64, wu64, wu32, wu16, wu8, Int.tdiv_eq_ediv_of_nonneg, Int.tmod_eq_emod_of_nonneg] | (with_reducible refine SliceK_own rfl rfl ?_ ?_; (focus ((try simp only [row1_len, row2_len, row3_len, rowsE_len, rowsU_len, rowsP_len, rowsD_len, reduceIte, Int.natCast_nonneg, Int.le_refl, List.length_append, List.length_map, Nat.sub_zero]) <;> ((repeat' (with_reducible refine And.intro ?_ ?_)) <;> first | exact trivial | assumption | (simp; done) | (simp only [List.length_map] at *; omega) | omega | (simp [D.cells, D.ok, D.one, D.pt, D.pt1]; done))))) | (refine GuardK_split (fun hc => ?_) (fun hc => ?_) <;> (try simp only [hc]) <;> (try simp at hc)) | (refine CondK_split (fun hc => ?_) (fun hc => ?_) <;> (try simp only [hc]) <;> (try simp at hc)) | (with_reducible refine And.intro ?_ ?_; (focus ((repeat' (with_reducible refine And.intro ?_ ?_)) <;> first | exact trivial | assumption | (simp; done) | (simp only [List.length_map] at *; omega) | omega | (simp [D.cells, D.ok, D.one, D.pt, D.pt1]; done)))) | (with_reducible intro x hx) | omega) <;> (try simp only [ro_nil, ro_mov, ro_slit, SlitK_t, ro_eq, ro_app, newsD_list, AppN_some, AppS_nil, eqO_list, CondK_f, contP_some, lk_hit, lk_miss, Nat.reduceBEq, put_some, ev_t, ev_c, argEnv, Nat.reduceMul, Nat.reduceLeDiff, eqD, eqN, boolD, D.cells, D.ok, D.one, cond_false, true_and, and_self, Bool.not_false, List.length_nil, List.nil_append, List.map_nil, List.all_nil, List.not_mem_nil, false_imp_iff, implies_true, Nat.zero_lt_succ, resK_nil, resK_tmp, ofRes]))
  refine GcTo_own [0] (by rfl) (by simp) (by simp [keptW, ObKW, ObW, imp_self, acc_real, acc_nl, acc_pure, acc_fz, acc_sz, acc_rows, acc_spare, pull, pull2, pull1, pull0, idx_hit, pullOb])
abbrev ub (user : Int) : Ob := ⟨true, false, true, false, 1, [[.int .u32 user]], some 0⟩
theorem lv1_p (p : Po) (user : Int) : PureD Try.prog 30 [.agg p.row, .elt [.int .u32 user] 0] (.bool (p.owner == user)) := by
  refine pureV Try.func30 low30 (by simp [c30]) ?_
  simp only [c30, Po.row]
  repeat' ((first | refine Run_seq ?_ | refine Run_skip ?_ | refine Run_block ?_ | refine Run_blk ?_ | refine Run_exit rfl ?_ | refine Run_ret ?_ | refine Run_nil ?_ | refine Run_condK ?_ | refine Run_ops mixed ?_ | refine Run_opsX mixed ?_ | with_reducible refine PostV_open ?_ | with_reducible refine PostG_open ?_ | with_reducible refine PostQ_open ?_ | with_reducible refine ro_callV ?_ | with_reducible refine ro_callVX ?_ | simp (disch := omega) only [w64, wu64, wu32, wu16, wu8, Int.tdiv_eq_ediv_of_nonneg, Int.tmod_eq_emod_of_nonneg] | (with_reducible refine SliceK_own rfl rfl ?_ ?_; (focus ((try simp only [row1_len, row2_len, row3_len, rowsE_len, rowsU_len, rowsP_len, rowsD_len, reduceIte, Int.natCast_nonneg, Int.le_refl, List.length_append, List.length_map, Nat.sub_zero]) <;> ((repeat' (with_reducible refine And.intro ?_ ?_)) <;> first | exact trivial | assumption | (simp; done) | (simp only [List.length_map] at *; omega) | omega | (simp [D.cells, D.ok, D.one, D.pt, D.pt1]; done))))) | (refine GuardK_split (fun hc => ?_) (fun hc => ?_) <;> (try simp only [hc]) <;> (try simp at hc)) | (refine CondK_split (fun hc => ?_) (fun hc => ?_) <;> (try simp only [hc]) <;> (try simp at hc)) | (with_reducible refine And.intro ?_ ?_; (focus ((repeat' (with_reducible refine And.intro ?_ ?_)) <;> first | exact trivial | assumption | (simp; done) | (simp only [List.length_map] at *; omega) | omega | (simp [D.cells, D.ok, D.one, D.pt, D.pt1]; done)))) | (with_reducible intro x hx) | omega) <;> (try simp only [ro_nil, ro_mov, ro_bin, ro_faddr, ro_load, LoadK_elt, LoadK_ptr, LoadO_some, LoadR_some, ro_box, viewS_own', contP_some, lk_hit, lk_miss, Nat.reduceBEq, put_some, ev_t, ev_c, argEnv, reduceIte, Nat.reduceAdd, reduceCtorEq, binD, binInt, faddrD, loadD, D.cells, D.ok, D.one, D.pt1, D.pt0, D.norm1, true_and, and_self, Bool.and_true, List.getElem?_cons_zero, List.getElem?_cons_succ, List.length_cons, List.length_nil, List.nil_append, List.all_cons, List.all_nil, ne_eq, not_false_eq_true, Nat.zero_add, Nat.lt_add_one, view, view2, view1, view0, resK_nil, resK_tmp, ofRes]))
def idxP (user : Int) : List Po → Nat → Int
  | [], _ => -1
  | p :: l, n => if p.owner = user then n else idxP user l (n + 1)
theorem idxP_spec (user : Int) : ∀ (l : List Po) (n : Nat), (idxP user l n = -1 ∧ ∀ p ∈ l, p.owner ≠ user) ∨ ∃ i, idxP user l n = ((n + i : Nat) : Int) ∧ i < l.length ∧ (∃ p, l[i]? = some p ∧ p.owner = user) ∧ ∀ q ∈ l.take i, q.owner ≠ user
  | [], n => .inl ⟨rfl, by simp⟩
  | p :: l, n => by
    by_cases h : p.owner = user
    · exact .inr ⟨0, by simp [idxP, h], by simp, ⟨p, by simp, h⟩, by simp⟩
    · rcases idxP_spec user l (n + 1) with ⟨h1, h2⟩ | ⟨i, h1, h2, h3, h4⟩
      · refine .inl ⟨by simp [idxP, h, h1], fun q hq => ?_⟩
        rcases List.mem_cons.1 hq with rfl | hq
        · exact h
        · exact h2 q hq
      · refine .inr ⟨i + 1, ?_, by simp; omega, by simpa using h3, fun q hq => ?_⟩
        · simp only [idxP, if_neg h, h1]; omega
        · rw [List.take_succ_cons] at hq
          rcases List.mem_cons.1 hq with rfl | hq
          · exact h
          · exact h4 q hq
theorem ix_p (l : List Po) (user : Int) (hl : l.length ≤ 400000000000) : PureD Try.prog 47 [L (rowsP l), .fn 30 [.elt [.int .u32 user] 0]] (.int .i64 (idxP user l 0)) := by
  refine pureV Try.func47 low47 (by simp [c47]) ?_
  simp only [c47]
  repeat' ((first | refine Run_seq ?_ | refine Run_skip ?_ | refine Run_block ?_ | refine Run_blk ?_ | refine Run_exit rfl ?_ | refine Run_ret ?_ | refine Run_nil ?_ | refine Run_condK ?_ | refine Run_ops mixed ?_ | refine Run_opsX mixed ?_ | with_reducible refine PostV_open ?_ | with_reducible refine PostG_open ?_ | with_reducible refine PostQ_open ?_ | with_reducible refine ro_callV ?_ | with_reducible refine ro_callVX ?_ | simp (disch := omega) only [w64, wu64, wu32, wu16, wu8, Int.tdiv_eq_ediv_of_nonneg, Int.tmod_eq_emod_of_nonneg] | (with_reducible refine SliceK_own rfl rfl ?_ ?_; (focus ((try simp only [row1_len, row2_len, row3_len, rowsE_len, rowsU_len, rowsP_len, rowsD_len, reduceIte, Int.natCast_nonneg, Int.le_refl, List.length_append, List.length_map, Nat.sub_zero]) <;> ((repeat' (with_reducible refine And.intro ?_ ?_)) <;> first | exact trivial | assumption | (simp; done) | (simp only [List.length_map] at *; omega) | omega | (simp [D.cells, D.ok, D.one, D.pt, D.pt1]; done))))) | (refine GuardK_split (fun hc => ?_) (fun hc => ?_) <;> (try simp only [hc]) <;> (try simp at hc)) | (refine CondK_split (fun hc => ?_) (fun hc => ?_) <;> (try simp only [hc]) <;> (try simp at hc)) | (with_reducible refine And.intro ?_ ?_; (focus ((repeat' (with_reducible refine And.intro ?_ ?_)) <;> first | exact trivial | assumption | (simp; done) | (simp only [List.length_map] at *; omega) | omega | (simp [D.cells, D.ok, D.one, D.pt, D.pt1]; done)))) | (with_reducible intro x hx) | omega) <;> (try simp only [rowsP_len, ro_nil, ro_mov, ro_len, contP_some, lk_hit, lk_miss, Nat.reduceBEq, put_some, ev_t, ev_c, argEnv, lenD, true_and, Nat.zero_add]))
  refine Run_loop (ι := {i : Nat // i ≤ l.length ∧ idxP user l 0 = idxP user (l.drop i) i}) (fun i => ([(0, L (rowsP l)), (1, .fn 30 [.elt [.int .u32 user] 0]), (7, .int .i64 l.length), (8, .int .i64 i.1)], [])) (fun i => l.length - i.1) ⟨0, by simp⟩ ?_ ?_
  · refine Ent_gc [] (by rfl) (by simp) (by simp [keptW]) (by simp [lk_hit, lk_miss, D.pt0, viewS_own', pull, pull2, pull1, pull0, idx_nil, gate, List.mem_cons, or_false, view0, mapO])
  rintro ⟨i, hi, hx⟩ hk
  dsimp only at hk ⊢
  by_cases hlt : i < l.length
  · have c1 : ((i : Int) < (l.length : Int)) = True := by simp; omega
    obtain ⟨p, hp⟩ : ∃ p, l[i]? = some p := ⟨_, List.getElem?_eq_getElem hlt⟩
    have hr := rowsP_get hp
    have hdr : l.drop i = p :: l.drop (i + 1) := by
      rw [List.getElem?_eq_getElem hlt] at hp; cases hp; exact List.drop_eq_getElem_cons hlt
    have lv := lv1_p p user
    simp only [Po.row] at lv
    by_cases hc : p.owner = user
    · have c2 : (p.owner == user) = true := by simpa using hc
      rw [c2] at lv
      have e : idxP user l 0 = i := by rw [hx, hdr]; simp [idxP, hc]
      rw [e]
      repeat' ((first | refine Run_seq ?_ | refine Run_skip ?_ | refine Run_block ?_ | refine Run_blk ?_ | refine Run_exit rfl ?_ | refine Run_ret ?_ | refine Run_nil ?_ | refine Run_condK ?_ | refine Run_ops mixed ?_ | refine Run_opsX mixed ?_ | with_reducible refine PostV_open ?_ | with_reducible refine PostG_open ?_ | with_reducible refine PostQ_open ?_ | with_reducible refine ro_callV ?_ | with_reducible refine ro_callVX ?_ | refine CallV_pure (lv) ?_ ?_ | simp (disch := omega) only [w64, wu64, wu32, wu16, wu8, Int.tdiv_eq_ediv_of_nonneg, Int.tmod_eq_emod_of_nonneg] | (with_reducible refine SliceK_own rfl rfl ?_ ?_; (focus ((try simp only [row1_len, row2_len, row3_len, rowsE_len, rowsU_len, rowsP_len, rowsD_len, reduceIte, Int.natCast_nonneg, Int.le_refl, List.length_append, List.length_map, Nat.sub_zero]) <;> ((repeat' (with_reducible refine And.intro ?_ ?_)) <;> first | exact trivial | assumption | (simp; done) | (simp only [List.length_map] at *; omega) | omega | (simp [D.cells, D.ok, D.one, D.pt, D.pt1]; done))))) | (refine GuardK_split (fun hc => ?_) (fun hc => ?_) <;> (try simp only [hc]) <;> (try simp at hc)) | (refine CondK_split (fun hc => ?_) (fun hc => ?_) <;> (try simp only [hc]) <;> (try simp at hc)) | (with_reducible refine And.intro ?_ ?_; (focus ((repeat' (with_reducible refine And.intro ?_ ?_)) <;> first | exact trivial | assumption | (simp; done) | (simp only [List.length_map] at *; omega) | omega | (simp [D.cells, D.ok, D.one, D.pt, D.pt1]; done)))) | (with_reducible intro x hx) | omega) <;> (try simp only [rowsP_len, c1, hr, Po.row, IaddrR_some, ro_nil, ro_mov, ro_bin, ro_load, LoadK_elt, ro_iaddr, IaddrK_list, IaddrR_some, viewS_own', CondK_t, contP_some, lk_hit, lk_miss, Nat.reduceBEq, put_some, ev_t, reduceIte, Nat.reduceAdd, binD, binInt, loadD, D.pt, D.pt1, D.pt0, D.norm1, true_and, and_self, Bool.and_true, Bool.or_true, List.getElem?_nil, List.length_cons, List.length_nil, List.take_succ_cons, List.take_nil, List.drop_zero, List.cons_append, List.nil_append, List.map_cons, List.map_nil, List.all_cons, List.all_nil, Option.map_some, Nat.zero_add, Int.toNat_natCast, decide_true, Nat.le_refl, Int.natCast_nonneg, view, view2, view1, view0, mapO, capsD_fn, D.sc, D.sc1, D.sc2, resK_nil, resK_tmp, ofRes]))
    · have c2 : (p.owner == user) = false := by simpa using hc
      rw [c2] at lv
      have e : idxP user l 0 = idxP user (l.drop (i + 1)) (i + 1) := by rw [hx, hdr]; simp [idxP, hc]
      repeat' ((first | refine Run_seq ?_ | refine Run_skip ?_ | refine Run_block ?_ | refine Run_blk ?_ | refine Run_exit rfl ?_ | refine Run_ret ?_ | refine Run_nil ?_ | refine Run_condK ?_ | refine Run_ops mixed ?_ | refine Run_opsX mixed ?_ | with_reducible refine PostV_open ?_ | with_reducible refine PostG_open ?_ | with_reducible refine PostQ_open ?_ | with_reducible refine ro_callV ?_ | with_reducible refine ro_callVX ?_ | refine CallV_pure (lv) ?_ ?_ | simp (disch := omega) only [w64] | (with_reducible refine SliceK_own rfl rfl ?_ ?_; (focus ((try simp only [row1_len, row2_len, row3_len, rowsE_len, rowsU_len, rowsP_len, rowsD_len, reduceIte, Int.natCast_nonneg, Int.le_refl, List.length_append, List.length_map, Nat.sub_zero]) <;> ((repeat' (with_reducible refine And.intro ?_ ?_)) <;> first | exact trivial | assumption | (simp; done) | (simp only [List.length_map] at *; omega) | omega | (simp [D.cells, D.ok, D.one, D.pt, D.pt1]; done))))) | (refine GuardK_split (fun hc => ?_) (fun hc => ?_) <;> (try simp only [hc]) <;> (try simp at hc)) | (refine CondK_split (fun hc => ?_) (fun hc => ?_) <;> (try simp only [hc]) <;> (try simp at hc)) | (with_reducible refine And.intro ?_ ?_; (focus ((repeat' (with_reducible refine And.intro ?_ ?_)) <;> first | exact trivial | assumption | (simp; done) | (simp only [List.length_map] at *; omega) | omega | (simp [D.cells, D.ok, D.one, D.pt, D.pt1]; done)))) | (with_reducible intro x hx) | omega) <;> (try simp only [rowsP_len, c1, hr, Po.row, IaddrR_some, ro_nil, ro_mov, ro_bin, ro_load, LoadK_elt, ro_iaddr, IaddrK_list, IaddrR_some, CondK_t, CondK_f, contP_some, lk_hit, lk_miss, Nat.reduceBEq, put_some, ev_t, ev_c, reduceIte, Nat.reduceAdd, binD, binInt, loadD, D.pt, D.pt1, D.pt0, D.norm1, true_and, and_self, Bool.and_true, Bool.or_true, List.length_cons, List.length_nil, List.take_succ_cons, List.take_nil, List.drop_zero, List.cons_append, List.nil_append, List.map_cons, List.map_nil, List.all_cons, List.all_nil, Option.map_some, Nat.zero_add, Int.toNat_natCast, decide_true, Nat.le_refl, Int.natCast_nonneg, view, view2, view1, view0, mapO, capsD_fn, D.sc, D.sc1, D.sc2]))
      refine hk ⟨i + 1, by omega, e⟩ _ _ (by dsimp only; omega) ?_
      dsimp only
      refine Ent_gc [] (by rfl) (by simp) (by simp [keptW]) (by simp [lk_hit, lk_miss, D.pt0, viewS_own', pull, pull2, pull1, pull0, idx_nil, gate, List.mem_cons, or_false, view0, mapO])
  · have c1 : ((i : Int) < (l.length : Int)) = False := by simp; omega
    have e : idxP user l 0 = -1 := by rw [hx, List.drop_eq_nil_of_le (by omega)]; rfl
    rw [e]
    repeat' ((first | refine Run_seq ?_ | refine Run_skip ?_ | refine Run_block ?_ | refine Run_blk ?_ | refine Run_exit rfl ?_ | refine Run_ret ?_ | refine Run_nil ?_ | refine Run_condK ?_ | refine Run_ops mixed ?_ | refine Run_opsX mixed ?_ | with_reducible refine PostV_open ?_ | with_reducible refine PostG_open ?_ | with_reducible refine PostQ_open ?_ | with_reducible refine ro_callV ?_ | with_reducible refine ro_callVX ?_ | simp (disch := omega) only [w64, wu64, wu32, wu16, wu8, Int.tdiv_eq_ediv_of_nonneg, Int.tmod_eq_emod_of_nonneg] | (with_reducible refine SliceK_own rfl rfl ?_ ?_; (focus ((try simp only [row1_len, row2_len, row3_len, rowsE_len, rowsU_len, rowsP_len, rowsD_len, reduceIte, Int.natCast_nonneg, Int.le_refl, List.length_append, List.length_map, Nat.sub_zero]) <;> ((repeat' (with_reducible refine And.intro ?_ ?_)) <;> first | exact trivial | assumption | (simp; done) | (simp only [List.length_map] at *; omega) | omega | (simp [D.cells, D.ok, D.one, D.pt, D.pt1]; done))))) | (refine GuardK_split (fun hc => ?_) (fun hc => ?_) <;> (try simp only [hc]) <;> (try simp at hc)) | (refine CondK_split (fun hc => ?_) (fun hc => ?_) <;> (try simp only [hc]) <;> (try simp at hc)) | (with_reducible refine And.intro ?_ ?_; (focus ((repeat' (with_reducible refine And.intro ?_ ?_)) <;> first | exact trivial | assumption | (simp; done) | (simp only [List.length_map] at *; omega) | omega | (simp [D.cells, D.ok, D.one, D.pt, D.pt1]; done)))) | (with_reducible intro x hx) | omega) <;> (try simp only [c1, ro_nil, ro_mov, ro_bin, viewS_own', CondK_f, contP_some, lk_hit, lk_miss, Nat.reduceBEq, put_some, ev_t, ev_c, reduceIte, binD, binInt, D.pt0, D.norm1, true_and, List.getElem?_nil, Int.reduceNeg, decide_false, view, view2, view1, view0, resK_nil, resK_tmp, ofRes]))
def keepP (user : Int) (l : List Po) : List Po := l.filter fun p => !(p.owner == user)
theorem dfnil_p (tg : Bool) (user : Int) : CallG Try.prog 28 [.list (some true) tg [], .fn 30 [.elt [.int .u32 user] 0]] [] (.list (some true) tg []) [] := by
  refine callG Try.func28 low28 (by simp [c28]) ?_
  simp only [c28]
  have ix := ix_p [] user (by simp)
  simp only [rowsP, List.map_nil, show idxP user [] 0 = -1 from rfl] at ix
  repeat' ((first | refine Run_seq ?_ | refine Run_skip ?_ | refine Run_block ?_ | refine Run_blk ?_ | refine Run_exit rfl ?_ | refine Run_ret ?_ | refine Run_nil ?_ | refine Run_condK ?_ | refine Run_ops mixed ?_ | refine Run_opsX mixed ?_ | with_reducible refine PostV_open ?_ | with_reducible refine PostG_open ?_ | with_reducible refine PostQ_open ?_ | with_reducible refine ro_callV ?_ | with_reducible refine ro_callVX ?_ | refine CallV_pure (ix) ?_ ?_ | simp (disch := omega) only [w64, wu64, wu32, wu16, wu8, Int.tdiv_eq_ediv_of_nonneg, Int.tmod_eq_emod_of_nonneg] | (with_reducible refine SliceK_own rfl rfl ?_ ?_; (focus ((try simp only [row1_len, row2_len, row3_len, rowsE_len, rowsU_len, rowsP_len, rowsD_len, reduceIte, Int.natCast_nonneg, Int.le_refl, List.length_append, List.length_map, Nat.sub_zero]) <;> ((repeat' (with_reducible refine And.intro ?_ ?_)) <;> first | exact trivial | assumption | (simp; done) | (simp only [List.length_map] at *; omega) | omega | (simp [D.cells, D.ok, D.one, D.pt, D.pt1]; done))))) | (refine GuardK_split (fun hc => ?_) (fun hc => ?_) <;> (try simp only [hc]) <;> (try simp at hc)) | (refine CondK_split (fun hc => ?_) (fun hc => ?_) <;> (try simp only [hc]) <;> (try simp at hc)) | (with_reducible refine And.intro ?_ ?_; (focus ((repeat' (with_reducible refine And.intro ?_ ?_)) <;> first | exact trivial | assumption | (simp; done) | (simp only [List.length_map] at *; omega) | omega | (simp [D.cells, D.ok, D.one, D.pt, D.pt1]; done)))) | (with_reducible intro x hx) | omega) <;> (try simp only [ro_nil, ro_mov, ro_bin, CondK_t, contP_some, lk_hit, lk_miss, Nat.reduceBEq, put_some, ev_t, ev_c, argEnv, reduceIte, binD, binInt, D.pt, D.pt1, D.pt0, D.norm1, true_and, Bool.and_true, Bool.or_true, List.append_nil, List.map_cons, List.map_nil, List.all_cons, List.all_nil, Nat.zero_add, beq_self_eq_true, Int.reduceNeg, view, view2, view1, view0, mapO, capsD_fn, D.sc, D.sc1, D.sc2, resK_nil, resK_tmp, ofRes]))
  refine GcTo_own [] (by rfl) (by simp) (by simp [keptW, D.pt0, pull, pull2, pull1, pull0])
theorem dfno_p (b : Bool) (l : List Po) (user : Int) (hl : l.length ≤ 400000000000) (hn : ∀ p ∈ l, p.owner ≠ user) : CallG Try.prog 28 [.own 0 0 l.length l.length 16 none, .fn 30 [.elt [.int .u32 user] 0]] [acc b 16 true (rowsP l)] (.own 0 0 l.length l.length 16 none) [acc b 16 true (rowsP l)] := by
  refine callG Try.func28 low28 (by simp [c28]) ?_
  simp only [c28]
  have e : idxP user l 0 = -1 := by
    rcases idxP_spec user l 0 with ⟨h, _⟩ | ⟨i, _, _, ⟨p, hp, ho⟩, _⟩
    · exact h
    · exact absurd ho (hn p (List.mem_of_getElem? hp))
  have ix := ix_p l user hl
  rw [e] at ix
  repeat' ((first | refine Run_seq ?_ | refine Run_skip ?_ | refine Run_block ?_ | refine Run_blk ?_ | refine Run_exit rfl ?_ | refine Run_ret ?_ | refine Run_nil ?_ | refine Run_condK ?_ | refine Run_ops mixed ?_ | refine Run_opsX mixed ?_ | with_reducible refine PostV_open ?_ | with_reducible refine PostG_open ?_ | with_reducible refine PostQ_open ?_ | with_reducible refine ro_callV ?_ | with_reducible refine ro_callVX ?_ | refine CallV_pure (ix) ?_ ?_ | simp (disch := omega) only [w64, wu64, wu32, wu16, wu8, Int.tdiv_eq_ediv_of_nonneg, Int.tmod_eq_emod_of_nonneg] | (with_reducible refine SliceK_own rfl rfl ?_ ?_; (focus ((try simp only [row1_len, row2_len, row3_len, rowsE_len, rowsU_len, rowsP_len, rowsD_len, reduceIte, Int.natCast_nonneg, Int.le_refl, List.length_append, List.length_map, Nat.sub_zero]) <;> ((repeat' (with_reducible refine And.intro ?_ ?_)) <;> first | exact trivial | assumption | (simp; done) | (simp only [List.length_map] at *; omega) | omega | (simp [D.cells, D.ok, D.one, D.pt, D.pt1]; done))))) | (refine GuardK_split (fun hc => ?_) (fun hc => ?_) <;> (try simp only [hc]) <;> (try simp at hc)) | (refine CondK_split (fun hc => ?_) (fun hc => ?_) <;> (try simp only [hc]) <;> (try simp at hc)) | (with_reducible refine And.intro ?_ ?_; (focus ((repeat' (with_reducible refine And.intro ?_ ?_)) <;> first | exact trivial | assumption | (simp; done) | (simp only [List.length_map] at *; omega) | omega | (simp [D.cells, D.ok, D.one, D.pt, D.pt1]; done)))) | (with_reducible intro x hx) | omega) <;> (try simp only [rowsP_len, ro_nil, ro_mov, ro_bin, winD_all, viewS_own', viewO_some, acc_pure, acc_rows, CondK_t, contP_some, lk_hit, lk_miss, Nat.reduceBEq, put_some, ev_t, ev_c, argEnv, reduceIte, binD, binInt, D.pt, D.pt1, D.pt0, D.norm1, true_and, and_self, Bool.and_true, Bool.true_or, Bool.or_true, List.getElem?_cons_zero, List.append_nil, List.map_cons, List.map_nil, List.all_cons, List.all_nil, Nat.zero_add, beq_self_eq_true, Int.reduceNeg, view, view2, view1, view0, mapO, capsD_fn, D.sc, D.sc1, D.sc2, resK_nil, resK_tmp, ofRes]))
  refine GcTo_own [0] (by rfl) (by simp) (by simp [keptW, ObKW, ObW, imp_self, acc_real, acc_nl, acc_pure, acc_fz, acc_sz, acc_rows, acc_spare, pull, pull2, pull1, pull0, idx_hit, pullOb])
def zrP : List D := [.int .u32 0, .int .u32 0, .int .i64 0, .int .i64 0, .int .i64 0, .int .i64 0, .list (some true) true [], .list (some true) true [], .int .i64 0, .list (some true) true [], .list (some true) true [], .list (some true) true [], .list (some true) true [], .int .i64 0, .int .i64 0, .int .i64 0]
theorem keepP_take {user : Int} {l : List Po} {j : Nat} {p : Po} (h : l[j]? = some p) : keepP user (l.take (j + 1)) = keepP user (l.take j) ++ if p.owner = user then [] else [p] := by
  have : l.take (j + 1) = l.take j ++ [p] := by rw [List.take_add_one, h]; rfl
  rw [this]
  unfold keepP
  rw [List.filter_append]
  congr 1
  by_cases hx : p.owner = user <;> simp [hx]
theorem rowsP_len2 {l : List Po} : (rowsP l).length = l.length := by simp [rowsP]
set_option maxHeartbeats 2000000 in
theorem df_p (l : List Po) (user : Int) (hl : l.length ≤ 400000000000) (hn : ∃ p ∈ l, p.owner = user) : CallG Try.prog 28 [.own 0 0 l.length l.length 16 none, .fn 30 [.elt [.int .u32 user] 0]] [acc true 16 true (rowsP l)] (.own 0 0 (keepP user l).length l.length 16 none)
    [acc true 16 true (rowsP (keepP user l) ++ List.replicate (l.length - (keepP user l).length) zrP)] := by
  refine callG Try.func28 low28 (by simp [c28]) ?_
  simp only [c28]
  obtain ⟨i, hi, hil, ⟨p, hp, ho⟩, hb⟩ : ∃ i : Nat, idxP user l 0 = (i : Int) ∧ i < l.length ∧ (∃ p, l[i]? = some p ∧ p.owner = user) ∧ ∀ q ∈ l.take i, q.owner ≠ user := by
    rcases idxP_spec user l 0 with ⟨_, h⟩ | ⟨i, h1, h2⟩
    · obtain ⟨p, hp, ho⟩ := hn
      exact absurd ho (h p hp)
    · exact ⟨i, by simpa using h1, h2⟩
  have hne : (rowsP l).isEmpty = false := by
    cases l with
    | nil => simp at hil
    | cons => rfl
  have ix := ix_p l user hl
  rw [hi] at ix
  have k0 : keepP user (l.take i) = l.take i := by
    unfold keepP
    rw [List.filter_eq_self]
    intro q hq
    simpa using hb q hq
  have c0 : ((i : Int) == -1) = false := by simp
  repeat' ((first | refine Run_seq ?_ | refine Run_skip ?_ | refine Run_block ?_ | refine Run_blk ?_ | refine Run_exit rfl ?_ | refine Run_ret ?_ | refine Run_nil ?_ | refine Run_condK ?_ | refine Run_ops mixed ?_ | refine Run_opsX mixed ?_ | with_reducible refine PostV_open ?_ | with_reducible refine PostG_open ?_ | with_reducible refine PostQ_open ?_ | with_reducible refine ro_callV ?_ | with_reducible refine ro_callVX ?_ | refine CallV_pure (ix) ?_ ?_ | simp (disch := omega) only [w64] | (with_reducible refine SliceK_own rfl rfl ?_ ?_; (focus ((try simp only [row1_len, row2_len, row3_len, rowsE_len, rowsU_len, rowsP_len, rowsD_len, reduceIte, Int.natCast_nonneg, Int.le_refl, List.length_append, List.length_map, Nat.sub_zero]) <;> ((repeat' (with_reducible refine And.intro ?_ ?_)) <;> first | exact trivial | assumption | (simp; done) | (simp only [List.length_map] at *; omega) | omega | (simp [D.cells, D.ok, D.one, D.pt, D.pt1]; done))))) | (refine GuardK_split (fun hc => ?_) (fun hc => ?_) <;> (try simp only [hc]) <;> (try simp at hc)) | (refine CondK_split (fun hc => ?_) (fun hc => ?_) <;> (try simp only [hc]) <;> (try simp at hc)) | (with_reducible refine And.intro ?_ ?_; (focus ((repeat' (with_reducible refine And.intro ?_ ?_)) <;> first | exact trivial | assumption | (simp; done) | (simp only [List.length_map] at *; omega) | omega | (simp [D.cells, D.ok, D.one, D.pt, D.pt1]; done)))) | (with_reducible intro x hx) | omega) <;> (try simp only [rowsP_len, c0, ro_nil, ro_mov, ro_bin, winD_all, viewS_own', viewO_some, acc_pure, acc_rows, CondK_f, contP_some, lk_hit, lk_miss, Nat.reduceBEq, put_some, ev_t, ev_c, argEnv, reduceIte, binD, binInt, D.pt, D.pt1, D.pt0, D.norm1, true_and, and_self, Bool.and_true, Bool.true_or, Bool.or_true, List.getElem?_cons_zero, List.append_nil, List.map_cons, List.map_nil, List.all_cons, List.all_nil, Nat.zero_add, Int.reduceNeg, view, view2, view1, view0, mapO, capsD_fn, D.sc, D.sc1, D.sc2]))
  refine Run_loop (ι := {j : Nat × List Po // j.1 ≤ l.length ∧ j.2.length + (keepP user (l.take j.1)).length = j.1 ∧ 1 ≤ j.2.length}) (fun j => ([(0, .own 0 0 l.length l.length 16 none), (1, .fn 30 [.elt [.int .u32 user] 0]), (5, .int .i64 (keepP user (l.take j.1.1)).length), (6, .int .i64 j.1.1)],
    [⟨true, false, true, false, 16, rowsP (keepP user (l.take j.1.1) ++ (j.1.2 ++ l.drop j.1.1)), none⟩])) (fun j => l.length - j.1.1) ⟨(i + 1, [p]), by dsimp only; omega, by dsimp only; rw [keepP_take hp, if_pos ho, List.append_nil, k0, List.length_take]; simp only [List.length_cons, List.length_nil]; omega, by simp⟩ ?_ ?_
  · have eK : keepP user (l.take (i + 1)) = l.take i := by rw [keepP_take hp, if_pos ho, List.append_nil, k0]
    have eL : l.take i ++ ([p] ++ l.drop (i + 1)) = l := by
      have h1 : l.drop i = p :: l.drop (i + 1) := by
        rw [List.getElem?_eq_getElem hil] at hp; cases hp; exact List.drop_eq_getElem_cons hil
      rw [List.singleton_append, ← h1, List.take_append_drop]
    have eN : (l.take i).length = i := by rw [List.length_take]; omega
    dsimp only
    rw [eK, eL, eN, acc_ne' hne]
    refine Ent_gc [0] (by rfl) (by simp) (by simp [keptW, ObKW, ObW, imp_self, pullOb]) (by simp [lk_hit, lk_miss, D.pt0, viewS_own', pull, pull2, pull1, pull0, idx_hit, gate, List.mem_cons, or_false, view0, mapO])
  rintro ⟨⟨j, X⟩, hj, hX, hX1⟩ hk
  dsimp only at hk hj hX hX1 ⊢
  obtain ⟨x, X', rfl⟩ : ∃ x X', X = x :: X' := by
    cases X with
    | nil => simp at hX1
    | cons x X' => exact ⟨x, X', rfl⟩
  by_cases hlt : j < l.length
  · have c1 : ((j : Int) < (l.length : Int)) = True := by simp; omega
    obtain ⟨q, hq⟩ : ∃ q, l[j]? = some q := ⟨_, List.getElem?_eq_getElem hlt⟩
    have hdr : l.drop j = q :: l.drop (j + 1) := by
      rw [List.getElem?_eq_getElem hlt] at hq; cases hq; exact List.drop_eq_getElem_cons hlt
    have hkt := keepP_take (user := user) hq
    have lv := lv1_p q user
    simp only [Po.row] at lv
    rw [hdr]
    generalize keepP user (l.take j) = F at hX hkt ⊢
    have hr : (F ++ (x :: X' ++ q :: l.drop (j + 1)))[j]? = some q := by
      rw [← List.append_assoc, List.getElem?_append_right (by simp only [List.length_append]; omega)]
      have : j - (F ++ x :: X').length = 0 := by simp only [List.length_append]; omega
      rw [this]; rfl
    have hr2 : (F ++ (x :: X' ++ q :: l.drop (j + 1)))[F.length]? = some x := by
      rw [List.getElem?_append_right (Nat.le_refl _), Nat.sub_self]; rfl
    have hm1 : (F ++ (x :: X' ++ q :: l.drop (j + 1))).length = l.length := by
      simp only [List.length_append, List.length_cons, List.length_drop] at hX ⊢
      omega
    by_cases hc : q.owner = user
    · have c2 : (q.owner == user) = true := by simpa using hc
      rw [c2] at lv
      rw [if_pos hc, List.append_nil] at hkt
      have hm : F ++ (x :: X' ++ q :: l.drop (j + 1)) = F ++ (x :: (X' ++ [q]) ++ l.drop (j + 1)) := by simp
      generalize F ++ (x :: X' ++ q :: l.drop (j + 1)) = m at hr hm hm1 ⊢
      have hr' := rowsP_get hr
      repeat' ((first | refine Run_seq ?_ | refine Run_skip ?_ | refine Run_block ?_ | refine Run_blk ?_ | refine Run_exit rfl ?_ | refine Run_ret ?_ | refine Run_nil ?_ | refine Run_condK ?_ | refine Run_ops mixed ?_ | refine Run_opsX mixed ?_ | with_reducible refine PostV_open ?_ | with_reducible refine PostG_open ?_ | with_reducible refine PostQ_open ?_ | with_reducible refine ro_callV ?_ | with_reducible refine ro_callVX ?_ | refine CallV_pure (lv) ?_ ?_ | simp (disch := omega) only [w64] | (with_reducible refine SliceK_own rfl rfl ?_ ?_; (focus ((try simp only [row1_len, row2_len, row3_len, rowsE_len, rowsU_len, rowsP_len, rowsD_len, reduceIte, Int.natCast_nonneg, Int.le_refl, List.length_append, List.length_map, Nat.sub_zero]) <;> ((repeat' (with_reducible refine And.intro ?_ ?_)) <;> first | exact trivial | assumption | (simp; done) | (simp only [List.length_map] at *; omega) | omega | (simp [D.cells, D.ok, D.one, D.pt, D.pt1]; done))))) | (refine GuardK_split (fun hc => ?_) (fun hc => ?_) <;> (try simp only [hc]) <;> (try simp at hc)) | (refine CondK_split (fun hc => ?_) (fun hc => ?_) <;> (try simp only [hc]) <;> (try simp at hc)) | (with_reducible refine And.intro ?_ ?_; (focus ((repeat' (with_reducible refine And.intro ?_ ?_)) <;> first | exact trivial | assumption | (simp; done) | (simp only [List.length_map] at *; omega) | omega | (simp [D.cells, D.ok, D.one, D.pt, D.pt1]; done)))) | (with_reducible intro x hx) | omega) <;> (try simp only [rowsP_len, c1, hr', hm1, Po.row, LoadR_some, ro_nil, ro_mov, ro_bin, ro_un, ro_len, ro_load, LoadK_ptr, LoadO_some, LoadR_some, ro_alloc, ro_store, StoreK_ptr, StoreO_some, StoreR_some, ro_iaddr, IaddrK_own, CondK_t, CondK_f, contP_some, lk_hit, lk_miss, Nat.reduceBEq, put_some, put_none, ev_t, ev_c, reduceIte, Nat.reduceAdd, reduceCtorEq, binD, binInt, okD, unD, lenD, loadD, splice, D.cells, D.ok, D.one, D.pt, D.pt1, D.pt0, D.norm1, true_and, and_self, Bool.and_true, Bool.not_true, Bool.or_true, List.getElem?_cons_zero, List.getElem?_cons_succ, List.length_cons, List.length_nil, List.take_succ_cons, List.take_zero, List.take_nil, List.drop_succ_cons, List.drop_zero, List.drop_nil, List.cons_append, List.nil_append, List.append_nil, List.map_cons, List.map_nil, List.all_cons, List.all_nil, List.set_cons_zero, List.set_cons_succ, ne_eq, not_false_eq_true, Option.map_some, Nat.zero_add, Int.toNat_natCast, decide_true, Nat.le_refl, Int.natCast_nonneg, Nat.lt_add_one, view, view2, view1, view0, mapO, capsD_fn, D.sc, D.sc1, D.sc2]))
      refine hk ⟨(j + 1, x :: (X' ++ [q])), by dsimp only; omega, by dsimp only; rw [hkt]; simp only [List.length_append, List.length_cons, List.length_nil] at hX ⊢; omega, by simp⟩ _ _ (by dsimp only; omega) ?_
      dsimp only
      rw [hkt, ← hm]
      refine Ent_gc [0] (by rfl) (by simp) (by simp [keptW, ObKW, ObW, imp_self, pullOb]) (by simp [lk_hit, lk_miss, D.pt0, viewS_own', pull, pull2, pull1, pull0, idx_hit, gate, List.mem_cons, or_false, view0, mapO])
    · have c2 : (q.owner == user) = false := by simpa using hc
      rw [c2] at lv
      rw [if_neg hc] at hkt
      have hm : (F ++ (x :: X' ++ q :: l.drop (j + 1))).set F.length q = F ++ [q] ++ (X' ++ [q] ++ l.drop (j + 1)) := by
        rw [List.set_append_right _ _ (Nat.le_refl _), Nat.sub_self]; simp
      have hFl : F.length < l.length := by simp only [List.length_cons] at hX; omega
      generalize F ++ (x :: X' ++ q :: l.drop (j + 1)) = m at hr hr2 hm hm1 ⊢
      have hr' := rowsP_get hr
      have hr2' := rowsP_get hr2
      have hs : (rowsP m).set F.length q.row = rowsP (m.set F.length q) := by simp [rowsP, List.map_set]
      rw [hm] at hs
      simp only [Po.row] at hs
      repeat' ((first | refine Run_seq ?_ | refine Run_skip ?_ | refine Run_block ?_ | refine Run_blk ?_ | refine Run_exit rfl ?_ | refine Run_ret ?_ | refine Run_nil ?_ | refine Run_condK ?_ | refine Run_ops mixed ?_ | refine Run_opsX mixed ?_ | with_reducible refine PostV_open ?_ | with_reducible refine PostG_open ?_ | with_reducible refine PostQ_open ?_ | with_reducible refine ro_callV ?_ | with_reducible refine ro_callVX ?_ | refine CallV_pure (lv) ?_ ?_ | simp (disch := omega) only [w64] | (with_reducible refine SliceK_own rfl rfl ?_ ?_; (focus ((try simp only [row1_len, row2_len, row3_len, rowsE_len, rowsU_len, rowsP_len, rowsD_len, reduceIte, Int.natCast_nonneg, Int.le_refl, List.length_append, List.length_map, Nat.sub_zero]) <;> ((repeat' (with_reducible refine And.intro ?_ ?_)) <;> first | exact trivial | assumption | (simp; done) | (simp only [List.length_map] at *; omega) | omega | (simp [D.cells, D.ok, D.one, D.pt, D.pt1]; done))))) | (refine GuardK_split (fun hc => ?_) (fun hc => ?_) <;> (try simp only [hc]) <;> (try simp at hc)) | (refine CondK_split (fun hc => ?_) (fun hc => ?_) <;> (try simp only [hc]) <;> (try simp at hc)) | (with_reducible refine And.intro ?_ ?_; (focus ((repeat' (with_reducible refine And.intro ?_ ?_)) <;> first | exact trivial | assumption | (simp; done) | (simp only [List.length_map] at *; omega) | omega | (simp [D.cells, D.ok, D.one, D.pt, D.pt1]; done)))) | (with_reducible intro x hx) | omega) <;> (try simp only [rowsP_len, c1, hr', hr2', hm1, hs, Po.row, LoadR_some, ro_nil, ro_mov, ro_bin, ro_un, ro_len, ro_load, LoadK_ptr, LoadO_some, LoadR_some, ro_alloc, ro_store, StoreK_ptr, StoreO_some, StoreR_some, ro_iaddr, IaddrK_own, CondK_t, contP_some, lk_hit, lk_miss, Nat.reduceBEq, put_some, put_none, ev_t, ev_c, reduceIte, Nat.reduceAdd, reduceCtorEq, binD, binInt, okD, unD, lenD, loadD, splice, D.cells, D.ok, D.one, D.pt, D.pt1, D.pt0, D.norm1, true_and, and_self, Bool.and_true, Bool.not_false, Bool.or_true, List.getElem?_cons_zero, List.getElem?_cons_succ, List.length_cons, List.length_nil, List.take_succ_cons, List.take_zero, List.take_nil, List.drop_succ_cons, List.drop_zero, List.drop_nil, List.cons_append, List.nil_append, List.append_nil, List.map_cons, List.map_nil, List.all_cons, List.all_nil, List.set_cons_zero, List.set_cons_succ, ne_eq, not_false_eq_true, Option.map_some, Nat.zero_add, Int.toNat_natCast, decide_true, Nat.le_refl, Int.natCast_nonneg, Nat.lt_add_one, view, view2, view1, view0, mapO, capsD_fn, D.sc, D.sc1, D.sc2]))
      refine hk ⟨(j + 1, X' ++ [q]), by dsimp only; omega, by dsimp only; rw [hkt]; simp only [List.length_append, List.length_cons, List.length_nil] at hX ⊢; omega, by simp⟩ _ _ (by dsimp only; omega) ?_
      dsimp only
      rw [hkt]
      simp only [List.length_append, List.length_cons, List.length_nil]
      refine Ent_gc [0] (by rfl) (by simp) (by simp [keptW, ObKW, ObW, imp_self, pullOb]) (by simp [lk_hit, lk_miss, D.pt0, viewS_own', pull, pull2, pull1, pull0, idx_hit, gate, List.mem_cons, or_false, view0, mapO])
  · have c1 : ((j : Int) < (l.length : Int)) = False := by simp; omega
    obtain rfl : j = l.length := by omega
    rw [List.take_length] at hX ⊢
    rw [List.drop_length, List.append_nil]
    generalize keepP user l = F at hX ⊢
    have hm1 : (F ++ x :: X').length = l.length := by simp only [List.length_append]; omega
    have hm2 : List.take F.length (rowsP (F ++ x :: X')) = rowsP F := by simp [rowsP]
    have hm3 : List.drop (F.length + (l.length - F.length)) (rowsP (F ++ x :: X')) = [] := List.drop_eq_nil_of_le (by rw [rowsP_len]; omega)
    generalize F ++ x :: X' = m at hm1 hm2 hm3 ⊢
    repeat' ((first | refine Run_seq ?_ | refine Run_skip ?_ | refine Run_block ?_ | refine Run_blk ?_ | refine Run_exit rfl ?_ | refine Run_ret ?_ | refine Run_nil ?_ | refine Run_condK ?_ | refine Run_ops mixed ?_ | refine Run_opsX mixed ?_ | with_reducible refine PostV_open ?_ | with_reducible refine PostG_open ?_ | with_reducible refine PostQ_open ?_ | with_reducible refine ro_callV ?_ | with_reducible refine ro_callVX ?_ | simp (disch := omega) only [w64, wu64, wu32, wu16, wu8, Int.tdiv_eq_ediv_of_nonneg, Int.tmod_eq_emod_of_nonneg] | (with_reducible refine SliceK_own rfl rfl ?_ ?_; (focus ((try simp only [Int.natCast_nonneg, Int.le_refl]) <;> ((repeat' (with_reducible refine And.intro ?_ ?_)) <;> first | exact trivial | assumption | (simp; done) | (simp only [List.length_map] at *; omega) | omega | (simp [D.cells, D.ok, D.one, D.pt, D.pt1]; done))))) | (refine GuardK_split (fun hc => ?_) (fun hc => ?_) <;> (try simp only [hc]) <;> (try simp at hc)) | (refine CondK_split (fun hc => ?_) (fun hc => ?_) <;> (try simp only [hc]) <;> (try simp at hc)) | (with_reducible refine And.intro ?_ ?_; (focus ((repeat' (with_reducible refine And.intro ?_ ?_)) <;> first | exact trivial | assumption | (simp; done) | (simp only [List.length_map] at *; omega) | omega | (simp [D.cells, D.ok, D.one, D.pt, D.pt1]; done)))) | (with_reducible intro x hx) | omega) <;> (try simp only [rowsP_len, c1, hm1, hm2, hm3, ro_nil, ro_mov, ro_bin, ro_len, ro_slice, ro_clear, ClearK_own, ClearO_some, CondK_f, contP_some, lk_hit, lk_miss, Nat.reduceBEq, put_some, put_none, ev_t, reduceIte, Nat.reduceAdd, binD, binInt, lenD, D.pt1, true_and, and_self, Bool.and_true, List.getElem?_cons_zero, List.length_cons, List.length_nil, List.append_nil, List.all_cons, List.all_nil, List.set_cons_zero, Option.map_some, Option.map_none, Nat.zero_add, Nat.add_zero, Int.toNat_natCast, decide_false, resK_nil, resK_tmp, ofRes]))
    rw [Nat.sub_zero, acc_ne' (rows := rowsP F ++ List.replicate (l.length - F.length) zrP) (by
      obtain ⟨n, hn⟩ : ∃ n, l.length - F.length = n + 1 := ⟨l.length - F.length - 1, by simp only [List.length_cons] at hX; omega⟩
      rw [hn]; simp [List.replicate_succ])]
    unfold zrP
    refine GcTo_own [0] (by rfl) (by simp) (by simp [keptW, ObKW, ObW, imp_self, pull, pull2, pull1, pull0, idx_hit, pullOb])
end Go.Proofs.Ytapennlmboabeaa
