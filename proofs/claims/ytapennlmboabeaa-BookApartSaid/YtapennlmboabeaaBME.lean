import Derived.Test.YtapennlmboabeaaBMD
import Derived.Test.YtapennlmboabeaaVi24
set_option linter.unusedVariables false
set_option linter.unusedSimpArgs false
set_option linter.unnecessarySimpa false
namespace Go.Proofs.Ytapennlmboabeaa
open Go Go.Vi
theorem clE_ne (tg : Bool) (l : List (List D)) (hne : l ≠ []) (hsz : ∀ r ∈ l, r.length = 17) (hl : l.length ≤ 400000000000) : CallG Try.prog 34 [.list none tg l] [] (.own 0 0 l.length l.length 17 none) [acc true 17 true l] := by
  refine callG Try.func34 low34 (by simp [c34]) ?_
  simp only [c34]
  refine Run_nils 0 rfl fun b hb => ?_
  obtain rfl : b = false := by
    cases b with
    | false => rfl
    | true => exact absurd (hb rfl) hne
  repeat' ((first | refine Run_seq ?_ | refine Run_skip ?_ | refine Run_block ?_ | refine Run_blk ?_ | refine Run_exit rfl ?_ | refine Run_ret ?_ | refine Run_nil ?_ | refine Run_condK ?_ | refine Run_ops mixed ?_ | refine Run_opsX mixed ?_ | with_reducible refine PostV_open ?_ | with_reducible refine PostG_open ?_ | with_reducible refine PostQ_open ?_ | with_reducible refine ro_callV ?_ | with_reducible refine ro_callVX ?_ | simp (disch := omega) only [w64, wu64, wu32, wu16, wu8, Int.tdiv_eq_ediv_of_nonneg, Int.tmod_eq_emod_of_nonneg] | (with_reducible refine SliceK_own rfl rfl ?_ ?_; (focus ((try simp only [reduceIte, Int.natCast_nonneg, Int.le_refl, List.length_append, List.length_map, Nat.sub_zero]) <;> ((repeat' (with_reducible refine And.intro ?_ ?_)) <;> first | exact trivial | assumption | (simp; done) | (simp only [List.length_map] at *; omega) | omega | (simp [D.cells, D.ok, D.one, D.pt, D.pt1]; done))))) | (refine GuardK_split (fun hc => ?_) (fun hc => ?_) <;> (try simp only [hc]) <;> (try simp at hc)) | (refine CondK_split (fun hc => ?_) (fun hc => ?_) <;> (try simp only [hc]) <;> (try simp at hc)) | (with_reducible refine And.intro ?_ ?_; (focus ((repeat' (with_reducible refine And.intro ?_ ?_)) <;> first | exact trivial | assumption | (simp; done) | (simp only [List.length_map] at *; omega) | omega | (simp [D.cells, D.ok, D.one, D.pt, D.pt1]; done)))) | (with_reducible intro x hx) | omega) <;> (try simp only [ro_nil, ro_mov, ro_slit, SlitK_t, ro_eq, ro_app, newsD_list, AppN_some, AppS_nil, eqO_list, CondK_f, contP_some, lk_hit, lk_miss, Nat.reduceBEq, put_some, ev_t, ev_c, argEnv, eqD, eqN, boolD, D.cells, D.ok, D.one, cond_false, true_and, and_self, Bool.not_false, List.length_nil, List.nil_append, List.map_nil, List.all_nil, List.not_mem_nil, false_imp_iff, implies_true, Nat.zero_lt_succ, resK_nil, resK_tmp, ofRes]))
  rw [acc_b' (by simpa using hne)]
  refine GcTo_own [0] (by rfl) (by simp) (by simp [keptW, ObKW, ObW, imp_self, acc_real, acc_nl, acc_pure, acc_fz, acc_sz, acc_rows, acc_spare, pull, pull2, pull1, pull0, idx_hit, pullOb])
theorem clE_nil (tg : Bool) : CallG Try.prog 34 [.list (some true) tg []] [] (.list (some true) true []) [] := by
  refine callG Try.func34 low34 (by simp [c34]) ?_
  simp only [c34]
  repeat' ((first | refine Run_seq ?_ | refine Run_skip ?_ | refine Run_block ?_ | refine Run_blk ?_ | refine Run_exit rfl ?_ | refine Run_ret ?_ | refine Run_nil ?_ | refine Run_condK ?_ | refine Run_ops mixed ?_ | refine Run_opsX mixed ?_ | with_reducible refine PostV_open ?_ | with_reducible refine PostG_open ?_ | with_reducible refine PostQ_open ?_ | with_reducible refine ro_callV ?_ | with_reducible refine ro_callVX ?_ | simp (disch := omega) only [w64, wu64, wu32, wu16, wu8, Int.tdiv_eq_ediv_of_nonneg, Int.tmod_eq_emod_of_nonneg] | (with_reducible refine SliceK_own rfl rfl ?_ ?_; (focus ((try simp only [reduceIte, Int.natCast_nonneg, Int.le_refl, List.length_append, List.length_map, Nat.sub_zero]) <;> ((repeat' (with_reducible refine And.intro ?_ ?_)) <;> first | exact trivial | assumption | (simp; done) | (simp only [List.length_map] at *; omega) | omega | (simp [D.cells, D.ok, D.one, D.pt, D.pt1]; done))))) | (refine GuardK_split (fun hc => ?_) (fun hc => ?_) <;> (try simp only [hc]) <;> (try simp at hc)) | (refine CondK_split (fun hc => ?_) (fun hc => ?_) <;> (try simp only [hc]) <;> (try simp at hc)) | (with_reducible refine And.intro ?_ ?_; (focus ((repeat' (with_reducible refine And.intro ?_ ?_)) <;> first | exact trivial | assumption | (simp; done) | (simp only [List.length_map] at *; omega) | omega | (simp [D.cells, D.ok, D.one, D.pt, D.pt1]; done)))) | (with_reducible intro x hx) | omega) <;> (try simp only [ro_nil, ro_mov, ro_eq, eqO_list, CondK_t, contP_some, lk_hit, lk_miss, Nat.reduceBEq, put_some, ev_t, ev_c, argEnv, eqD, eqN, boolD, cond_false, true_and, Bool.not_true, resK_nil, resK_tmp, ofRes]))
  refine GcTo_own [] (by rfl) (by simp) (by simp [keptW, D.pt0, pull, pull2, pull1, pull0])
theorem clE_emp (tg : Bool) : CallG Try.prog 34 [.list (some false) tg []] [] (.own 0 0 0 0 17 none) [acc false 17 true []] := by
  refine callG Try.func34 low34 (by simp [c34]) ?_
  simp only [c34]
  repeat' ((first | refine Run_seq ?_ | refine Run_skip ?_ | refine Run_block ?_ | refine Run_blk ?_ | refine Run_exit rfl ?_ | refine Run_ret ?_ | refine Run_nil ?_ | refine Run_condK ?_ | refine Run_ops mixed ?_ | refine Run_opsX mixed ?_ | with_reducible refine PostV_open ?_ | with_reducible refine PostG_open ?_ | with_reducible refine PostQ_open ?_ | with_reducible refine ro_callV ?_ | with_reducible refine ro_callVX ?_ | simp (disch := omega) only [w64, wu64, wu32, wu16, wu8, Int.tdiv_eq_ediv_of_nonneg, Int.tmod_eq_emod_of_nonneg] | (with_reducible refine SliceK_own rfl rfl ?_ ?_; (focus ((try simp only [reduceIte, Int.natCast_nonneg, Int.le_refl, List.length_append, List.length_map, Nat.sub_zero]) <;> ((repeat' (with_reducible refine And.intro ?_ ?_)) <;> first | exact trivial | assumption | (simp; done) | (simp only [List.length_map] at *; omega) | omega | (simp [D.cells, D.ok, D.one, D.pt, D.pt1]; done))))) | (refine GuardK_split (fun hc => ?_) (fun hc => ?_) <;> (try simp only [hc]) <;> (try simp at hc)) | (refine CondK_split (fun hc => ?_) (fun hc => ?_) <;> (try simp only [hc]) <;> (try simp at hc)) | (with_reducible refine And.intro ?_ ?_; (focus ((repeat' (with_reducible refine And.intro ?_ ?_)) <;> first | exact trivial | assumption | (simp; done) | (simp only [List.length_map] at *; omega) | omega | (simp [D.cells, D.ok, D.one, D.pt, D.pt1]; done)))) | (with_reducible intro x hx) | omega) <;> (try simp only [ro_nil, ro_mov, ro_slit, SlitK_t, ro_eq, ro_app, newsD_list, AppN_some, AppS_nil, eqO_list, CondK_f, contP_some, lk_hit, lk_miss, Nat.reduceBEq, put_some, ev_t, ev_c, argEnv, Nat.reduceMul, Nat.reduceLeDiff, eqD, eqN, boolD, D.cells, D.ok, D.one, cond_false, true_and, and_self, Bool.not_false, List.length_nil, List.nil_append, List.map_nil, List.all_nil, List.not_mem_nil, false_imp_iff, implies_true, Nat.zero_lt_succ, resK_nil, resK_tmp, ofRes]))
  refine GcTo_own [0] (by rfl) (by simp) (by simp [keptW, ObKW, ObW, imp_self, acc_real, acc_nl, acc_pure, acc_fz, acc_sz, acc_rows, acc_spare, pull, pull2, pull1, pull0, idx_hit, pullOb])
theorem inE_nil (b : Bool) (d : List D) (hd : d.length = 17) (tg : Bool) (nl : Option Bool) : CallG Try.prog 35 [.list (some b) true [], .int .i64 0, .list nl tg [d]] []
    (.own 0 0 1 1 17 none) [acc true 17 true [d]] := by
  refine callG Try.func35 low35 (by simp [c35]) ?_
  simp only [c35]
  repeat' ((first | refine Run_seq ?_ | refine Run_skip ?_ | refine Run_block ?_ | refine Run_blk ?_ | refine Run_exit rfl ?_ | refine Run_ret ?_ | refine Run_nil ?_ | refine Run_condK ?_ | refine Run_ops mixed ?_ | refine Run_opsX mixed ?_ | with_reducible refine PostV_open ?_ | with_reducible refine PostG_open ?_ | with_reducible refine PostQ_open ?_ | with_reducible refine ro_callV ?_ | with_reducible refine ro_callVX ?_ | simp (disch := omega) only [w64, wu64, wu32, wu16, wu8, Int.tdiv_eq_ediv_of_nonneg, Int.tmod_eq_emod_of_nonneg] | (with_reducible refine SliceK_own rfl rfl ?_ ?_; (focus ((try simp only [reduceIte, Int.natCast_nonneg, Int.le_refl, List.length_append, List.length_map, Nat.sub_zero]) <;> ((repeat' (with_reducible refine And.intro ?_ ?_)) <;> first | exact trivial | assumption | (simp; done) | (simp only [List.length_map] at *; omega) | omega | (simp [D.cells, D.ok, D.one, D.pt, D.pt1]; done))))) | (refine GuardK_split (fun hc => ?_) (fun hc => ?_) <;> (try simp only [hc]) <;> (try simp at hc)) | (refine CondK_split (fun hc => ?_) (fun hc => ?_) <;> (try simp only [hc]) <;> (try simp at hc)) | (with_reducible refine And.intro ?_ ?_; (focus ((repeat' (with_reducible refine And.intro ?_ ?_)) <;> first | exact trivial | assumption | (simp; done) | (simp only [List.length_map] at *; omega) | omega | (simp [D.cells, D.ok, D.one, D.pt, D.pt1]; done)))) | (with_reducible intro x hx) | omega) <;> (try simp only [hd, forall_eq, ro_nil, ro_mov, ro_bin, ro_len, ro_slice, SliceK_list, ro_app, newsD_list, AppN_some, AppS_nil, CondK_t, CondK_f, contP_some, lk_hit, lk_miss, Nat.reduceBEq, put_some, ev_t, ev_c, argEnv, reduceIte, Nat.reduceAdd, Nat.reduceMul, Nat.reduceLeDiff, binD, binInt, lenD, sliceD, bndD, true_and, and_self, List.length_cons, List.length_nil, List.take_nil, List.drop_nil, List.nil_append, List.not_mem_nil, false_imp_iff, implies_true, Option.map_some, Option.map_none, Nat.zero_add, Int.toNat_natCast, Int.reduceToNat, Int.le_refl, Int.natCast_nonneg, Nat.zero_lt_succ, List.mem_cons, or_false, resK_nil, resK_tmp, ofRes]))
  refine GcTo_own [0] (by rfl) (by simp) (by simp [keptW, ObKW, ObW, imp_self, acc_real, acc_nl, acc_pure, acc_fz, acc_sz, acc_rows, acc_spare, pull, pull2, pull1, pull0, idx_hit, pullOb])
set_option maxHeartbeats 1000000 in
theorem inE_p (l : List (List D)) (k : Nat) (d : List D) (tg : Bool) (nl : Option Bool) (hne : l ≠ []) (hsz : ∀ r ∈ l, r.length = 17) (hd : d.length = 17) (hp : (l.all fun r => r.all D.pt1) = true) (hpd : (d.all D.pt1) = true) (hl : l.length ≤ 400000000000) (hk : k ≤ l.length) : CallG Try.prog 35 [.own 0 0 l.length l.length 17 none, .int .i64 k, .list nl tg [d]] [acc true 17 true l]
    (.own 0 0 (l.length + 1) (l.length + 1) 17 none) [acc true 17 true (l.take k ++ d :: l.drop k)] := by
  refine callG Try.func35 low35 (by simp [c35]) ?_
  simp only [c35]
  have hne' : l.isEmpty = false := by simpa using hne
  have hdn : (d = []) = False := by
    rw [eq_iff_iff]
    refine ⟨fun h => ?_, False.elim⟩
    rw [h] at hd
    cases hd
  have hszd : ∀ r ∈ l.drop k, r.length = 17 := fun r hr => hsz r (List.mem_of_mem_drop hr)
  by_cases hkl : k = l.length
  · subst hkl
    have c2 : ((l.length : Int) == (l.length : Int)) = true := by simp
    repeat' ((first | refine Run_seq ?_ | refine Run_skip ?_ | refine Run_block ?_ | refine Run_blk ?_ | refine Run_exit rfl ?_ | refine Run_ret ?_ | refine Run_nil ?_ | refine Run_condK ?_ | refine Run_ops mixed ?_ | refine Run_opsX mixed ?_ | with_reducible refine PostV_open ?_ | with_reducible refine PostG_open ?_ | with_reducible refine PostQ_open ?_ | with_reducible refine ro_callV ?_ | with_reducible refine ro_callVX ?_ | simp (disch := omega) only [w64, wu64, wu32, wu16, wu8, Int.tdiv_eq_ediv_of_nonneg, Int.tmod_eq_emod_of_nonneg] | (with_reducible refine SliceK_own rfl rfl ?_ ?_; (focus ((try simp only [Int.natCast_nonneg, Int.le_refl]) <;> ((repeat' (with_reducible refine And.intro ?_ ?_)) <;> first | exact trivial | assumption | (simp; done) | (simp only [List.length_map] at *; omega) | omega | (simp [D.cells, D.ok, D.one, D.pt, D.pt1]; done))))) | (refine GuardK_split (fun hc => ?_) (fun hc => ?_) <;> (try simp only [hc]) <;> (try simp at hc)) | (refine CondK_split (fun hc => ?_) (fun hc => ?_) <;> (try simp only [hc]) <;> (try simp at hc)) | (with_reducible refine And.intro ?_ ?_; (focus ((repeat' (with_reducible refine And.intro ?_ ?_)) <;> first | exact trivial | assumption | (simp; done) | (simp only [List.length_map] at *; omega) | omega | (simp [D.cells, D.ok, D.one, D.pt, D.pt1]; done)))) | (with_reducible intro x hx) | omega) <;> (try simp only [c2, hd, forall_eq, ro_nil, ro_mov, ro_bin, ro_len, ro_slice, ro_app, newsD_list, AppN_some, AppS_own, AppO_acc, CondK_t, CondK_f, contP_some, lk_hit, lk_miss, Nat.reduceBEq, put_some, ev_t, ev_c, argEnv, reduceIte, Nat.reduceAdd, Nat.reduceLeDiff, binD, binInt, lenD, true_and, and_self, Bool.and_true, List.getElem?_cons_zero, List.length_cons, List.length_nil, List.set_cons_zero, List.not_mem_nil, Option.map_some, Option.map_none, Nat.zero_add, Nat.sub_self, Int.toNat_natCast, Nat.zero_lt_succ, List.mem_cons, or_false, resK_nil, resK_tmp, ofRes]))
    have e : l.take l.length ++ d :: l.drop l.length = l ++ [d] := by simp
    rw [e]
    refine GcTo_own [0] (by rfl) (by simp) (by simp [keptW, ObKW, ObW, imp_self, acc_real, acc_nl, acc_pure, acc_fz, acc_sz, acc_rows, acc_spare, pull, pull2, pull1, pull0, idx_hit, pullOb])
  · have c2 : ((k : Int) == (l.length : Int)) = false := by simp; omega
    have e3 : ((l.length : Int) + ((1 : Nat) : Int) - (k : Int)).toNat = l.length + 1 - k := by omega
    have c4 : ((k : Int) ≤ (l.length : Int)) = True := by simp; omega
    repeat' ((first | refine Run_seq ?_ | refine Run_skip ?_ | refine Run_block ?_ | refine Run_blk ?_ | refine Run_exit rfl ?_ | refine Run_ret ?_ | refine Run_nil ?_ | refine Run_condK ?_ | refine Run_ops mixed ?_ | refine Run_opsX mixed ?_ | with_reducible refine PostV_open ?_ | with_reducible refine PostG_open ?_ | with_reducible refine PostQ_open ?_ | with_reducible refine ro_callV ?_ | with_reducible refine ro_callVX ?_ | simp (disch := omega) only [w64] | (with_reducible refine SliceK_own rfl rfl ?_ ?_; (focus ((try simp only [Int.natCast_nonneg, Int.le_refl]) <;> ((repeat' (with_reducible refine And.intro ?_ ?_)) <;> first | exact trivial | assumption | (simp; done) | (simp only [List.length_map] at *; omega) | omega | (simp []; done))))) | (refine GuardK_split (fun hc => ?_) (fun hc => ?_) <;> (try simp only [hc]) <;> (try simp at hc)) | (refine CondK_split (fun hc => ?_) (fun hc => ?_) <;> (try simp only [hc]) <;> (try simp at hc)) | (with_reducible refine And.intro ?_ ?_; (focus ((repeat' (with_reducible refine And.intro ?_ ?_)) <;> first | exact trivial | assumption | (simp; done) | (simp only [List.length_map] at *; omega) | omega | (simp [D.cells, D.ok, D.one, D.pt, D.pt1]; done)))) | (with_reducible intro x hx) | omega) <;> (try simp only [hne', c2, e3, ro_nil, ro_mov, ro_bin, ro_len, ro_slice, ro_appz, AppZ_int, AppS_own, ro_cap, CapK_own, CapO, acc_real, acc_nl, acc_pure, acc_fz, acc_sz, acc_rows, acc_spare, CondK_t, CondK_f, contP_some, lk_hit, lk_miss, Nat.reduceBEq, put_some, ev_t, ev_c, argEnv, reduceIte, Nat.reduceAdd, binD, binInt, lenD, D.pt1, true_and, and_true, and_self, Bool.and_true, Bool.and_false, Bool.not_false, List.getElem?_cons_zero, List.length_cons, List.length_nil, List.all_cons, List.all_nil, List.set_cons_zero, Option.map_some, Option.map_none, Nat.zero_add, Nat.add_zero, Int.toNat_natCast, Nat.zero_lt_succ]))
    · refine AppO_over (c := x) (by omega) ⟨by simp, by simp only [List.length_replicate]; omega, by simp only [List.length_replicate]; omega⟩ ⟨by simp only [List.length_replicate]; omega, rfl, rfl, by simp only [List.length_replicate]; omega, rfl⟩ ?_
      have e4 : k - 0 + (l.length + 1 - k) = l.length + 1 := by omega
      have e5 : winD 0 (k - 0) l.length l = l.take k := by
        unfold winD
        simp [hkl]
      have e6 : min k l.length = k := by omega
      have e7 : min 1 (l.length + 1 - k) = 1 := by omega
      have e8 : winD k (l.length - k) l.length l = l.drop k := by
        unfold winD
        split
        · rename_i h; rw [h.1]; rfl
        · rw [List.take_of_length_le (by simp)]
      have e9 : ((k : Int) + ((1 : Nat) : Int)).toNat = k + 1 := by omega
      have e10 : min (l.length - k) (l.length + 1 - (k + 1)) = l.length - k := by omega
      simp only [e4, List.length_replicate, e5]
      repeat' ((first | refine Run_seq ?_ | refine Run_skip ?_ | refine Run_block ?_ | refine Run_blk ?_ | refine Run_exit rfl ?_ | refine Run_ret ?_ | refine Run_nil ?_ | refine Run_condK ?_ | refine Run_ops mixed ?_ | refine Run_opsX mixed ?_ | with_reducible refine PostV_open ?_ | with_reducible refine PostG_open ?_ | with_reducible refine PostQ_open ?_ | with_reducible refine ro_callV ?_ | with_reducible refine ro_callVX ?_ | simp (disch := omega) only [w64] | (with_reducible refine SliceK_own rfl rfl ?_ ?_; (focus ((try simp only [Int.natCast_nonneg, Int.le_refl]) <;> ((repeat' (with_reducible refine And.intro ?_ ?_)) <;> first | exact trivial | assumption | (simp; done) | (simp only [List.length_map] at *; omega) | omega | (simp [D.cells, D.ok, D.one, D.pt, D.pt1]; done))))) | (refine GuardK_split (fun hc => ?_) (fun hc => ?_) <;> (try simp only [hc]) <;> (try simp at hc)) | (refine CondK_split (fun hc => ?_) (fun hc => ?_) <;> (try simp only [hc]) <;> (try simp at hc)) | (with_reducible refine And.intro ?_ ?_; (focus ((repeat' (with_reducible refine And.intro ?_ ?_)) <;> first | exact trivial | assumption | (simp; done) | (simp only [List.length_map] at *; omega) | omega | (simp [D.cells, D.ok, D.one, D.pt, D.pt1]; done)))) | (with_reducible intro x hx) | omega) <;> (try simp only [e6, e7, e8, e9, e10, hd, forall_eq, ro_nil, ro_mov, ro_bin, ro_slice, newsC_list, newsC_own, newsCO_some, ro_copy, CopyK_own, CopyO_some, rx_nil, rx_cons, keepK_nil, contP_some, lk_hit, lk_miss, Nat.reduceBEq, put_some, ev_t, reduceIte, binD, binInt, binStr, true_and, and_true, and_self, Bool.and_true, Bool.true_or, List.getElem?_cons_zero, List.getElem?_cons_succ, List.length_cons, List.length_nil, List.length_append, List.length_take, List.length_drop, List.length_replicate, List.cons_append, List.nil_append, List.set_cons_zero, List.set_cons_succ, List.not_mem_nil, Option.map_some, Option.map_none, Nat.zero_add, Int.toNat_natCast, List.mem_cons, or_false, resK_nil, resK_tmp, ofRes]))
      have e11 : List.take (l.length + 1 - (k + 1)) (List.drop k l) = l.drop k := by rw [List.take_of_length_le (by simp)]
      rw [e11, ins_eqA (by rw [List.length_take]; omega) (by omega), acc_ne' ins_isE]
      refine GcTo_reb [1] (by first | (simp [preW, acc_sz, acc_rows]; done) | (simp [preW, acc_sz, acc_rows]; omega)) (by simp) (by simp [keptW, ObKW, ObW, imp_self, pull, pull2, pull1, pull0, idx_hit, pullOb])
    · refine SliceK_spare (c := x) rfl rfl rfl ⟨rfl, by omega, by omega, by omega⟩ ⟨by simp, rfl, rfl, by omega, rfl, by omega⟩ ?_
      have e4 : ((l.length : Int) + ((1 : Nat) : Int)).toNat = l.length + 1 := by omega
      have e9 : ((k : Int) + ((1 : Nat) : Int)).toNat = k + 1 := by omega
      have f1 : l.length + 1 - l.length = 1 := by omega
      obtain ⟨u, hu⟩ : ∃ u, List.replicate 17 D.undef = u := ⟨_, rfl⟩
      obtain ⟨U, hU⟩ : ∃ U, List.replicate 1 u = U := ⟨_, rfl⟩
      have hUl : U.length = 1 := by rw [← hU]; rfl
      have f2 : winD k (l.length + 1 - k) (l.length + 1) (l ++ U) = l.drop k ++ U := by
        unfold winD
        split
        · rename_i h; rw [h.1]; rfl
        · rw [List.drop_append_of_le_length (by omega), List.take_of_length_le (by simp [hUl]; omega)]
      have f3 : List.take (l.length + 1 - (k + 1)) (l.drop k ++ U) = l.drop k := List.take_left' (by simp)
      have f6 : (∀ r ∈ l.drop k ++ U, r.length = 17) = True := by
        rw [eq_iff_iff]
        refine ⟨fun _ => trivial, fun _ r hr => ?_⟩
        rcases List.mem_append.1 hr with h | h
        · exact hszd r h
        · rw [← hU] at h; rw [List.eq_of_mem_replicate h, ← hu]; rfl
      have f4 : (l.drop k).all (fun r => r.all D.one) = true := by
        simp only [List.all_eq_true]
        intro r hr d hd
        exact pt1_one (List.all_eq_true.1 (List.all_eq_true.1 hp r (List.mem_of_mem_drop hr)) d hd)
      have f5 : min (l.length - k + 1) (l.length + 1 - (k + 1)) = l.length - k := by omega
      simp only [e4, Nat.sub_zero, hu]
      repeat' ((first | refine Run_seq ?_ | refine Run_skip ?_ | refine Run_block ?_ | refine Run_blk ?_ | refine Run_exit rfl ?_ | refine Run_nil ?_ | refine Run_condK ?_ | refine Run_ops mixed ?_ | refine Run_opsX mixed ?_ | with_reducible refine PostV_open ?_ | with_reducible refine PostG_open ?_ | with_reducible refine PostQ_open ?_ | with_reducible refine ro_callV ?_ | with_reducible refine ro_callVX ?_ | simp (disch := omega) only [w64] | (with_reducible refine SliceK_own rfl rfl ?_ ?_; (focus ((try simp only [Int.natCast_nonneg, Int.le_refl]) <;> ((repeat' (with_reducible refine And.intro ?_ ?_)) <;> first | exact trivial | assumption | (simp; done) | (simp only [List.length_map] at *; omega) | omega | (simp [D.cells, D.ok, D.one, D.pt, D.pt1]; done))))) | (refine GuardK_split (fun hc => ?_) (fun hc => ?_) <;> (try simp only [hc]) <;> (try simp at hc)) | (refine CondK_split (fun hc => ?_) (fun hc => ?_) <;> (try simp only [hc]) <;> (try simp at hc)) | (with_reducible refine And.intro ?_ ?_; (focus ((repeat' (with_reducible refine And.intro ?_ ?_)) <;> first | exact trivial | assumption | (simp; done) | (simp only [List.length_map] at *; omega) | omega | (simp [D.cells, D.ok, D.one, D.pt, D.pt1]; done)))) | (with_reducible intro x hx) | omega) <;> (try simp only [e9, f1, f2, f3, f4, f5, f6, hUl, hU, Nat.sub_zero, hd, hdn, forall_eq, not_false_eq_true, ro_nil, ro_mov, ro_bin, ro_un, ro_slice, newsC_list, newsC_own, newsCO_some, ro_ovl, OvlK_own, OvlO_some, ro_copy, CopyK_own, CopyO_some, rx_nil, rx_cons, keepK_nil, CondK_t, contP_some, lk_hit, lk_miss, Nat.reduceBEq, put_some, ev_t, reduceIte, binD, binInt, binStr, okD, unD, true_and, and_true, and_self, Bool.and_true, Bool.and_false, Bool.not_false, Bool.true_or, Bool.or_true, List.getElem?_cons_zero, List.length_cons, List.length_nil, List.length_append, List.length_take, List.length_drop, List.set_cons_zero, List.not_mem_nil, ne_eq, not_false_eq_true, Option.map_some, Option.map_none, Nat.zero_add, Nat.add_zero, Int.toNat_natCast, Nat.zero_lt_succ, List.mem_cons, or_false]))
      rw [ins_eqB rfl hUl (by omega), acc_ne' ins_isE]
      refine Run_ent (Ent_pure 0 rfl rfl (by
        show (l.take k ++ d :: l.drop k).all (fun r => r.all D.pt1) = true
        simp only [List.all_append, List.all_cons, Bool.and_eq_true]
        exact ⟨List.all_eq_true.2 fun r hr => List.all_eq_true.1 hp r (List.mem_of_mem_take hr), hpd, List.all_eq_true.2 fun r hr => List.all_eq_true.1 hp r (List.mem_of_mem_drop hr)⟩)) ?_
      repeat' ((first | refine Run_seq ?_ | refine Run_skip ?_ | refine Run_block ?_ | refine Run_blk ?_ | refine Run_exit rfl ?_ | refine Run_ret ?_ | refine Run_nil ?_ | refine Run_condK ?_ | refine Run_ops mixed ?_ | refine Run_opsX mixed ?_ | with_reducible refine PostV_open ?_ | with_reducible refine PostG_open ?_ | with_reducible refine PostQ_open ?_ | with_reducible refine ro_callV ?_ | with_reducible refine ro_callVX ?_ | simp (disch := omega) only [w64, wu64, wu32, wu16, wu8, Int.tdiv_eq_ediv_of_nonneg, Int.tmod_eq_emod_of_nonneg] | (with_reducible refine SliceK_own rfl rfl ?_ ?_; (focus ((try simp only [reduceIte, Int.natCast_nonneg, Int.le_refl, List.length_append, List.length_map, Nat.sub_zero]) <;> ((repeat' (with_reducible refine And.intro ?_ ?_)) <;> first | exact trivial | assumption | (simp; done) | (simp only [List.length_map] at *; omega) | omega | (simp [D.cells, D.ok, D.one, D.pt, D.pt1]; done))))) | (refine GuardK_split (fun hc => ?_) (fun hc => ?_) <;> (try simp only [hc]) <;> (try simp at hc)) | (refine CondK_split (fun hc => ?_) (fun hc => ?_) <;> (try simp only [hc]) <;> (try simp at hc)) | (with_reducible refine And.intro ?_ ?_; (focus ((repeat' (with_reducible refine And.intro ?_ ?_)) <;> first | exact trivial | assumption | (simp; done) | (simp only [List.length_map] at *; omega) | omega | (simp [D.cells, D.ok, D.one, D.pt, D.pt1]; done)))) | (with_reducible intro x hx) | omega) <;> (try simp only [lk_hit, List.set_cons_zero, resK_nil, resK_tmp, ofRes]))
      refine GcTo_own [0] (by rfl) (by simp) (by simp [keptW, ObKW, ObW, or_true, imp_self, pull, pull2, pull1, pull0, idx_hit, pullOb])
theorem clE_any (tg : Bool) : CallG Try.prog 34 [.list none tg []] [] (.list none true []) [] :=
  CallG.nils fun b _ => by
    cases b
    · exact (clE_emp tg).emp
    · exact (clE_nil tg).nl
theorem inE_any (d : List D) (hd : d.length = 17) (tg : Bool) (nl : Option Bool) : CallG Try.prog 35 [.list none true [], .int .i64 0, .list nl tg [d]] []
    (.own 0 0 1 1 17 none) [acc true 17 true [d]] := CallG.nils fun b _ => inE_nil b d hd tg nl
end Go.Proofs.Ytapennlmboabeaa

namespace Go.Proofs.Ytapennlmboabeaa
open Go Go.Vi

def zrE : List D := [.int .u32 0, .int .i64 0, .int .i64 0, .bool false, .bool false, .int .i64 0, .int .i64 0, .int .i64 0, .int .i64 0, .list (some true) true [], .list (some true) true [], .list (some true) true [], .list (some true) true [], .int .i64 0, .list (some true) true [], .list (some true) true [], .list (some true) true []]
set_option maxHeartbeats 1000000 in
theorem delE_p (l : List (List D)) (k : Nat) (hsz : ∀ r ∈ l, r.length = 17) (hp : (l.all fun r => r.all D.pt1) = true) (hl : l.length ≤ 400000000000) (hk : k < l.length) : CallG Try.prog 39 [.own 0 0 l.length l.length 17 none, .int .i64 k, .int .i64 (k + 1)] [acc true 17 true l]
    (.own 0 0 (l.length - 1) l.length 17 none) [acc true 17 true (l.take k ++ l.drop (k + 1) ++ [zrE])] := by
  refine callG Try.func39 low39 (by simp [c39]) ?_
  simp only [c39]
  have hne' : l.isEmpty = false := by
    cases l with
    | nil => simp at hk
    | cons => rfl
  have c2 : ((k : Int) == (k : Int) + 1) = false := by simp; omega
  have e1 : (1 : Int) + (k : Int) = (k : Int) + 1 := by omega
  have e2 : ((k : Int) + 1).toNat = k + 1 := by omega
  have e3 : winD (k + 1) (l.length - (k + 1)) l.length l = l.drop (k + 1) := by
    unfold winD
    rw [if_neg (by omega), List.take_of_length_le (by simp)]
  repeat' ((first | refine Run_seq ?_ | refine Run_skip ?_ | refine Run_block ?_ | refine Run_blk ?_ | refine Run_exit rfl ?_ | refine Run_ret ?_ | refine Run_nil ?_ | refine Run_condK ?_ | refine Run_ops mixed ?_ | refine Run_opsX mixed ?_ | with_reducible refine PostV_open ?_ | with_reducible refine PostG_open ?_ | with_reducible refine PostQ_open ?_ | with_reducible refine ro_callV ?_ | with_reducible refine ro_callVX ?_ | simp (disch := omega) only [w64, wu64, wu32, wu16, wu8, Int.tdiv_eq_ediv_of_nonneg, Int.tmod_eq_emod_of_nonneg] | (with_reducible refine SliceK_own rfl rfl ?_ ?_; (focus ((try simp only [Int.natCast_nonneg, Int.le_refl]) <;> ((repeat' (with_reducible refine And.intro ?_ ?_)) <;> first | exact trivial | assumption | (simp; done) | (simp only [List.length_map] at *; omega) | omega | (simp [D.cells, D.ok, D.one, D.pt, D.pt1]; done))))) | (refine GuardK_split (fun hc => ?_) (fun hc => ?_) <;> (try simp only [hc]) <;> (try simp at hc)) | (refine CondK_split (fun hc => ?_) (fun hc => ?_) <;> (try simp only [hc]) <;> (try simp at hc)) | (with_reducible refine And.intro ?_ ?_; (focus ((repeat' (with_reducible refine And.intro ?_ ?_)) <;> first | exact trivial | assumption | (simp; done) | (simp only [List.length_map] at *; omega) | omega | (simp [D.cells, D.ok, D.one, D.pt, D.pt1]; done)))) | (with_reducible intro x hx) | omega) <;> (try simp only [c2, e2, e3, ro_nil, ro_mov, ro_bin, ro_len, ro_slice, ro_slice3, ro_app, newsD_own, newsO_some, AppN_some, AppS_own, rx_nil, rx_cons, keepK_nil, acc_pure, acc_rows, CondK_f, contP_some, lk_hit, lk_miss, Nat.reduceBEq, put_some, ev_t, ev_c, argEnv, reduceIte, Nat.reduceAdd, binD, binInt, lenD, slice3D, bndD, true_and, and_true, and_self, Bool.true_or, List.getElem?_cons_zero, Option.map_some, Option.map_none, Nat.zero_add, Nat.add_zero, Int.toNat_natCast, Int.le_refl, Int.natCast_nonneg, Nat.zero_lt_succ]))
  refine ⟨fun r hr => hsz r (List.mem_of_mem_drop hr), ?_⟩
  have e4 : k + (l.length - (k + 1)) = l.length - 1 := by omega
  refine AppO_in (by omega) ⟨rfl, by simp only [List.length_drop]; omega, by simp only [List.length_drop]; omega⟩ ⟨rfl, by simp only [List.length_drop]; omega, by simp⟩ ?_
  simp only [Nat.sub_zero, Nat.zero_add, List.length_drop, e4]
  repeat' ((first | refine Run_seq ?_ | refine Run_skip ?_ | refine Run_block ?_ | refine Run_blk ?_ | refine Run_exit rfl ?_ | refine Run_ret ?_ | refine Run_nil ?_ | refine Run_condK ?_ | refine Run_ops mixed ?_ | refine Run_opsX mixed ?_ | with_reducible refine PostV_open ?_ | with_reducible refine PostG_open ?_ | with_reducible refine PostQ_open ?_ | with_reducible refine ro_callV ?_ | with_reducible refine ro_callVX ?_ | simp (disch := omega) only [w64, wu64, wu32, wu16, wu8, Int.tdiv_eq_ediv_of_nonneg, Int.tmod_eq_emod_of_nonneg] | (with_reducible refine SliceK_own rfl rfl ?_ ?_; (focus ((try simp only [Int.natCast_nonneg]) <;> ((repeat' (with_reducible refine And.intro ?_ ?_)) <;> first | exact trivial | assumption | (simp; done) | (simp only [List.length_map] at *; omega) | omega | (simp []; done))))) | (refine GuardK_split (fun hc => ?_) (fun hc => ?_) <;> (try simp only [hc]) <;> (try simp at hc)) | (refine CondK_split (fun hc => ?_) (fun hc => ?_) <;> (try simp only [hc]) <;> (try simp at hc)) | (with_reducible refine And.intro ?_ ?_; (focus ((repeat' (with_reducible refine And.intro ?_ ?_)) <;> first | exact trivial | assumption | (simp; done) | (simp only [List.length_map] at *; omega) | omega | (simp [D.cells, D.ok, D.one, D.pt, D.pt1]; done)))) | (with_reducible intro x hx) | omega) <;> (try simp only [hne', ro_mov, ro_len, ro_slice, acc_real, acc_nl, acc_pure, acc_fz, acc_sz, acc_rows, acc_spare, contP_some, lk_hit, lk_miss, Nat.reduceBEq, put_some, ev_t, lenD, true_and, Bool.and_true, Bool.and_false, Bool.not_false, List.set_cons_zero, Option.map_some]))
  have e5 : (l.take k ++ l.drop (k + 1) ++ l.drop (l.length - 1)).length = l.length := by simp only [List.length_append, List.length_take, List.length_drop]; omega
  have e6 : List.take (l.length - 1) (l.take k ++ l.drop (k + 1) ++ l.drop (l.length - 1)) = l.take k ++ l.drop (k + 1) := List.take_left' (by simp only [List.length_append, List.length_take, List.length_drop]; omega)
  have e7 : List.drop (l.length - 1 + 1) (l.take k ++ l.drop (k + 1) ++ l.drop (l.length - 1)) = [] := List.drop_eq_nil_of_le (by rw [e5]; omega)
  generalize l.take k ++ l.drop (k + 1) ++ l.drop (l.length - 1) = m at e5 e6 e7 ⊢
  refine SliceK_more rfl rfl rfl ⟨rfl, by omega, by omega, by omega⟩ ⟨e5, rfl, by omega⟩ ?_
  have e8 : l.length - (l.length - 1) = 1 := by omega
  simp only [e5, e6, e7, e8, List.replicate_one, ro_nil, ro_clear, ClearK_own, ClearO_some, lk_hit, put_some, put_none, ev_t, Nat.reduceAdd, D.pt1, true_and, and_self, Bool.and_true, List.getElem?_cons_zero, List.length_cons, List.length_nil, List.append_nil, List.all_cons, List.all_nil, List.set_cons_zero, Nat.zero_add, Int.toNat_natCast]
  repeat' ((first | refine Run_seq ?_ | refine Run_skip ?_ | refine Run_block ?_ | refine Run_blk ?_ | refine Run_exit rfl ?_ | refine Run_ret ?_ | refine Run_nil ?_ | refine Run_condK ?_ | refine Run_ops mixed ?_ | refine Run_opsX mixed ?_ | with_reducible refine PostV_open ?_ | with_reducible refine PostG_open ?_ | with_reducible refine PostQ_open ?_ | with_reducible refine ro_callV ?_ | with_reducible refine ro_callVX ?_ | simp (disch := omega) only [w64, wu64, wu32, wu16, wu8, Int.tdiv_eq_ediv_of_nonneg, Int.tmod_eq_emod_of_nonneg] | (with_reducible refine SliceK_own rfl rfl ?_ ?_; (focus ((try simp only [reduceIte, Int.natCast_nonneg, Int.le_refl, List.length_append, List.length_map, Nat.sub_zero]) <;> ((repeat' (with_reducible refine And.intro ?_ ?_)) <;> first | exact trivial | assumption | (simp; done) | (simp only [List.length_map] at *; omega) | omega | (simp [D.cells, D.ok, D.one, D.pt, D.pt1]; done))))) | (refine GuardK_split (fun hc => ?_) (fun hc => ?_) <;> (try simp only [hc]) <;> (try simp at hc)) | (refine CondK_split (fun hc => ?_) (fun hc => ?_) <;> (try simp only [hc]) <;> (try simp at hc)) | (with_reducible refine And.intro ?_ ?_; (focus ((repeat' (with_reducible refine And.intro ?_ ?_)) <;> first | exact trivial | assumption | (simp; done) | (simp only [List.length_map] at *; omega) | omega | (simp [D.cells, D.ok, D.one, D.pt, D.pt1]; done)))) | (with_reducible intro x hx) | omega) <;> (try simp only [ro_nil, ro_mov, lk_hit, lk_miss, Nat.reduceBEq, put_some, ev_t, resK_nil, resK_tmp, ofRes]))
  rw [acc_ne' (rows := l.take k ++ l.drop (k + 1) ++ [zrE]) (by simp)]
  unfold zrE
  refine GcTo_own [0] (by rfl) (by simp) (by simp [keptW, ObKW, ObW, imp_self, pull, pull2, pull1, pull0, idx_hit, pullOb])
end Go.Proofs.Ytapennlmboabeaa

namespace Go.Proofs.Ytapennlmboabeaa
open Go Go.Vi


theorem low_take {α : Type} (f : α → Int) (id : Int) : ∀ l : List α, (l.Pairwise fun a b => f a < f b) → l.take (lowB f l id) = l.filter fun x => decide (f x < id)
  | [], _ => by simp [lowB]
  | x :: l, hs => by
    obtain ⟨h1, h2⟩ := List.pairwise_cons.1 hs
    unfold lowB
    split
    · rename_i h
      rw [List.take_succ_cons, low_take f id l h2]; simp [h]
    · rename_i h
      rw [List.take_zero, eq_comm, List.filter_eq_nil_iff]
      intro y hy
      rcases List.mem_cons.1 hy with rfl | hy
      · simpa using h
      · have := h1 y hy; simp; omega
theorem low_no {α : Type} (f : α → Int) (id : Int) : ∀ l : List α, (l.Pairwise fun a b => f a < f b) → isAtB f l (lowB f l id) id = false → l.drop (lowB f l id) = l.filter fun x => decide (id < f x)
  | [], _, _ => by simp
  | x :: l, hs, ha => by
    obtain ⟨h1, h2⟩ := List.pairwise_cons.1 hs
    unfold lowB at ha ⊢
    split
    · rename_i h
      rw [if_pos h] at ha
      have ha' : isAtB f l (lowB f l id) id = false := by simpa [isAtB] using ha
      rw [List.drop_succ_cons, low_no f id l h2 ha']
      have : ¬ id < f x := by omega
      simp [this]
    · rename_i h
      rw [if_neg h] at ha
      have ha' : ¬ f x = id := by simpa [isAtB] using ha
      rw [List.drop_zero, eq_comm, List.filter_eq_self]
      intro y hy
      rcases List.mem_cons.1 hy with rfl | hy
      · simp; omega
      · have := h1 y hy; simp; omega
theorem low_at {α : Type} (f : α → Int) (id : Int) : ∀ l : List α, (l.Pairwise fun a b => f a < f b) → isAtB f l (lowB f l id) id = true → ∃ x, f x = id ∧ l[lowB f l id]? = some x ∧ l.drop (lowB f l id + 1) = l.filter fun x => decide (id < f x)
  | [], _, ha => by simp [isAtB] at ha
  | x :: l, hs, ha => by
    obtain ⟨h1, h2⟩ := List.pairwise_cons.1 hs
    unfold lowB at ha ⊢
    split
    · rename_i h
      rw [if_pos h] at ha
      have ha' : isAtB f l (lowB f l id) id = true := by simpa [isAtB] using ha
      obtain ⟨y, hy1, hy2, hy3⟩ := low_at f id l h2 ha'
      refine ⟨y, hy1, by simpa using hy2, ?_⟩
      rw [List.drop_succ_cons, hy3]
      have : ¬ id < f x := by omega
      simp [this]
    · rename_i h
      rw [if_neg h] at ha
      have ha' : f x = id := by simpa [isAtB] using ha
      refine ⟨x, ha', by simp, ?_⟩
      have : ¬ id < f x := by omega
      rw [List.drop_succ_cons, List.drop_zero, List.filter_cons_of_neg (by simp; omega), eq_comm, List.filter_eq_self]
      intro y hy
      have := h1 y hy; simp; omega
/-- An event put among others. -/
def putEv (l : List En) (id : Int) (e : Ev) : List En := (l.filter fun x => decide (x.id < id)) ++ ⟨id, e⟩ :: l.filter fun x => decide (id < x.id)
def delEv (l : List En) (id : Int) : List En := (l.filter fun x => decide (x.id < id)) ++ l.filter fun x => decide (id < x.id)
theorem set_put {l : List En} {id : Int} (e : Ev) (hs : l.Pairwise fun a b => a.id < b.id) (ha : isAtB En.id l (lowB En.id l id) id = true) : l.set (lowB En.id l id) ⟨id, e⟩ = putEv l id e := by
  obtain ⟨x, h1, h2, h3⟩ := low_at En.id id l hs ha
  have ht := low_take En.id id l hs
  have hlt := (List.getElem?_eq_some_iff.1 h2).1
  unfold putEv
  rw [← ht, ← h3, List.set_eq_take_append_cons_drop, if_pos hlt]
theorem ins_put {l : List En} {id : Int} (e : Ev) (hs : l.Pairwise fun a b => a.id < b.id) (ha : isAtB En.id l (lowB En.id l id) id = false) : l.take (lowB En.id l id) ++ ⟨id, e⟩ :: l.drop (lowB En.id l id) = putEv l id e := by
  unfold putEv
  rw [← low_take En.id id l hs, ← low_no En.id id l hs ha]
theorem del_put {l : List En} {id : Int} (hs : l.Pairwise fun a b => a.id < b.id) (ha : isAtB En.id l (lowB En.id l id) id = true) : l.take (lowB En.id l id) ++ l.drop (lowB En.id l id + 1) = delEv l id := by
  obtain ⟨x, h1, h2, h3⟩ := low_at En.id id l hs ha
  unfold delEv
  rw [← low_take En.id id l hs, ← h3]
theorem set_rep (u' : Us) : ∀ (l : List Us) (k : Nat) (u : Us), (l.Pairwise fun a b => a.id < b.id) → l[k]? = some u → u'.id = u.id → l.set k u' = l.map (rep u')
  | [], k, u, _, h, _ => by simp at h
  | x :: l, 0, u, hs, h, hid => by
    obtain ⟨h1, h2⟩ := List.pairwise_cons.1 hs
    simp at h; subst h
    rw [List.set_cons_zero, List.map_cons, map_rep_none u' l fun y hy => by have := h1 y hy; omega]
    simp [rep, hid]
  | x :: l, k + 1, u, hs, h, hid => by
    obtain ⟨h1, h2⟩ := List.pairwise_cons.1 hs
    have hm : l[k]? = some u := by simpa using h
    have := h1 u (List.mem_of_getElem? hm)
    have hx : ¬ x.id = u'.id := by omega
    rw [List.set_cons_succ, List.map_cons, set_rep u' l k u h2 hm hid]
    simp [rep, hx]
theorem with_1 (t : Int) (us : List Us) (ps : List Po) (ds : List Dn) (k : Nat) (u : Us) (hk : k < us.length) (hl : us.length ≤ 400000000000) : PureD Try.prog 36 [St t us ps ds, .int .i64 k, .bool true, .agg u.row] (St t (us.set k u) ps ds) := by
  refine pureV Try.func36 low36 (by simp [c36]) ?_
  have hune : rowsU us ≠ [] := by
    cases us with
    | nil => simp at hk
    | cons => simp [rowsU]
  have cu := clU_ne false (rowsU us) hune (sz_rows us) (by rw [rowsU_len]; omega)
  rw [rowsU_len] at cu
  obtain ⟨x, hx⟩ : ∃ x, us[k]? = some x := ⟨_, List.getElem?_eq_getElem hk⟩
  have hr := rowsU_get hx
  have hs : (rowsU us).set k u.row = rowsU (us.set k u) := by simp [rowsU, List.map_set]
  simp only [c36, St, Us.row] at hs ⊢
  have hie : (rowsU us).isEmpty = false := by simpa using hune
  repeat' ((first | refine Run_seq ?_ | refine Run_skip ?_ | refine Run_block ?_ | refine Run_blk ?_ | refine Run_exit rfl ?_ | refine Run_ret ?_ | refine Run_nil ?_ | refine Run_condK ?_ | refine Run_ops mixed ?_ | refine Run_opsX mixed ?_ | with_reducible refine PostV_open ?_ | with_reducible refine PostG_open ?_ | with_reducible refine PostQ_open ?_ | with_reducible refine ro_callA (f := .c (.fn 27 [])) ?_ | with_reducible refine ro_callA' (f := .c (.fn 27 [])) ?_ | with_reducible refine ro_callV ?_ | with_reducible refine ro_callVX ?_ | with_reducible refine CallE_use (cu) (by simp) ?_ | simp (disch := omega) only [w64, wu64, wu32, wu16, wu8, Int.tdiv_eq_ediv_of_nonneg, Int.tmod_eq_emod_of_nonneg] | (with_reducible refine SliceK_own rfl rfl ?_ ?_; (focus ((try simp only [row1_len, row2_len, row3_len, rowsE_len, rowsU_len, rowsP_len, rowsD_len, reduceIte, Int.natCast_nonneg, Int.le_refl, List.length_append, List.length_map, Nat.sub_zero]) <;> ((repeat' (with_reducible refine And.intro ?_ ?_)) <;> first | exact trivial | assumption | (simp; done) | (simp only [List.length_map] at *; omega) | omega | (simp [D.cells, D.ok, D.one, D.pt, D.pt1]; done))))) | (refine GuardK_split (fun hc => ?_) (fun hc => ?_) <;> (try simp only [hc]) <;> (try simp at hc)) | (refine CondK_split (fun hc => ?_) (fun hc => ?_) <;> (try simp only [hc]) <;> (try simp at hc)) | (with_reducible refine And.intro ?_ ?_; (focus ((repeat' (with_reducible refine And.intro ?_ ?_)) <;> first | exact trivial | assumption | (simp; done) | (simp only [List.length_map] at *; omega) | omega | (simp [D.cells, D.ok, D.one, D.pt, D.pt1]; done)))) | (with_reducible intro x hx) | omega) <;> (try simp only [rowsU_len, hr, hs, hie, Us.row, LoadR_some, ro_nil, ro_mov, ro_faddr, ro_load, LoadK_ptr, LoadO_some, LoadR_some, ro_box, ro_alloc, ro_store, StoreK_ptr, StoreO_some, StoreR_some, ro_iaddr, IaddrK_own, winD_all, viewS_own', viewO_some, acc_real, acc_nl, acc_pure, acc_fz, acc_sz, acc_rows, acc_spare, CondK_t, contP_some, lk_hit, lk_miss, Nat.reduceBEq, put_some, put_none, ev_t, ev_c, argEnv, reduceIte, Nat.reduceAdd, Nat.reduceLeDiff, reduceCtorEq, faddrD, loadD, splice, D.cells, D.ok, D.one, D.pt1, D.pt0, D.norm1, true_and, and_self, Bool.and_true, Bool.and_false, Bool.not_false, Bool.true_or, List.getElem?_cons_zero, List.getElem?_cons_succ, List.length_cons, List.length_nil, List.length_set, List.take_succ_cons, List.take_zero, List.take_nil, List.drop_succ_cons, List.drop_zero, List.drop_nil, List.cons_append, List.nil_append, List.append_nil, List.map_cons, List.map_nil, List.all_cons, List.all_nil, List.set_cons_zero, List.set_cons_succ, ne_eq, not_false_eq_true, Option.map_some, Nat.zero_add, Nat.add_zero, Nat.sub_self, Int.toNat_natCast, Nat.lt_irrefl, Nat.le_refl, Int.natCast_nonneg, Nat.lt_add_one, view, view2, view1, view0, mapO, capsD_fn, pull, pull2, pull1, pull0, pullσ, Go.Vi.freeze, capt, reachL, merge, mset, renOb, fr, D.ren, resK_nil, resK_cell, ResC_ptr, ResO_some, ResR_some, ResL_some, ofRes]))
end Go.Proofs.Ytapennlmboabeaa

namespace Go.Proofs.Ytapennlmboabeaa
open Go Go.Vi


def findE (l : List En) (id : Int) : Option En := l.find? fun x => x.id == id
def putU (u : Us) (id : Int) (e : Ev) : Us := { u with ver := IntKind.u64.wrap (u.ver + 1), evs := putEv u.evs id e }
def delU (u : Us) (id : Int) : Us := { u with ver := IntKind.u64.wrap (u.ver + 1), evs := delEv u.evs id }
theorem szE_rows (l : List En) : ∀ r ∈ rowsE l, r.length = 17 := by simp [rowsE, En.row]
theorem ptE_rows (l : List En) : ((rowsE l).all fun r => r.all D.pt1) = true := by simp [rowsE, En.row, D.pt1]
theorem u_at {us : List Us} {user : Int} {u : Us} (hs : us.Pairwise fun a b => a.id < b.id) (h : findU us user = some u) : us[lowB Us.id us user]? = some u ∧ isAtB Us.id us (lowB Us.id us user) user = true ∧ lowB Us.id us user < us.length ∧ u.id = user := by
  have hf := findB_low Us.id us user hs
  have hff : findU us user = us.find? fun u => u.id == user := rfl
  rw [← hff, h] at hf
  by_cases hat : isAtB Us.id us (lowB Us.id us user) user = true
  · rw [if_pos hat] at hf
    exact ⟨hf.symm, hat, (List.getElem?_eq_some_iff.1 hf.symm).1, (findU_some h).2⟩
  · rw [if_neg hat] at hf
    cases hf
theorem u_no {us : List Us} {user : Int} (hs : us.Pairwise fun a b => a.id < b.id) (h : findU us user = none) : isAtB Us.id us (lowB Us.id us user) user = false := by
  have hf := findB_low Us.id us user hs
  have hff : findU us user = us.find? fun u => u.id == user := rfl
  rw [← hff, h] at hf
  by_cases hat : isAtB Us.id us (lowB Us.id us user) user = true
  · rw [if_pos hat] at hf
    obtain ⟨u, hu, _⟩ := isAt_some hat
    rw [hu] at hf
    cases hf
  · simpa using hat
theorem findE_at {l : List En} {id : Int} (hs : l.Pairwise fun a b => a.id < b.id) : (findE l id).isSome = isAtB En.id l (lowB En.id l id) id := by
  have hf := findB_low En.id l id hs
  have hff : findE l id = l.find? fun u => u.id == id := rfl
  rw [← hff] at hf
  rw [hf]
  by_cases hat : isAtB En.id l (lowB En.id l id) id = true
  · rw [if_pos hat, hat]
    unfold isAtB at hat
    split at hat
    · rename_i hx; rw [hx]; rfl
    · cases hat
  · rw [if_neg hat]; simpa using hat
section
variable (t : Int) (us : List Us) (ps : List Po) (ds : List Dn) (user id : Int) (e : Ev) (u : Us)
theorem pe_none (hl : us.length ≤ 400000000000) (hs : us.Pairwise fun a b => a.id < b.id) (hu : findU us user = none) :
    PureD Try.prog 16 [St t us ps ds, .int .u32 user, .int .u32 id, .agg e.cells] (.tup [St t us ps ds, .int .u64 0, .int .i64 4]) := by
  have pl := placeU_p t us ps ds user (by omega) hs
  rw [u_no hs hu] at pl
  refine pureV Try.func16 low16 (by simp [c16]) ?_
  simp only [c16, St, Ev.cells] at pl ⊢
  repeat' ((first | refine Run_seq ?_ | refine Run_skip ?_ | refine Run_block ?_ | refine Run_blk ?_ | refine Run_exit rfl ?_ | refine Run_ret ?_ | refine Run_nil ?_ | refine Run_condK ?_ | refine Run_ops mixed ?_ | refine Run_opsX mixed ?_ | with_reducible refine PostV_open ?_ | with_reducible refine PostG_open ?_ | with_reducible refine PostQ_open ?_ | with_reducible refine ro_callV ?_ | with_reducible refine ro_callVX ?_ | refine CallV_pure (pl) ?_ ?_ | simp (disch := omega) only [w64, wu64, wu32, wu16, wu8, Int.tdiv_eq_ediv_of_nonneg, Int.tmod_eq_emod_of_nonneg] | (with_reducible refine SliceK_own rfl rfl ?_ ?_; (focus ((try simp only [row1_len, row2_len, row3_len, rowsE_len, rowsU_len, rowsP_len, rowsD_len, reduceIte, Int.natCast_nonneg, Int.le_refl, List.length_append, List.length_map, Nat.sub_zero]) <;> ((repeat' (with_reducible refine And.intro ?_ ?_)) <;> first | exact trivial | assumption | (simp; done) | (simp only [List.length_map] at *; omega) | omega | (simp [D.cells, D.ok, D.one, D.pt, D.pt1]; done))))) | (refine GuardK_split (fun hc => ?_) (fun hc => ?_) <;> (try simp only [hc]) <;> (try simp at hc)) | (refine CondK_split (fun hc => ?_) (fun hc => ?_) <;> (try simp only [hc]) <;> (try simp at hc)) | (with_reducible refine And.intro ?_ ?_; (focus ((repeat' (with_reducible refine And.intro ?_ ?_)) <;> first | exact trivial | assumption | (simp; done) | (simp only [List.length_map] at *; omega) | omega | (simp [D.cells, D.ok, D.one, D.pt, D.pt1]; done)))) | (with_reducible intro x hx) | omega) <;> (try simp only [ro_nil, ro_mov, ro_un, ro_ext, ro_load, LoadK_ptr, LoadO_some, LoadR_some, ro_box, ro_alloc, ro_store, StoreK_ptr, StoreO_some, StoreR_some, viewS_own', CondK_t, contP_some, lk_hit, lk_miss, Nat.reduceBEq, put_some, put_none, ev_t, ev_c, argEnv, reduceIte, Nat.reduceAdd, reduceCtorEq, okD, unD, extD, loadD, splice, D.cells, D.ok, D.one, D.pt, D.pt1, D.pt0, D.norm1, true_and, and_self, Bool.and_true, Bool.not_false, Bool.or_true, List.getElem?_cons_zero, List.getElem?_cons_succ, List.length_cons, List.length_nil, List.take_succ_cons, List.take_zero, List.take_nil, List.drop_succ_cons, List.drop_zero, List.drop_nil, List.cons_append, List.nil_append, List.append_nil, List.map_cons, List.map_nil, List.all_cons, List.all_nil, List.set_cons_zero, List.set_cons_succ, ne_eq, not_false_eq_true, Option.map_some, Nat.zero_add, Nat.le_refl, Nat.lt_add_one, view, view2, view1, view0, mapO, capsD_fn, D.sc, D.sc1, D.sc2, resK_nil, resK_tmp, resK_cell, ResC_ptr, ResO_some, ResR_some, ResL_some, ofRes]))
theorem pe_arg (hl : us.length ≤ 400000000000) (hs : us.Pairwise fun a b => a.id < b.id) (hu : findU us user = some u) (hle : u.evs.length ≤ 140737488351232) (hse : u.evs.Pairwise fun a b => a.id < b.id)
    (he : e.fits) (hc : e.ch.length ≤ 14073748835123) (h : id = 0 ∨ mayE e = false) :
    PureD Try.prog 16 [St t us ps ds, .int .u32 user, .int .u32 id, .agg e.cells] (.tup [St t us ps ds, .int .u64 0, .int .i64 2]) := by
  obtain ⟨h1, h2, h3, h4⟩ := u_at hs hu
  have pl := placeU_p t us ps ds user (by omega) hs
  rw [h2] at pl
  have en := entry_p u id hle hse
  have hr := rowsU_get h1
  have me := mayE_p e he hc
  generalize lowB Us.id us user = k at pl hr h3
  generalize isAtB En.id u.evs (lowB En.id u.evs id) id = x at en
  refine pureV Try.func16 low16 (by simp [c16]) ?_
  simp only [c16, St, Ev.cells, Us.row] at pl en me ⊢
  by_cases hi : id = 0
  · have c1 : (id == 0) = true := by simpa using hi
    repeat' ((first | refine Run_seq ?_ | refine Run_skip ?_ | refine Run_block ?_ | refine Run_blk ?_ | refine Run_exit rfl ?_ | refine Run_ret ?_ | refine Run_nil ?_ | refine Run_condK ?_ | refine Run_ops mixed ?_ | refine Run_opsX mixed ?_ | with_reducible refine PostV_open ?_ | with_reducible refine PostG_open ?_ | with_reducible refine PostQ_open ?_ | with_reducible refine ro_callV ?_ | with_reducible refine ro_callVX ?_ | refine CallV_pure (pl) ?_ ?_ | refine CallV_pure (en) ?_ ?_ | simp (disch := omega) only [w64, wu64, wu32, wu16, wu8, Int.tdiv_eq_ediv_of_nonneg, Int.tmod_eq_emod_of_nonneg] | (with_reducible refine SliceK_own rfl rfl ?_ ?_; (focus ((try simp only [row1_len, row2_len, row3_len, rowsE_len, rowsU_len, rowsP_len, rowsD_len, reduceIte, Int.natCast_nonneg, Int.le_refl, List.length_append, List.length_map, Nat.sub_zero]) <;> ((repeat' (with_reducible refine And.intro ?_ ?_)) <;> first | exact trivial | assumption | (simp; done) | (simp only [List.length_map] at *; omega) | omega | (simp [D.cells, D.ok, D.one, D.pt, D.pt1]; done))))) | (refine GuardK_split (fun hc => ?_) (fun hc => ?_) <;> (try simp only [hc]) <;> (try simp at hc)) | (refine CondK_split (fun hc => ?_) (fun hc => ?_) <;> (try simp only [hc]) <;> (try simp at hc)) | (with_reducible refine And.intro ?_ ?_; (focus ((repeat' (with_reducible refine And.intro ?_ ?_)) <;> first | exact trivial | assumption | (simp; done) | (simp only [List.length_map] at *; omega) | omega | (simp [D.cells, D.ok, D.one, D.pt, D.pt1]; done)))) | (with_reducible intro x hx) | omega) <;> (try simp only [rowsU_len, c1, hr, Us.row, LoadR_some, IaddrR_some, ro_nil, ro_mov, ro_pick, ro_bin, ro_un, ro_faddr, ro_ext, ro_load, LoadK_elt, LoadK_ptr, LoadO_some, LoadR_some, ro_box, ro_alloc, ro_store, StoreK_ptr, StoreO_some, StoreR_some, ro_iaddr, IaddrK_list, IaddrR_some, viewS_own', ro_guard, GuardK_tf, CondK_t, CondK_f, contP_some, lk_hit, lk_miss, Nat.reduceBEq, put_some, put_none, ev_t, ev_c, argEnv, reduceIte, Nat.reduceAdd, reduceCtorEq, binD, binInt, okD, unD, pickD, faddrD, extD, loadD, splice, D.cells, D.ok, D.one, D.pt, D.pt1, D.pt0, D.norm1, cond_true, true_and, and_self, Bool.and_true, Bool.not_true, Bool.or_true, List.getElem?_cons_zero, List.getElem?_cons_succ, List.length_cons, List.length_nil, List.take_succ_cons, List.take_zero, List.take_nil, List.drop_succ_cons, List.drop_zero, List.drop_nil, List.cons_append, List.nil_append, List.append_nil, List.map_cons, List.map_nil, List.all_cons, List.all_nil, List.set_cons_zero, List.set_cons_succ, ne_eq, not_false_eq_true, Option.map_some, Nat.zero_add, Int.toNat_natCast, Nat.le_refl, Int.natCast_nonneg, Nat.lt_add_one, view, view2, view1, view0, mapO, capsD_fn, D.sc, D.sc1, D.sc2, resK_nil, resK_tmp, resK_cell, ResC_ptr, ResO_some, ResR_some, ResL_some, ofRes]))
  · have c1 : (id == 0) = false := by simpa using hi
    rw [show mayE e = false from h.resolve_left hi] at me
    repeat' ((first | refine Run_seq ?_ | refine Run_skip ?_ | refine Run_block ?_ | refine Run_blk ?_ | refine Run_exit rfl ?_ | refine Run_ret ?_ | refine Run_nil ?_ | refine Run_condK ?_ | refine Run_ops mixed ?_ | refine Run_opsX mixed ?_ | with_reducible refine PostV_open ?_ | with_reducible refine PostG_open ?_ | with_reducible refine PostQ_open ?_ | with_reducible refine ro_callV ?_ | with_reducible refine ro_callVX ?_ | refine CallV_pure (pl) ?_ ?_ | refine CallV_pure (en) ?_ ?_ | refine CallV_pure (me) ?_ ?_ | simp (disch := omega) only [w64, wu64, wu32, wu16, wu8, Int.tdiv_eq_ediv_of_nonneg, Int.tmod_eq_emod_of_nonneg] | (with_reducible refine SliceK_own rfl rfl ?_ ?_; (focus ((try simp only [row1_len, row2_len, row3_len, rowsE_len, rowsU_len, rowsP_len, rowsD_len, reduceIte, Int.natCast_nonneg, Int.le_refl, List.length_append, List.length_map, Nat.sub_zero]) <;> ((repeat' (with_reducible refine And.intro ?_ ?_)) <;> first | exact trivial | assumption | (simp; done) | (simp only [List.length_map] at *; omega) | omega | (simp [D.cells, D.ok, D.one, D.pt, D.pt1]; done))))) | (refine GuardK_split (fun hc => ?_) (fun hc => ?_) <;> (try simp only [hc]) <;> (try simp at hc)) | (refine CondK_split (fun hc => ?_) (fun hc => ?_) <;> (try simp only [hc]) <;> (try simp at hc)) | (with_reducible refine And.intro ?_ ?_; (focus ((repeat' (with_reducible refine And.intro ?_ ?_)) <;> first | exact trivial | assumption | (simp; done) | (simp only [List.length_map] at *; omega) | omega | (simp [D.cells, D.ok, D.one, D.pt, D.pt1]; done)))) | (with_reducible intro x hx) | omega) <;> (try simp only [rowsU_len, c1, hr, Us.row, LoadR_some, IaddrR_some, ro_nil, ro_mov, ro_pick, ro_bin, ro_un, ro_faddr, ro_ext, ro_load, LoadK_elt, LoadK_ptr, LoadO_some, LoadR_some, ro_box, ro_alloc, ro_store, StoreK_ptr, StoreO_some, StoreR_some, ro_iaddr, IaddrK_list, IaddrR_some, viewS_own', ro_guard, GuardK_ff, CondK_t, CondK_f, contP_some, lk_hit, lk_miss, Nat.reduceBEq, put_some, put_none, ev_t, ev_c, argEnv, reduceIte, Nat.reduceAdd, reduceCtorEq, binD, binInt, okD, unD, pickD, faddrD, extD, loadD, splice, D.cells, D.ok, D.one, D.pt, D.pt1, D.pt0, D.norm1, cond_false, true_and, and_self, Bool.and_true, Bool.not_true, Bool.not_false, Bool.or_true, List.getElem?_cons_zero, List.getElem?_cons_succ, List.length_cons, List.length_nil, List.take_succ_cons, List.take_zero, List.take_nil, List.drop_succ_cons, List.drop_zero, List.drop_nil, List.cons_append, List.nil_append, List.append_nil, List.map_cons, List.map_nil, List.all_cons, List.all_nil, List.set_cons_zero, List.set_cons_succ, ne_eq, not_false_eq_true, Option.map_some, Nat.zero_add, Int.toNat_natCast, Nat.le_refl, Int.natCast_nonneg, Nat.lt_add_one, view, view2, view1, view0, mapO, capsD_fn, D.sc, D.sc1, D.sc2, resK_nil, resK_tmp, resK_cell, ResC_ptr, ResO_some, ResR_some, ResL_some, ofRes]))
theorem pe_quota (hl : us.length ≤ 400000000000) (hs : us.Pairwise fun a b => a.id < b.id) (hu : findU us user = some u) (hle : u.evs.length ≤ 140737488351232) (hse : u.evs.Pairwise fun a b => a.id < b.id)
    (he : e.fits) (hc : e.ch.length ≤ 14073748835123) (hi : id ≠ 0) (hm : mayE e = true) (hn : findE u.evs id = none) (hq : 64 ≤ u.evs.length) :
    PureD Try.prog 16 [St t us ps ds, .int .u32 user, .int .u32 id, .agg e.cells] (.tup [St t us ps ds, .int .u64 0, .int .i64 6]) := by
  obtain ⟨h1, h2, h3, h4⟩ := u_at hs hu
  have pl := placeU_p t us ps ds user (by omega) hs
  rw [h2] at pl
  have en := entry_p u id hle hse
  have hfe := findE_at (id := id) hse
  rw [hn] at hfe
  rw [← hfe] at en
  have hr := rowsU_get h1
  have me := mayE_p e he hc
  rw [hm] at me
  generalize lowB Us.id us user = k at pl hr h3
  have c1 : (id == 0) = false := by simpa using hi
  have c2 : ((u.evs.length : Int) ≥ 64) = True := by simp; omega
  refine pureV Try.func16 low16 (by simp [c16]) ?_
  simp only [c16, St, Ev.cells, Us.row, Option.isSome_none] at pl en me ⊢
  repeat' ((first | refine Run_seq ?_ | refine Run_skip ?_ | refine Run_block ?_ | refine Run_blk ?_ | refine Run_exit rfl ?_ | refine Run_ret ?_ | refine Run_nil ?_ | refine Run_condK ?_ | refine Run_ops mixed ?_ | refine Run_opsX mixed ?_ | with_reducible refine PostV_open ?_ | with_reducible refine PostG_open ?_ | with_reducible refine PostQ_open ?_ | with_reducible refine ro_callV ?_ | with_reducible refine ro_callVX ?_ | refine CallV_pure (pl) ?_ ?_ | refine CallV_pure (en) ?_ ?_ | refine CallV_pure (me) ?_ ?_ | simp (disch := omega) only [w64, wu64, wu32, wu16, wu8, Int.tdiv_eq_ediv_of_nonneg, Int.tmod_eq_emod_of_nonneg] | (with_reducible refine SliceK_own rfl rfl ?_ ?_; (focus ((try simp only [row1_len, row2_len, row3_len, rowsE_len, rowsU_len, rowsP_len, rowsD_len, reduceIte, Int.natCast_nonneg, Int.le_refl, List.length_append, List.length_map, Nat.sub_zero]) <;> ((repeat' (with_reducible refine And.intro ?_ ?_)) <;> first | exact trivial | assumption | (simp; done) | (simp only [List.length_map] at *; omega) | omega | (simp [D.cells, D.ok, D.one, D.pt, D.pt1]; done))))) | (refine GuardK_split (fun hc => ?_) (fun hc => ?_) <;> (try simp only [hc]) <;> (try simp at hc)) | (refine CondK_split (fun hc => ?_) (fun hc => ?_) <;> (try simp only [hc]) <;> (try simp at hc)) | (with_reducible refine And.intro ?_ ?_; (focus ((repeat' (with_reducible refine And.intro ?_ ?_)) <;> first | exact trivial | assumption | (simp; done) | (simp only [List.length_map] at *; omega) | omega | (simp [D.cells, D.ok, D.one, D.pt, D.pt1]; done)))) | (with_reducible intro x hx) | omega) <;> (try simp only [rowsE_len, rowsU_len, c1, c2, hr, Us.row, LoadR_some, IaddrR_some, ro_nil, ro_mov, ro_pick, ro_bin, ro_un, ro_faddr, ro_ext, ro_len, ro_load, LoadK_elt, LoadK_ptr, LoadO_some, LoadR_some, ro_box, ro_alloc, ro_store, StoreK_ptr, StoreO_some, StoreR_some, ro_iaddr, IaddrK_list, IaddrR_some, viewS_own', ro_guard, GuardK_tt, GuardK_ff, CondK_t, CondK_f, contP_some, lk_hit, lk_miss, Nat.reduceBEq, put_some, put_none, ev_t, ev_c, argEnv, reduceIte, Nat.reduceAdd, reduceCtorEq, binD, binInt, okD, unD, pickD, faddrD, extD, lenD, loadD, splice, D.cells, D.ok, D.one, D.pt, D.pt1, D.pt0, D.norm1, cond_true, cond_false, true_and, and_self, Bool.and_true, Bool.not_true, Bool.not_false, Bool.or_true, List.getElem?_cons_zero, List.getElem?_cons_succ, List.length_cons, List.length_nil, List.take_succ_cons, List.take_zero, List.take_nil, List.drop_succ_cons, List.drop_zero, List.drop_nil, List.cons_append, List.nil_append, List.append_nil, List.map_cons, List.map_nil, List.all_cons, List.all_nil, List.set_cons_zero, List.set_cons_succ, ne_eq, not_false_eq_true, Option.map_some, Nat.zero_add, Int.toNat_natCast, decide_true, Nat.le_refl, Int.natCast_nonneg, Nat.lt_add_one, view, view2, view1, view0, mapO, capsD_fn, D.sc, D.sc1, D.sc2, resK_nil, resK_tmp, resK_cell, ResC_ptr, ResO_some, ResR_some, ResL_some, ofRes]))
set_option maxHeartbeats 4000000 in
theorem pe_ok (hl : us.length ≤ 400000000000) (hs : us.Pairwise fun a b => a.id < b.id) (hu : findU us user = some u) (hle : u.evs.length ≤ 400000000000) (hse : u.evs.Pairwise fun a b => a.id < b.id)
    (he : e.fits) (hc : e.ch.length ≤ 14073748835123) (hi : id ≠ 0) (hm : mayE e = true) (hq : (findE u.evs id).isSome = true ∨ u.evs.length < 64) :
    PureD Try.prog 16 [St t us ps ds, .int .u32 user, .int .u32 id, .agg e.cells] (.tup [St t (us.map (rep (putU u id e))) ps ds, .int .u64 (IntKind.u64.wrap (u.ver + 1)), .int .i64 0]) := by
  obtain ⟨h1, h2, h3, h4⟩ := u_at hs hu
  have pl := placeU_p t us ps ds user (by omega) hs
  rw [h2] at pl
  have en := entry_p u id (by omega) hse
  have hfe := findE_at (id := id) hse
  have hr := rowsU_get h1
  have me := mayE_p e he hc
  rw [hm] at me
  have w1 := with_1 t us ps ds (lowB Us.id us user) (putU u id e) h3 hl
  rw [set_rep (putU u id e) us _ u hs h1 rfl] at w1
  generalize us.map (rep (putU u id e)) = us' at w1 ⊢
  generalize lowB Us.id us user = k at pl hr h3 w1
  have c1 : (id == 0) = false := by simpa using hi
  refine pureV Try.func16 low16 (by simp [c16]) ?_
  simp only [c16, St, Ev.cells, Us.row, putU] at pl en me w1 ⊢
  cases hat : isAtB En.id u.evs (lowB En.id u.evs id) id with
  | true =>
    have sp := set_put e hse hat
    rw [hat] at en
    obtain ⟨x, hx, hxi⟩ : ∃ x, u.evs[lowB En.id u.evs id]? = some x ∧ x.id = id := by
      obtain ⟨x, q1, q2, _⟩ := low_at En.id id u.evs hse hat
      exact ⟨x, q2, q1⟩
    have hlt := (List.getElem?_eq_some_iff.1 hx).1
    rw [← sp] at w1
    generalize lowB En.id u.evs id = j at en w1 hx hlt
    have hrx := rowsE_get hx
    have hne : rowsE u.evs ≠ [] := by
      cases hh : u.evs with
      | nil => rw [hh] at hlt; simp at hlt
      | cons => simp [rowsE]
    have ce := clE_ne false (rowsE u.evs) hne (szE_rows u.evs) (by rw [rowsE_len]; omega)
    rw [rowsE_len] at ce
    have hie : (rowsE u.evs).isEmpty = false := by simpa using hne
    have hse2 : (rowsE u.evs).set j (En.row ⟨id, e⟩) = rowsE (u.evs.set j ⟨id, e⟩) := by simp [rowsE, List.map_set]
    rw [← hxi] at hse2
    simp only [En.row] at hse2
    rw [← hxi] at w1
    have w2 := w1.toG rfl rfl
    repeat' ((first | refine Run_seq ?_ | refine Run_skip ?_ | refine Run_block ?_ | refine Run_blk ?_ | refine Run_exit rfl ?_ | refine Run_ret ?_ | refine Run_nil ?_ | refine Run_condK ?_ | refine Run_ops mixed ?_ | refine Run_opsX mixed ?_ | with_reducible refine PostV_open ?_ | with_reducible refine PostG_open ?_ | with_reducible refine PostQ_open ?_ | with_reducible refine ro_callA (f := .c (.fn 34 [])) ?_ | with_reducible refine ro_callA' (f := .c (.fn 34 [])) ?_ | with_reducible refine ro_callE (f := .c (.fn 36 [])) (z := [4]) (q := []) ?_ | with_reducible refine ro_callE' (f := .c (.fn 36 [])) (z := [4]) (q := []) ?_ | with_reducible refine ro_callV ?_ | with_reducible refine ro_callVX ?_ | refine CallV_pure (pl) ?_ ?_ | refine CallV_pure (en) ?_ ?_ | refine CallV_pure (me) ?_ ?_ | with_reducible refine CallE_use (ce) (by simp) ?_ | with_reducible refine CallE_use (w2) (by simp) ?_ | simp (disch := omega) only [w64, wu64, wu32, wu16, wu8, Int.tdiv_eq_ediv_of_nonneg, Int.tmod_eq_emod_of_nonneg] | (with_reducible refine SliceK_own rfl rfl ?_ ?_; (focus ((try simp only [row1_len, row2_len, row3_len, rowsE_len, rowsU_len, rowsP_len, rowsD_len, reduceIte, Int.natCast_nonneg, Int.le_refl, List.length_append, List.length_map, Nat.sub_zero]) <;> ((repeat' (with_reducible refine And.intro ?_ ?_)) <;> first | exact trivial | assumption | (simp; done) | (simp only [List.length_map] at *; omega) | omega | (simp [D.cells, D.ok, D.one, D.pt, D.pt1]; done))))) | (refine GuardK_split (fun hc => ?_) (fun hc => ?_) <;> (try simp only [hc]) <;> (try simp at hc)) | (refine CondK_split (fun hc => ?_) (fun hc => ?_) <;> (try simp only [hc]) <;> (try simp at hc)) | (with_reducible refine And.intro ?_ ?_; (focus ((repeat' (with_reducible refine And.intro ?_ ?_)) <;> first | exact trivial | assumption | (simp; done) | (simp only [List.length_map] at *; omega) | omega | (simp [D.cells, D.ok, D.one, D.pt, D.pt1]; done)))) | (with_reducible intro x hx) | omega) <;> (try simp only [rowsE_len, rowsU_len, c1, hr, hrx, hie, hse2, Us.row, En.row, LoadR_some, IaddrR_some, ro_nil, ro_mov, ro_pick, ro_bin, ro_un, ro_faddr, ro_ext, ro_load, LoadK_elt, LoadK_ptr, LoadO_some, LoadR_some, ro_box, ro_alloc, ro_store, StoreK_ptr, StoreO_some, StoreR_some, ro_iaddr, IaddrK_list, IaddrK_own, IaddrR_some, winD_all, viewS_own', viewO_some, rx_nil, rx_cons, keepK_nil, keepK_cons, keepE_nil, keepE_cons, keepN_nil, keepN_cons, D.names, acc_real, acc_nl, acc_pure, acc_fz, acc_sz, acc_rows, acc_spare, ro_guard, GuardK_ff, GuardK_ft, CondK_t, CondK_f, contP_some, lk_hit, lk_miss, Nat.reduceBEq, put_some, put_none, ev_t, ev_c, argEnv, reduceIte, Nat.reduceAdd, Nat.reduceLeDiff, reduceCtorEq, binD, binInt, okD, unD, pickD, faddrD, extD, loadD, splice, D.cells, D.ok, D.one, D.pt, D.pt1, D.pt0, D.norm1, cond_false, true_and, and_true, and_self, Bool.and_true, Bool.and_false, Bool.not_true, Bool.not_false, Bool.true_or, Bool.or_true, List.getElem?_cons_zero, List.getElem?_cons_succ, List.length_cons, List.length_nil, List.length_set, List.take_succ_cons, List.take_zero, List.take_nil, List.drop_succ_cons, List.drop_zero, List.drop_nil, List.cons_append, List.nil_append, List.append_nil, List.map_cons, List.map_nil, List.all_cons, List.all_nil, List.set_cons_zero, List.set_cons_succ, ne_eq, not_false_eq_true, Option.map_some, Nat.zero_add, Nat.add_zero, Nat.sub_self, Int.toNat_natCast, Nat.lt_irrefl, Nat.le_refl, Int.natCast_nonneg, Nat.lt_add_one, view, view2, view1, view0, mapO, capsD_fn, D.sc, D.sc1, D.sc2, pull, pull2, pull1, pull0, idx_nil, gate, pullσ, Go.Vi.freeze, Go.Vi.freeze1, capt, reachL, merge, mset, renOb, fr, D.ren, D.renL, resK_nil, resK_tmp, resK_cell, ResC_ptr, ResO_some, ResR_some, ResL_some, ofRes]))
  | false =>
    have sp := ins_put e hse hat
    rw [hat] at en hfe
    have hq' : u.evs.length < 64 := by
      rcases hq with h | h
      · rw [hfe] at h; cases h
      · exact h
    have c2 : ((u.evs.length : Int) ≥ 64) = False := by simp; omega
    rw [← sp] at w1
    have hjl := lowB_le En.id u.evs id
    generalize lowB En.id u.evs id = j at en w1 hjl
    cases hev : u.evs with
    | nil =>
      have hj : j = 0 := by rw [hev] at hjl; simpa using hjl
      subst hj
      have hev' : rowsE u.evs = [] := by rw [hev]; rfl
      have ie := inE_any (En.row ⟨id, e⟩) rfl true (some false)
      rw [hev] at w1
      rw [hev'] at en
      simp only [rowsE, List.map_nil, List.take_nil, List.drop_nil, List.nil_append, List.map_cons, En.row] at w1 ie
      have w2 := w1.toG rfl rfl
      have c3 : (((0 : Nat) : Int) ≥ 64) = False := by simp
      have c4 : ((0 : Int) ≥ 64) = False := by simp
      repeat' ((first | refine Run_seq ?_ | refine Run_skip ?_ | refine Run_block ?_ | refine Run_blk ?_ | refine Run_exit rfl ?_ | refine Run_ret ?_ | refine Run_nil ?_ | refine Run_condK ?_ | refine Run_ops mixed ?_ | refine Run_opsX mixed ?_ | with_reducible refine PostV_open ?_ | with_reducible refine PostG_open ?_ | with_reducible refine PostQ_open ?_ | with_reducible refine ro_callA (f := .c (.fn 34 [])) ?_ | with_reducible refine ro_callA' (f := .c (.fn 34 [])) ?_ | with_reducible refine ro_callA (f := .c (.fn 35 [])) ?_ | with_reducible refine ro_callA' (f := .c (.fn 35 [])) ?_ | with_reducible refine ro_callE (f := .c (.fn 36 [])) (z := [4]) (q := []) ?_ | with_reducible refine ro_callE' (f := .c (.fn 36 [])) (z := [4]) (q := []) ?_ | with_reducible refine ro_callV ?_ | with_reducible refine ro_callVX ?_ | refine CallV_pure (pl) ?_ ?_ | refine CallV_pure (en) ?_ ?_ | refine CallV_pure (me) ?_ ?_ | with_reducible refine CallE_use (clE_any _) (by simp) ?_ | with_reducible refine CallE_use (ie) (by simp) ?_ | with_reducible refine CallE_use (w2) (by simp) ?_ | simp (disch := omega) only [w64, wu64, wu32, wu16, wu8, Int.tdiv_eq_ediv_of_nonneg, Int.tmod_eq_emod_of_nonneg] | (with_reducible refine SliceK_own rfl rfl ?_ ?_; (focus ((try simp only [row1_len, row2_len, row3_len, rowsE_len, rowsU_len, rowsP_len, rowsD_len, reduceIte, Int.natCast_nonneg, Int.le_refl, List.length_append, List.length_map, Nat.sub_zero]) <;> ((repeat' (with_reducible refine And.intro ?_ ?_)) <;> first | exact trivial | assumption | (simp; done) | (simp only [List.length_map] at *; omega) | omega | (simp [D.cells, D.ok, D.one, D.pt, D.pt1]; done))))) | (refine GuardK_split (fun hc => ?_) (fun hc => ?_) <;> (try simp only [hc]) <;> (try simp at hc)) | (refine CondK_split (fun hc => ?_) (fun hc => ?_) <;> (try simp only [hc]) <;> (try simp at hc)) | (with_reducible refine And.intro ?_ ?_; (focus ((repeat' (with_reducible refine And.intro ?_ ?_)) <;> first | exact trivial | assumption | (simp; done) | (simp only [List.length_map] at *; omega) | omega | (simp [D.one]; done)))) | (with_reducible intro x hx) | omega) <;> (try simp only [rowsU_len, c1, c3, hr, hev', Us.row, LoadR_some, IaddrR_some, ro_nil, ro_mov, ro_pick, ro_build, ro_slit, SlitK_t, ro_bin, ro_un, ro_faddr, ro_ext, ro_len, ro_load, LoadK_elt, LoadK_ptr, LoadO_some, LoadR_some, ro_box, ro_alloc, ro_store, StoreK_ptr, StoreO_some, StoreR_some, ro_iaddr, IaddrK_list, IaddrR_some, winD_all, viewS_own', viewO_some, rx_nil, rx_cons, keepK_nil, keepK_cons, keepE_nil, keepE_cons, keepN_nil, keepN_cons, D.names, acc_real, acc_nl, acc_pure, acc_fz, acc_sz, acc_rows, acc_spare, ro_guard, GuardK_tt, GuardK_ff, CondK_f, contP_some, lk_hit, lk_miss, Nat.reduceBEq, put_some, put_none, ev_t, ev_c, argEnv, reduceIte, Nat.reduceAdd, Nat.reduceLeDiff, reduceCtorEq, binD, binInt, okD, aggD, unD, pickD, faddrD, extD, lenD, loadD, fillD, splice, D.cells, D.ok, D.one, D.pt, D.pt1, D.pt0, D.norm1, cond_true, cond_false, true_and, and_true, and_self, Bool.and_true, Bool.and_false, Bool.not_true, Bool.not_false, Bool.or_true, List.getElem?_cons_zero, List.getElem?_cons_succ, List.length_cons, List.length_nil, List.take_succ_cons, List.take_zero, List.take_nil, List.drop_succ_cons, List.drop_zero, List.drop_nil, List.cons_append, List.nil_append, List.append_nil, List.map_cons, List.map_nil, List.all_cons, List.all_nil, List.set_cons_zero, List.set_cons_succ, List.isEmpty_cons, List.not_mem_nil, ne_eq, not_false_eq_true, Option.map_some, Nat.zero_add, Nat.add_zero, Nat.sub_self, Int.toNat_natCast, decide_false, Nat.lt_irrefl, Nat.le_refl, Int.natCast_nonneg, Nat.lt_add_one, Nat.zero_lt_succ, view, view2, view1, view0, mapO, capsD_fn, D.sc, D.sc1, D.sc2, pull, pull2, pull1, pull0, idx_nil, gate, pullσ, Go.Vi.freeze, Go.Vi.freeze1, capt, reachL, merge, mset, renOb, fr, D.ren, D.renL, List.mem_cons, or_false, resK_nil, resK_tmp, resK_cell, ResC_ptr, ResO_some, ResR_some, ResL_some, ofRes]))
    | cons y ys =>
      have hne : rowsE u.evs ≠ [] := by rw [hev]; simp [rowsE]
      have ce := clE_ne false (rowsE u.evs) hne (szE_rows u.evs) (by rw [rowsE_len]; omega)
      have ie := inE_p (rowsE u.evs) j (En.row ⟨id, e⟩) true (some false) hne (szE_rows u.evs) rfl (ptE_rows u.evs) (by simp [En.row, D.pt1]) (by rw [rowsE_len]; omega) (by rw [rowsE_len]; exact hjl)
      rw [rowsE_len] at ce ie
      have hrw : List.take j (rowsE u.evs) ++ En.row ⟨id, e⟩ :: List.drop j (rowsE u.evs) = rowsE (u.evs.take j ++ ⟨id, e⟩ :: u.evs.drop j) := by simp [rowsE, List.map_take, List.map_drop]
      rw [hrw] at ie
      have hll : (u.evs.take j ++ ⟨id, e⟩ :: u.evs.drop j).length = u.evs.length + 1 := by simp; omega
      generalize u.evs.take j ++ ⟨id, e⟩ :: u.evs.drop j = evs' at ie w1 hll
      simp only [En.row] at ie
      have w2 := w1.toG rfl rfl
      repeat' ((first | refine Run_seq ?_ | refine Run_skip ?_ | refine Run_block ?_ | refine Run_blk ?_ | refine Run_exit rfl ?_ | refine Run_ret ?_ | refine Run_nil ?_ | refine Run_condK ?_ | refine Run_ops mixed ?_ | refine Run_opsX mixed ?_ | with_reducible refine PostV_open ?_ | with_reducible refine PostG_open ?_ | with_reducible refine PostQ_open ?_ | with_reducible refine ro_callA (f := .c (.fn 34 [])) ?_ | with_reducible refine ro_callA' (f := .c (.fn 34 [])) ?_ | with_reducible refine ro_callA (f := .c (.fn 35 [])) ?_ | with_reducible refine ro_callA' (f := .c (.fn 35 [])) ?_ | with_reducible refine ro_callE (f := .c (.fn 36 [])) (z := [4]) (q := []) ?_ | with_reducible refine ro_callE' (f := .c (.fn 36 [])) (z := [4]) (q := []) ?_ | with_reducible refine ro_callV ?_ | with_reducible refine ro_callVX ?_ | refine CallV_pure (pl) ?_ ?_ | refine CallV_pure (en) ?_ ?_ | refine CallV_pure (me) ?_ ?_ | with_reducible refine CallE_use (ce) (by simp) ?_ | with_reducible refine CallE_use (ie) (by simp) ?_ | with_reducible refine CallE_use (w2) (by simp) ?_ | simp (disch := omega) only [w64, wu64, wu32, wu16, wu8, Int.tdiv_eq_ediv_of_nonneg, Int.tmod_eq_emod_of_nonneg] | (with_reducible refine SliceK_own rfl rfl ?_ ?_; (focus ((try simp only [row1_len, row2_len, row3_len, rowsE_len, rowsU_len, rowsP_len, rowsD_len, reduceIte, Int.natCast_nonneg, Int.le_refl, List.length_append, List.length_map, Nat.sub_zero]) <;> ((repeat' (with_reducible refine And.intro ?_ ?_)) <;> first | exact trivial | assumption | (simp; done) | (simp only [List.length_map] at *; omega) | omega | (simp [D.cells, D.ok, D.one, D.pt, D.pt1]; done))))) | (refine GuardK_split (fun hc => ?_) (fun hc => ?_) <;> (try simp only [hc]) <;> (try simp at hc)) | (refine CondK_split (fun hc => ?_) (fun hc => ?_) <;> (try simp only [hc]) <;> (try simp at hc)) | (with_reducible refine And.intro ?_ ?_; (focus ((repeat' (with_reducible refine And.intro ?_ ?_)) <;> first | exact trivial | assumption | (simp; done) | (simp only [List.length_map] at *; omega) | omega | (simp [D.one]; done)))) | (with_reducible intro x hx) | omega) <;> (try simp only [rowsE_len, rowsU_len, c1, c2, hr, hll, Us.row, LoadR_some, IaddrR_some, ro_nil, ro_mov, ro_pick, ro_build, ro_slit, SlitK_t, ro_bin, ro_un, ro_faddr, ro_ext, ro_len, ro_load, LoadK_elt, LoadK_ptr, LoadO_some, LoadR_some, ro_box, ro_alloc, ro_store, StoreK_ptr, StoreO_some, StoreR_some, ro_iaddr, IaddrK_list, IaddrR_some, winD_all, viewS_own', viewO_some, rx_nil, rx_cons, keepK_nil, keepK_cons, keepE_nil, keepE_cons, keepN_nil, keepN_cons, D.names, acc_real, acc_nl, acc_pure, acc_fz, acc_sz, acc_rows, acc_spare, ro_guard, GuardK_tt, GuardK_ff, CondK_f, contP_some, lk_hit, lk_miss, Nat.reduceBEq, put_some, put_none, ev_t, ev_c, argEnv, reduceIte, Nat.reduceAdd, Nat.reduceSub, Nat.reduceLeDiff, reduceCtorEq, binD, binInt, okD, aggD, unD, pickD, faddrD, extD, lenD, loadD, fillD, splice, D.cells, D.ok, D.one, D.pt, D.pt1, D.pt0, D.norm1, cond_true, cond_false, true_and, and_true, and_self, Bool.true_and, Bool.and_true, Bool.and_false, Bool.not_true, Bool.not_false, Bool.true_or, Bool.or_true, List.getElem?_cons_zero, List.getElem?_cons_succ, List.length_cons, List.length_nil, List.take_succ_cons, List.take_zero, List.take_nil, List.drop_succ_cons, List.drop_zero, List.drop_nil, List.cons_append, List.nil_append, List.append_nil, List.map_cons, List.map_nil, List.all_cons, List.all_nil, List.set_cons_zero, List.set_cons_succ, List.not_mem_nil, ne_eq, not_false_eq_true, Option.map_some, Nat.zero_add, Nat.add_zero, Nat.sub_self, Int.toNat_natCast, decide_false, Nat.lt_irrefl, Nat.le_refl, Int.natCast_nonneg, Nat.lt_add_one, Nat.zero_lt_succ, view, view2, view1, view0, mapO, capsD_fn, D.sc, D.sc1, D.sc2, pull, pull2, pull1, pull0, idx_hit, idx_nil, gate, pullσ, pullOb, Go.Vi.freeze, Go.Vi.freeze1, capt, reachL, reachO, isin, merge, mset, renOb, fr, D.ren, D.renL, List.getD_cons_zero, List.mem_cons, or_false, resK_nil, resK_tmp, resK_cell, ResC_ptr, ResO_some, ResR_some, ResL_some, ofRes]))
      skip
end
end Go.Proofs.Ytapennlmboabeaa

namespace Go.Proofs.Ytapennlmboabeaa
open Go Go.Vi


theorem outE_win (l : List En) (k : Nat) (z : List D) (hk : k < l.length) : winD 0 (l.length - 1) l.length (List.take k (rowsE l) ++ List.drop (k + 1) (rowsE l) ++ [z]) = rowsE (l.take k ++ l.drop (k + 1)) := by
  unfold winD
  rw [if_neg (by omega), List.drop_zero, List.take_left' (by simp only [List.length_append, List.length_take, List.length_drop, rowsE_len]; omega)]
  simp [rowsE, List.map_take, List.map_drop]
section
variable (t : Int) (us : List Us) (ps : List Po) (ds : List Dn) (user id : Int) (u : Us)
set_option maxHeartbeats 4000000 in
theorem ca_ok (hl : us.length ≤ 400000000000) (hs : us.Pairwise fun a b => a.id < b.id) (hu : findU us user = some u) (hle : u.evs.length ≤ 400000000000) (hse : u.evs.Pairwise fun a b => a.id < b.id) (hq : (findE u.evs id).isSome = true) :
    PureD Try.prog 20 [St t us ps ds, .int .u32 user, .int .u32 id] (.tup [St t (us.map (rep (delU u id))) ps ds, .int .u64 (IntKind.u64.wrap (u.ver + 1)), .int .i64 0]) := by
  obtain ⟨h1, h2, h3, h4⟩ := u_at hs hu
  have pl := placeU_p t us ps ds user (by omega) hs
  rw [h2] at pl
  have en := entry_p u id (by omega) hse
  have hat := findE_at (id := id) hse
  rw [hq] at hat
  have hat := hat.symm
  have hr := rowsU_get h1
  have w1 := with_1 t us ps ds (lowB Us.id us user) (delU u id) h3 hl
  rw [set_rep (delU u id) us _ u hs h1 rfl] at w1
  generalize us.map (rep (delU u id)) = us' at w1 ⊢
  generalize lowB Us.id us user = k at pl hr h3 w1
  refine pureV Try.func20 low20 (by simp [c20]) ?_
  simp only [c20, St, Us.row, delU] at pl en w1 ⊢
  have sp := del_put hse hat
  rw [hat] at en
  have hlt : lowB En.id u.evs id < u.evs.length := by
    obtain ⟨x, _, q2, _⟩ := low_at En.id id u.evs hse hat
    exact (List.getElem?_eq_some_iff.1 q2).1
  rw [← sp] at w1
  generalize lowB En.id u.evs id = j at en w1 hlt
  have hne : rowsE u.evs ≠ [] := by
    cases hh : u.evs with
    | nil => rw [hh] at hlt; simp at hlt
    | cons => simp [rowsE]
  have ce := clE_ne false (rowsE u.evs) hne (szE_rows u.evs) (by rw [rowsE_len]; omega)
  have de := delE_p (rowsE u.evs) j (szE_rows u.evs) (ptE_rows u.evs) (by rw [rowsE_len]; omega) (by rw [rowsE_len]; omega)
  have ow := outE_win u.evs j zrE hlt
  have oe : (List.take j (rowsE u.evs) ++ List.drop (j + 1) (rowsE u.evs) ++ [zrE]).length = u.evs.length := by simp only [List.length_append, List.length_take, List.length_drop, rowsE_len, List.length_cons, List.length_nil]; omega
  rw [rowsE_len] at ce de
  generalize List.take j (rowsE u.evs) ++ List.drop (j + 1) (rowsE u.evs) ++ [zrE] = M at de ow oe
  generalize u.evs.take j ++ u.evs.drop (j + 1) = evs' at ow w1
  have w2 := w1.toG rfl rfl
  repeat' ((first | refine Run_seq ?_ | refine Run_skip ?_ | refine Run_block ?_ | refine Run_blk ?_ | refine Run_exit rfl ?_ | refine Run_ret ?_ | refine Run_nil ?_ | refine Run_condK ?_ | refine Run_ops mixed ?_ | refine Run_opsX mixed ?_ | with_reducible refine PostV_open ?_ | with_reducible refine PostG_open ?_ | with_reducible refine PostQ_open ?_ | with_reducible refine ro_callA (f := .c (.fn 34 [])) ?_ | with_reducible refine ro_callA' (f := .c (.fn 34 [])) ?_ | with_reducible refine ro_callA (f := .c (.fn 39 [])) ?_ | with_reducible refine ro_callA' (f := .c (.fn 39 [])) ?_ | with_reducible refine ro_callE (f := .c (.fn 36 [])) (z := [3]) (q := []) ?_ | with_reducible refine ro_callE' (f := .c (.fn 36 [])) (z := [3]) (q := []) ?_ | with_reducible refine ro_callV ?_ | with_reducible refine ro_callVX ?_ | refine CallV_pure (pl) ?_ ?_ | refine CallV_pure (en) ?_ ?_ | with_reducible refine CallE_use (ce) (by simp) ?_ | with_reducible refine CallE_use (de) (by simp) ?_ | with_reducible refine CallE_use (w2) (by simp) ?_ | simp (disch := omega) only [w64] | (with_reducible refine SliceK_own rfl rfl ?_ ?_; (focus ((try simp only [row1_len, row2_len, row3_len, rowsE_len, rowsU_len, rowsP_len, rowsD_len, reduceIte, Int.natCast_nonneg, Int.le_refl, List.length_append, List.length_map, Nat.sub_zero]) <;> ((repeat' (with_reducible refine And.intro ?_ ?_)) <;> first | exact trivial | assumption | (simp; done) | (simp only [List.length_map] at *; omega) | omega | (simp [D.cells, D.ok, D.one, D.pt, D.pt1]; done))))) | (refine GuardK_split (fun hc => ?_) (fun hc => ?_) <;> (try simp only [hc]) <;> (try simp at hc)) | (refine CondK_split (fun hc => ?_) (fun hc => ?_) <;> (try simp only [hc]) <;> (try simp at hc)) | (with_reducible refine And.intro ?_ ?_; (focus ((repeat' (with_reducible refine And.intro ?_ ?_)) <;> first | exact trivial | assumption | (simp; done) | (simp only [List.length_map] at *; omega) | omega | (simp [D.cells, D.ok, D.one, D.pt, D.pt1]; done)))) | (with_reducible intro x hx) | omega) <;> (try simp only [rowsU_len, hr, oe, ow, Us.row, LoadR_some, IaddrR_some, ro_nil, ro_mov, ro_bin, ro_un, ro_faddr, ro_ext, ro_load, LoadK_elt, LoadK_ptr, LoadO_some, LoadR_some, ro_box, ro_alloc, ro_store, StoreK_ptr, StoreO_some, StoreR_some, ro_iaddr, IaddrK_list, IaddrR_some, viewS_own', viewO_some, rx_nil, rx_cons, keepK_nil, keepK_cons, keepE_nil, keepE_cons, keepN_nil, keepN_cons, D.names, acc_real, acc_nl, acc_pure, acc_fz, acc_sz, acc_rows, acc_spare, CondK_f, contP_some, lk_hit, lk_miss, Nat.reduceBEq, put_some, put_none, ev_t, ev_c, argEnv, reduceIte, Nat.reduceAdd, Nat.reduceSub, Nat.reduceLeDiff, reduceCtorEq, binD, binInt, okD, unD, faddrD, extD, loadD, splice, D.cells, D.ok, D.one, D.pt, D.pt1, D.pt0, D.norm1, true_and, and_true, and_self, Bool.true_and, Bool.and_true, Bool.and_false, Bool.not_true, Bool.true_or, Bool.or_true, List.getElem?_cons_zero, List.getElem?_cons_succ, List.length_cons, List.length_nil, List.take_succ_cons, List.take_zero, List.take_nil, List.drop_succ_cons, List.drop_zero, List.drop_nil, List.cons_append, List.nil_append, List.append_nil, List.map_cons, List.map_nil, List.all_cons, List.all_nil, List.set_cons_zero, List.set_cons_succ, ne_eq, not_false_eq_true, Option.map_some, Nat.zero_add, Nat.add_zero, Nat.sub_self, Int.toNat_natCast, Nat.lt_irrefl, Nat.le_refl, Int.natCast_nonneg, Nat.lt_add_one, view, view2, view1, view0, mapO, capsD_fn, D.sc, D.sc1, D.sc2, pull, pull2, pull1, pull0, idx_hit, idx_nil, gate, pullσ, pullOb, Go.Vi.freeze, Go.Vi.freeze1, capt, reachL, reachO, isin, merge, mset, renOb, fr, D.ren, D.renL, List.getD_cons_zero, resK_nil, resK_tmp, resK_cell, ResC_ptr, ResO_some, ResR_some, ResL_some, ofRes]))
def zE : Ev := ⟨0, 0, false, false, ⟨0, 0, 0, 0, [], [], [], [], 0⟩, [], [], []⟩
def findER (us : List Us) (user id : Int) : D := .tup [.agg (((findE ((findU us user).getD zU).evs id).map En.ev).getD zE).cells, .bool (findE ((findU us user).getD zU).evs id).isSome]
theorem event_p (hl : us.length ≤ 400000000000) (hs : us.Pairwise fun a b => a.id < b.id) (hle : ∀ u ∈ us, u.evs.length ≤ 140737488351232) (hse : ∀ u ∈ us, u.evs.Pairwise fun a b => a.id < b.id) :
    PureD Try.prog 17 [St t us ps ds, .int .u32 user, .int .u32 id] (findER us user id) := by
  have fp := bookFind_p t us ps ds user (by omega) hs
  unfold findUR at fp
  unfold findER
  have hw : ((findU us user).getD zU).evs.length ≤ 140737488351232 ∧ ((findU us user).getD zU).evs.Pairwise fun a b => a.id < b.id := by
    cases h : findU us user with
    | none => simp [zU]
    | some u => exact ⟨hle u (findU_some h).1, hse u (findU_some h).1⟩
  generalize (findU us user).getD zU = u at fp hw ⊢
  generalize (findU us user).isSome = b at fp
  have en := entry_p u id hw.1 hw.2
  have hfe := findE_at (id := id) hw.2
  have hf := findB_low En.id u.evs id hw.2
  have hff : findE u.evs id = u.evs.find? fun u => u.id == id := rfl
  rw [← hff] at hf
  refine pureV Try.func17 low17 (by simp [c17]) ?_
  simp only [c17, St, Us.row] at fp en ⊢
  cases hat : isAtB En.id u.evs (lowB En.id u.evs id) id with
  | true =>
    rw [if_pos hat] at hf
    obtain ⟨x, hx⟩ : ∃ x, u.evs[lowB En.id u.evs id]? = some x := by
      obtain ⟨x, _, q2, _⟩ := low_at En.id id u.evs hw.2 hat
      exact ⟨x, q2⟩
    have hlt := (List.getElem?_eq_some_iff.1 hx).1
    rw [hf, hx]
    rw [hat] at en
    simp only [Option.map_some, Option.getD_some, Option.isSome_some, Ev.cells]
    generalize lowB En.id u.evs id = j at en hx hlt
    have hrx := rowsE_get hx
    repeat' ((first | refine Run_seq ?_ | refine Run_skip ?_ | refine Run_block ?_ | refine Run_blk ?_ | refine Run_exit rfl ?_ | refine Run_ret ?_ | refine Run_nil ?_ | refine Run_condK ?_ | refine Run_ops mixed ?_ | refine Run_opsX mixed ?_ | with_reducible refine PostV_open ?_ | with_reducible refine PostG_open ?_ | with_reducible refine PostQ_open ?_ | with_reducible refine ro_callV ?_ | with_reducible refine ro_callVX ?_ | refine CallV_pure (fp) ?_ ?_ | refine CallV_pure (en) ?_ ?_ | simp (disch := omega) only [w64, wu64, wu32, wu16, wu8, Int.tdiv_eq_ediv_of_nonneg, Int.tmod_eq_emod_of_nonneg] | (with_reducible refine SliceK_own rfl rfl ?_ ?_; (focus ((try simp only [row1_len, row2_len, row3_len, rowsE_len, rowsU_len, rowsP_len, rowsD_len, reduceIte, Int.natCast_nonneg, Int.le_refl, List.length_append, List.length_map, Nat.sub_zero]) <;> ((repeat' (with_reducible refine And.intro ?_ ?_)) <;> first | exact trivial | assumption | (simp; done) | (simp only [List.length_map] at *; omega) | omega | (simp [D.cells, D.ok, D.one, D.pt, D.pt1]; done))))) | (refine GuardK_split (fun hc => ?_) (fun hc => ?_) <;> (try simp only [hc]) <;> (try simp at hc)) | (refine CondK_split (fun hc => ?_) (fun hc => ?_) <;> (try simp only [hc]) <;> (try simp at hc)) | (with_reducible refine And.intro ?_ ?_; (focus ((repeat' (with_reducible refine And.intro ?_ ?_)) <;> first | exact trivial | assumption | (simp; done) | (simp only [List.length_map] at *; omega) | omega | (simp [D.cells, D.ok, D.one, D.pt, D.pt1]; done)))) | (with_reducible intro x hx) | omega) <;> (try simp only [rowsE_len, hrx, En.row, LoadR_some, IaddrR_some, ro_nil, ro_mov, ro_un, ro_faddr, ro_ext, ro_load, LoadK_elt, LoadK_ptr, LoadO_some, LoadR_some, ro_box, ro_alloc, ro_store, StoreK_ptr, StoreO_some, StoreR_some, ro_iaddr, IaddrK_list, IaddrR_some, viewS_own', CondK_f, contP_some, lk_hit, lk_miss, Nat.reduceBEq, put_some, put_none, ev_t, ev_c, argEnv, reduceIte, Nat.reduceAdd, reduceCtorEq, okD, unD, faddrD, extD, loadD, splice, D.cells, D.ok, D.one, D.pt, D.pt1, D.pt0, D.norm1, true_and, and_self, Bool.and_true, Bool.and_false, Bool.not_true, Bool.or_true, Bool.or_false, List.getElem?_cons_zero, List.getElem?_cons_succ, List.length_cons, List.length_nil, List.take_succ_cons, List.take_zero, List.take_nil, List.drop_succ_cons, List.drop_zero, List.drop_nil, List.cons_append, List.nil_append, List.append_nil, List.map_cons, List.map_nil, List.all_cons, List.all_nil, List.set_cons_zero, List.set_cons_succ, ne_eq, not_false_eq_true, Option.map_some, Nat.zero_add, Int.toNat_natCast, Nat.le_refl, Int.natCast_nonneg, Nat.lt_add_one, view, view2, view1, view0, mapO, capsD_fn, D.sc, D.sc1, D.sc2, resK_nil, resK_tmp, resK_cell, ResC_ptr, ResO_some, ResR_some, ResL_some, ofRes]))
  | false =>
    rw [if_neg (by rw [hat]; simp)] at hf
    rw [hf]
    rw [hat] at en
    simp only [Option.map_none, Option.getD_none, Option.isSome_none, Ev.cells, zE, row1, row2, row3, List.map_nil]
    repeat' ((first | refine Run_seq ?_ | refine Run_skip ?_ | refine Run_block ?_ | refine Run_blk ?_ | refine Run_exit rfl ?_ | refine Run_ret ?_ | refine Run_nil ?_ | refine Run_condK ?_ | refine Run_ops mixed ?_ | refine Run_opsX mixed ?_ | with_reducible refine PostV_open ?_ | with_reducible refine PostG_open ?_ | with_reducible refine PostQ_open ?_ | with_reducible refine ro_callV ?_ | with_reducible refine ro_callVX ?_ | refine CallV_pure (fp) ?_ ?_ | refine CallV_pure (en) ?_ ?_ | simp (disch := omega) only [w64, wu64, wu32, wu16, wu8, Int.tdiv_eq_ediv_of_nonneg, Int.tmod_eq_emod_of_nonneg] | (with_reducible refine SliceK_own rfl rfl ?_ ?_; (focus ((try simp only [row1_len, row2_len, row3_len, rowsE_len, rowsU_len, rowsP_len, rowsD_len, reduceIte, Int.natCast_nonneg, Int.le_refl, List.length_append, List.length_map, Nat.sub_zero]) <;> ((repeat' (with_reducible refine And.intro ?_ ?_)) <;> first | exact trivial | assumption | (simp; done) | (simp only [List.length_map] at *; omega) | omega | (simp [D.cells, D.ok, D.one, D.pt, D.pt1]; done))))) | (refine GuardK_split (fun hc => ?_) (fun hc => ?_) <;> (try simp only [hc]) <;> (try simp at hc)) | (refine CondK_split (fun hc => ?_) (fun hc => ?_) <;> (try simp only [hc]) <;> (try simp at hc)) | (with_reducible refine And.intro ?_ ?_; (focus ((repeat' (with_reducible refine And.intro ?_ ?_)) <;> first | exact trivial | assumption | (simp; done) | (simp only [List.length_map] at *; omega) | omega | (simp [D.cells, D.ok, D.one, D.pt, D.pt1]; done)))) | (with_reducible intro x hx) | omega) <;> (try simp only [ro_nil, ro_mov, ro_build, ro_un, ro_ext, ro_load, LoadK_ptr, LoadO_some, LoadR_some, ro_box, ro_alloc, ro_store, StoreK_ptr, StoreO_some, StoreR_some, viewS_own', CondK_t, contP_some, lk_hit, lk_miss, Nat.reduceBEq, put_some, put_none, ev_t, ev_c, argEnv, reduceIte, Nat.reduceAdd, reduceCtorEq, okD, aggD, unD, extD, loadD, fillD, splice, D.cells, D.ok, D.one, D.pt, D.pt1, D.pt0, D.norm1, true_and, and_self, Bool.and_true, Bool.and_false, Bool.not_false, Bool.or_true, Bool.or_false, List.getElem?_cons_zero, List.getElem?_cons_succ, List.length_cons, List.length_nil, List.take_succ_cons, List.take_zero, List.take_nil, List.drop_succ_cons, List.drop_zero, List.drop_nil, List.cons_append, List.nil_append, List.append_nil, List.map_cons, List.map_nil, List.all_cons, List.all_nil, List.set_cons_zero, List.set_cons_succ, ne_eq, not_false_eq_true, Option.map_some, Nat.zero_add, Nat.le_refl, Nat.lt_add_one, view, view2, view1, view0, mapO, capsD_fn, D.sc, D.sc1, D.sc2, resK_nil, resK_tmp, resK_cell, ResC_ptr, ResO_some, ResR_some, ResL_some, ofRes]))
end
end Go.Proofs.Ytapennlmboabeaa

namespace Go.Proofs.Ytapennlmboabeaa
open Go Go.Vi
/-- Users that rise, and whose events rise. -/
def Wel (us : List Us) (n : Nat) : Prop := us.length ≤ 1000000 ∧ (us.Pairwise fun a b => a.id < b.id) ∧ ∀ u ∈ us, u.fit ∧ (u.evs.Pairwise fun a b => a.id < b.id) ∧ u.evs.length ≤ n
def putF (us : List Us) (user id : Int) (e : Ev) : List Us × Int × Int := match findU us user with
  | none => (us, 0, 4)
  | some u => if id = 0 ∨ mayE e = false then (us, 0, 2) else if (findE u.evs id).isSome = false ∧ 64 ≤ u.evs.length then (us, 0, 6) else (us.map (rep (putU u id e)), IntKind.u64.wrap (u.ver + 1), 0)
theorem putF_p (t : Int) {us : List Us} (ps : List Po) (ds : List Dn) (user id : Int) {e : Ev} {n : Nat} (hw : Wel us n) (hn : n ≤ 1000000) (he : e.fits) (hc : e.ch.length ≤ 14073748835123) :
    PureD Try.prog 16 [St t us ps ds, .int .u32 user, .int .u32 id, .agg e.cells] (.tup [St t (putF us user id e).1 ps ds, .int .u64 (putF us user id e).2.1, .int .i64 (putF us user id e).2.2]) := by
  obtain ⟨w1, w2, w3⟩ := hw
  unfold putF
  cases hu : findU us user with
  | none => exact pe_none t us ps ds user id e (by omega) w2 hu
  | some u =>
    obtain ⟨_, h1, h2⟩ := w3 u (findU_some hu).1
    dsimp only
    by_cases h : id = 0 ∨ mayE e = false
    · rw [if_pos h]
      exact pe_arg t us ps ds user id e u (by omega) w2 hu (by omega) h1 he hc h
    · rw [if_neg h]
      have hi : id ≠ 0 := fun hh => h (.inl hh)
      have hm : mayE e = true := by
        cases hh : mayE e with
        | true => rfl
        | false => exact absurd (.inr hh) h
      by_cases hq : (findE u.evs id).isSome = false ∧ 64 ≤ u.evs.length
      · rw [if_pos hq]
        have : findE u.evs id = none := by simpa using hq.1
        exact pe_quota t us ps ds user id e u (by omega) w2 hu (by omega) h1 he hc hi hm this hq.2
      · rw [if_neg hq]
        refine pe_ok t us ps ds user id e u (by omega) w2 hu (by omega) h1 he hc hi hm ?_
        cases hh : (findE u.evs id).isSome with
        | true => exact .inl rfl
        | false => exact .inr (by
          have : ¬ 64 ≤ u.evs.length := fun h64 => hq ⟨hh, h64⟩
          omega)
theorem filt_len {α : Type} (p q : α → Bool) (h : ∀ x, p x = true → q x = false) : ∀ l : List α, (l.filter p).length + (l.filter q).length ≤ l.length
  | [] => by simp
  | x :: l => by
    have ih := filt_len p q h l
    have hx := h x
    by_cases hp : p x = true
    · have hq := hx hp
      simp [hp, hq]; omega
    · by_cases hq : q x = true
      · simp [hp, hq]; omega
      · simp [hp, hq]; omega
theorem putEv_len (l : List En) (id : Int) (e : Ev) : (putEv l id e).length ≤ l.length + 1 := by
  have := filt_len (fun x : En => decide (x.id < id)) (fun x => decide (id < x.id)) (fun x => by simp; omega) l
  unfold putEv
  simp only [List.length_append, List.length_cons]
  omega
theorem delEv_len (l : List En) (id : Int) : (delEv l id).length ≤ l.length := by
  have := filt_len (fun x : En => decide (x.id < id)) (fun x => decide (id < x.id)) (fun x => by simp; omega) l
  unfold delEv
  simp only [List.length_append]
  omega
theorem putEv_mem {l : List En} {id : Int} {e : Ev} {x : En} (h : x ∈ putEv l id e) : x ∈ l ∨ x = ⟨id, e⟩ := by
  unfold putEv at h
  simp only [List.mem_append, List.mem_filter, List.mem_cons] at h
  rcases h with h | h | h
  · exact .inl h.1
  · exact .inr h
  · exact .inl h.1
theorem delEv_mem {l : List En} {id : Int} {x : En} (h : x ∈ delEv l id) : x ∈ l ∧ x.id ≠ id := by
  unfold delEv at h
  simp only [List.mem_append, List.mem_filter, decide_eq_true_eq] at h
  rcases h with h | h
  · exact ⟨h.1, by omega⟩
  · exact ⟨h.1, by omega⟩
theorem putEv_sorted {l : List En} (id : Int) (e : Ev) (hs : l.Pairwise fun a b => a.id < b.id) : (putEv l id e).Pairwise fun a b => a.id < b.id := by
  unfold putEv
  rw [List.pairwise_append]
  refine ⟨hs.filter _, List.pairwise_cons.2 ⟨fun x hx => ?_, hs.filter _⟩, fun x hx y hy => ?_⟩
  · simpa using (List.mem_filter.1 hx).2
  · have h1 : x.id < id := by simpa using (List.mem_filter.1 hx).2
    rcases List.mem_cons.1 hy with rfl | hy
    · exact h1
    · have h2 : id < y.id := by simpa using (List.mem_filter.1 hy).2
      omega
theorem delEv_sorted {l : List En} (id : Int) (hs : l.Pairwise fun a b => a.id < b.id) : (delEv l id).Pairwise fun a b => a.id < b.id := by
  unfold delEv
  rw [List.pairwise_append]
  refine ⟨hs.filter _, hs.filter _, fun x hx y hy => ?_⟩
  have h1 : x.id < id := by simpa using (List.mem_filter.1 hx).2
  have h2 : id < y.id := by simpa using (List.mem_filter.1 hy).2
  omega
theorem findE_put (l : List En) (id : Int) (e : Ev) : findE (putEv l id e) id = some ⟨id, e⟩ := by
  unfold findE putEv
  rw [List.find?_append]
  have : (l.filter fun x => decide (x.id < id)).find? (fun x => x.id == id) = none := by
    rw [List.find?_eq_none]
    intro x hx
    have : x.id < id := by simpa using (List.mem_filter.1 hx).2
    simp; omega
  rw [this]
  simp
theorem findE_del (l : List En) (id : Int) : findE (delEv l id) id = none := by
  unfold findE
  rw [List.find?_eq_none]
  intro x hx
  simpa using (delEv_mem hx).2
theorem putU_fit {u : Us} {id : Int} {e : Ev} (hu : u.fit) (hl : u.evs.length ≤ 1000000) (he : e.fits) : (putU u id e).fit := by
  obtain ⟨h1, h2, h3⟩ := hu
  refine ⟨h1, ?_, fun x hx => ?_⟩
  · have := putEv_len u.evs id e
    show (putEv u.evs id e).length ≤ _
    omega
  · rcases putEv_mem (show x ∈ putEv u.evs id e from hx) with h | h
    · exact h3 x h
    · rw [h]; exact he
theorem delU_fit {u : Us} {id : Int} (hu : u.fit) : (delU u id).fit := by
  obtain ⟨h1, h2, h3⟩ := hu
  refine ⟨h1, ?_, fun x hx => h3 x (delEv_mem (show x ∈ delEv u.evs id from hx)).1⟩
  have := delEv_len u.evs id
  show (delEv u.evs id).length ≤ _
  omega
theorem rep_mem {us : List Us} {u' x : Us} (h : x ∈ us.map (rep u')) : x = u' ∨ x ∈ us := by
  obtain ⟨y, hy, rfl⟩ := List.mem_map.1 h
  unfold rep
  split
  · exact .inl rfl
  · exact .inr hy
theorem rep_sorted {us : List Us} (u' : Us) (hs : us.Pairwise fun a b => a.id < b.id) : (us.map (rep u')).Pairwise fun a b => a.id < b.id := by
  rw [List.pairwise_map]
  exact hs.imp fun h => by rw [rep_id, rep_id]; exact h
theorem Wel.rep {us : List Us} {n m : Nat} {u' : Us} (hw : Wel us n) (hm : n ≤ m) (h1 : u'.fit) (h2 : u'.evs.Pairwise fun a b => a.id < b.id) (h3 : u'.evs.length ≤ m) : Wel (us.map (Ytapennlmboabeaa.rep u')) m := by
  obtain ⟨w1, w2, w3⟩ := hw
  refine ⟨by simpa using w1, rep_sorted u' w2, fun x hx => ?_⟩
  rcases rep_mem hx with rfl | hx
  · exact ⟨h1, h2, h3⟩
  · obtain ⟨a, b, c⟩ := w3 x hx
    exact ⟨a, b, by omega⟩
theorem Wel.put {us : List Us} {n : Nat} (user id : Int) {e : Ev} (hw : Wel us n) (hn : n ≤ 999999) (he : e.fits) : Wel (putF us user id e).1 (n + 1) := by
  have hw0 := hw
  obtain ⟨w1, w2, w3⟩ := hw
  have hw' : Wel us (n + 1) := ⟨w1, w2, fun u hu => ⟨(w3 u hu).1, (w3 u hu).2.1, by have := (w3 u hu).2.2; omega⟩⟩
  unfold putF
  cases hu : findU us user with
  | none => exact hw'
  | some u =>
    obtain ⟨h0, h1, h2⟩ := w3 u (findU_some hu).1
    dsimp only
    split
    · exact hw'
    · split
      · exact hw'
      · refine hw0.rep (by omega) (putU_fit h0 (by omega) he) (putEv_sorted id e h1) ?_
        have := putEv_len u.evs id e
        show (putEv u.evs id e).length ≤ _
        omega
theorem findU_id {us : List Us} {user : Int} {u : Us} (h : findU us user = some u) : u.id = user := (findU_some h).2
theorem findU_rep_ne {us : List Us} {u' : Us} {b : Int} (h : u'.id ≠ b) : findU (us.map (rep u')) b = findU us b := by
  rw [findU_rep]
  cases hb : findU us b with
  | none => rfl
  | some x =>
    have : ¬ x.id = u'.id := by rw [findU_id hb]; exact fun hh => h hh.symm
    simp [rep, this]
theorem findU_rep_eq {us : List Us} {u u' : Us} (hu : findU us u'.id = some u) : findU (us.map (rep u')) u'.id = some u' := by
  rw [findU_rep, hu]
  simp [rep, findU_id hu]
theorem findU_putF {us : List Us} {a b id : Int} {e : Ev} (h : a ≠ b) : findU (putF us a id e).1 b = findU us b := by
  unfold putF
  cases hu : findU us a with
  | none => rfl
  | some u =>
    dsimp only
    split
    · rfl
    · split
      · rfl
      · exact findU_rep_ne (by show u.id ≠ b; rw [findU_id hu]; exact h)
theorem putF_snd {us vs : List Us} {b id : Int} {f : Ev} (h : findU vs b = findU us b) : (putF vs b id f).2 = (putF us b id f).2 := by
  unfold putF
  rw [h]
  cases findU us b with
  | none => rfl
  | some u => dsimp only; split <;> (try split) <;> rfl
theorem rep_comm (us : List Us) {x y : Us} (h : x.id ≠ y.id) : (us.map (rep x)).map (rep y) = (us.map (rep y)).map (rep x) := by
  rw [List.map_map, List.map_map]
  apply List.map_congr_left
  intro u _
  show rep y (rep x u) = rep x (rep y u)
  unfold rep
  by_cases h1 : u.id = x.id
  · have h2 : ¬ u.id = y.id := by omega
    have h3 : ¬ x.id = y.id := h
    simp [h1, h3]
  · by_cases h2 : u.id = y.id
    · have h3 : ¬ y.id = x.id := fun hh => h hh.symm
      simp [h2, h3]
    · simp [h1, h2]
theorem putF_fst (us : List Us) (a id : Int) (e : Ev) : (∀ vs : List Us, findU vs a = findU us a → (putF vs a id e).1 = vs) ∨ ∃ u', u'.id = a ∧ ∀ vs : List Us, findU vs a = findU us a → (putF vs a id e).1 = vs.map (rep u') := by
  cases hu : findU us a with
  | none => exact .inl fun vs hv => by unfold putF; rw [hv]
  | some u =>
    by_cases h1 : id = 0 ∨ mayE e = false
    · exact .inl fun vs hv => by unfold putF; rw [hv]; dsimp only; rw [if_pos h1]
    · by_cases h2 : (findE u.evs id).isSome = false ∧ 64 ≤ u.evs.length
      · exact .inl fun vs hv => by unfold putF; rw [hv]; dsimp only; rw [if_neg h1, if_pos h2]
      · exact .inr ⟨putU u id e, (findU_id hu : u.id = a), fun vs hv => by unfold putF; rw [hv]; dsimp only; rw [if_neg h1, if_neg h2]⟩
theorem putF_comm (us : List Us) {a b id : Int} {e f : Ev} (h : a ≠ b) : (putF (putF us a id e).1 b id f).1 = (putF (putF us b id f).1 a id e).1 := by
  have ha : ∀ f, findU (putF us b id f).1 a = findU us a := fun f => findU_putF fun hh => h hh.symm
  have hb : ∀ e, findU (putF us a id e).1 b = findU us b := fun e => findU_putF h
  rcases putF_fst us a id e with h1 | ⟨x, hx, h1⟩ <;> rcases putF_fst us b id f with h2 | ⟨y, hy, h2⟩
  · rw [h1 us rfl, h1 _ (ha f)]
  · rw [h1 us rfl, h1 _ (ha f)]
  · rw [h2 _ (hb e), h2 us rfl]
  · rw [h2 _ (hb e), h1 us rfl, h1 _ (ha f), h2 us rfl]
    exact rep_comm us (by rw [hx, hy]; exact h)
end Go.Proofs.Ytapennlmboabeaa
