import Derived.Test.YtapennlmboabeaaBGV
set_option linter.unusedVariables false
set_option linter.unusedSimpArgs false
set_option linter.unnecessarySimpa false
namespace Go.Proofs.Ytapennlmboabeaa
open Go Go.Vi

def zrU : List D := [.int .u32 0, .int .i64 0, .list (some true) true [], .list (some true) true [], .list (some true) true [], .int .i64 0, .int .i64 0, .int .u64 0, .list (some true) true []]
set_option maxHeartbeats 1000000 in
theorem delU_p (l : List (List D)) (k : Nat) (hsz : ∀ r ∈ l, r.length = 9) (hp : (l.all fun r => r.all D.pt1) = true) (hl : l.length ≤ 400000000000) (hk : k < l.length) : CallG Try.prog 26 [.own 0 0 l.length l.length 9 none, .int .i64 k, .int .i64 (k + 1)] [acc true 9 true l]
    (.own 0 0 (l.length - 1) l.length 9 none) [acc true 9 true (l.take k ++ l.drop (k + 1) ++ [zrU])] := by
  refine callG Try.func26 low26 (by simp [c26]) ?_
  simp only [c26]
  have hne' : l.isEmpty = false := by
    cases l with
    | nil => simp at hk
    | cons => rfl
  have c2 : ((k : Int) == (k : Int) + 1) = false := by simp; omega
  have e1 : (1 : Int) + (k : Int) = (k : Int) + 1 := by omega
  have e2 : ((k : Int) + 1).toNat = k + 1 := by omega
  have e3 : winD (k + 1) (l.length - (k + 1)) l.length l = l.drop (k + 1) := by
    unfold winD
    rw [if_neg (by omega), List.take_of_length_le (by simp)]
  repeat' ((first | refine Run_seq ?_ | refine Run_skip ?_ | refine Run_block ?_ | refine Run_blk ?_ | refine Run_exit rfl ?_ | refine Run_ret ?_ | refine Run_nil ?_ | refine Run_condK ?_ | refine Run_ops mixed ?_ | refine Run_opsX mixed ?_ | with_reducible refine PostV_open ?_ | with_reducible refine PostG_open ?_ | with_reducible refine PostQ_open ?_ | with_reducible refine ro_callV ?_ | with_reducible refine ro_callVX ?_ | simp (disch := omega) only [w64, wu64, wu32, wu16, wu8, Int.tdiv_eq_ediv_of_nonneg, Int.tmod_eq_emod_of_nonneg] | (with_reducible refine SliceK_own rfl rfl ?_ ?_; (focus ((try simp only [Int.natCast_nonneg, Int.le_refl]) <;> ((repeat' (with_reducible refine And.intro ?_ ?_)) <;> first | exact trivial | assumption | (simp; done) | (simp only [List.length_map] at *; omega) | omega | (simp [D.cells, D.ok, D.one, D.pt, D.pt1]; done))))) | (refine GuardK_split (fun hc => ?_) (fun hc => ?_) <;> (try simp only [hc]) <;> (try simp at hc)) | (refine CondK_split (fun hc => ?_) (fun hc => ?_) <;> (try simp only [hc]) <;> (try simp at hc)) | (with_reducible refine And.intro ?_ ?_; (focus ((repeat' (with_reducible refine And.intro ?_ ?_)) <;> first | exact trivial | assumption | (simp; done) | (simp only [List.length_map] at *; omega) | omega | (simp [D.cells, D.ok, D.one, D.pt, D.pt1]; done)))) | (with_reducible intro x hx) | omega) <;> (try simp only [c2, e2, e3, ro_nil, ro_mov, ro_bin, ro_len, ro_slice, ro_slice3, ro_app, newsD_own, newsO_some, AppN_some, AppS_own, rx_nil, rx_cons, keepK_nil, acc_pure, acc_rows, CondK_f, contP_some, lk_hit, lk_miss, Nat.reduceBEq, put_some, ev_t, ev_c, argEnv, reduceIte, Nat.reduceAdd, binD, binInt, lenD, slice3D, bndD, true_and, and_true, and_self, Bool.true_or, List.getElem?_cons_zero, Option.map_some, Option.map_none, Nat.zero_add, Nat.add_zero, Int.toNat_natCast, Int.le_refl, Int.natCast_nonneg, Nat.zero_lt_succ]))
  refine ⟨fun r hr => hsz r (List.mem_of_mem_drop hr), ?_⟩
  have e4 : k + (l.length - (k + 1)) = l.length - 1 := by omega
  refine AppO_in (by omega) ⟨rfl, by simp only [List.length_drop]; omega, by simp only [List.length_drop]; omega⟩ ⟨rfl, by simp only [List.length_drop]; omega, by simp⟩ ?_
  simp only [Nat.sub_zero, Nat.zero_add, List.length_drop, e4]
  repeat' ((first | refine Run_seq ?_ | refine Run_skip ?_ | refine Run_block ?_ | refine Run_blk ?_ | refine Run_exit rfl ?_ | refine Run_ret ?_ | refine Run_nil ?_ | refine Run_condK ?_ | refine Run_ops mixed ?_ | refine Run_opsX mixed ?_ | with_reducible refine PostV_open ?_ | with_reducible refine PostG_open ?_ | with_reducible refine PostQ_open ?_ | with_reducible refine ro_callV ?_ | with_reducible refine ro_callVX ?_ | simp (disch := omega) only [w64, wu64, wu32, wu16, wu8, Int.tdiv_eq_ediv_of_nonneg, Int.tmod_eq_emod_of_nonneg] | (with_reducible refine SliceK_own rfl rfl ?_ ?_; (focus ((try simp only [Int.natCast_nonneg]) <;> ((repeat' (with_reducible refine And.intro ?_ ?_)) <;> first | exact trivial | assumption | (simp; done) | (simp only [List.length_map] at *; omega) | omega | (simp []; done))))) | (refine GuardK_split (fun hc => ?_) (fun hc => ?_) <;> (try simp only [hc]) <;> (try simp at hc)) | (refine CondK_split (fun hc => ?_) (fun hc => ?_) <;> (try simp only [hc]) <;> (try simp at hc)) | (with_reducible refine And.intro ?_ ?_; (focus ((repeat' (with_reducible refine And.intro ?_ ?_)) <;> first | exact trivial | assumption | (simp; done) | (simp only [List.length_map] at *; omega) | omega | (simp [D.cells, D.ok, D.one, D.pt, D.pt1]; done)))) | (with_reducible intro x hx) | omega) <;> (try simp only [hne', ro_mov, ro_len, ro_slice, acc_real, acc_nl, acc_pure, acc_fz, acc_sz, acc_rows, acc_spare, contP_some, lk_hit, lk_miss, Nat.reduceBEq, put_some, ev_t, lenD, true_and, Bool.and_true, Bool.and_false, Bool.not_false, List.set_cons_zero, Option.map_some]))
  have e5 : (l.take k ++ l.drop (k + 1) ++ l.drop (l.length - 1)).length = l.length := by simp only [List.length_append, List.length_take, List.length_drop]; omega
  have e6 : List.take (l.length - 1) (l.take k ++ l.drop (k + 1) ++ l.drop (l.length - 1)) = l.take k ++ l.drop (k + 1) := List.take_left' (by simp only [List.length_append, List.length_take, List.length_drop]; omega)
  have e7 : List.drop (l.length - 1 + 1) (l.take k ++ l.drop (k + 1) ++ l.drop (l.length - 1)) = [] := List.drop_eq_nil_of_le (by rw [e5]; omega)
  generalize l.take k ++ l.drop (k + 1) ++ l.drop (l.length - 1) = m at e5 e6 e7 ⊢
  refine SliceK_more rfl rfl rfl ⟨rfl, by omega, by omega, by omega⟩ ⟨e5, rfl, by omega⟩ ?_
  have e8 : l.length - (l.length - 1) = 1 := by omega
  simp only [e5, e6, e7, e8, List.replicate_one, ro_nil, ro_clear, ClearK_own, ClearO_some, lk_hit, put_some, put_none, ev_t, Nat.reduceAdd, D.pt1, true_and, and_self, Bool.and_true, List.getElem?_cons_zero, List.length_cons, List.length_nil, List.append_nil, List.all_cons, List.all_nil, List.set_cons_zero, Nat.zero_add, Int.toNat_natCast]
  repeat' ((first | refine Run_seq ?_ | refine Run_skip ?_ | refine Run_block ?_ | refine Run_blk ?_ | refine Run_exit rfl ?_ | refine Run_ret ?_ | refine Run_nil ?_ | refine Run_condK ?_ | refine Run_ops mixed ?_ | refine Run_opsX mixed ?_ | with_reducible refine PostV_open ?_ | with_reducible refine PostG_open ?_ | with_reducible refine PostQ_open ?_ | with_reducible refine ro_callV ?_ | with_reducible refine ro_callVX ?_ | simp (disch := omega) only [w64, wu64, wu32, wu16, wu8, Int.tdiv_eq_ediv_of_nonneg, Int.tmod_eq_emod_of_nonneg] | (with_reducible refine SliceK_own rfl rfl ?_ ?_; (focus ((try simp only [reduceIte, Int.natCast_nonneg, Int.le_refl, List.length_append, List.length_map, Nat.sub_zero]) <;> ((repeat' (with_reducible refine And.intro ?_ ?_)) <;> first | exact trivial | assumption | (simp; done) | (simp only [List.length_map] at *; omega) | omega | (simp [D.cells, D.ok, D.one, D.pt, D.pt1]; done))))) | (refine GuardK_split (fun hc => ?_) (fun hc => ?_) <;> (try simp only [hc]) <;> (try simp at hc)) | (refine CondK_split (fun hc => ?_) (fun hc => ?_) <;> (try simp only [hc]) <;> (try simp at hc)) | (with_reducible refine And.intro ?_ ?_; (focus ((repeat' (with_reducible refine And.intro ?_ ?_)) <;> first | exact trivial | assumption | (simp; done) | (simp only [List.length_map] at *; omega) | omega | (simp [D.cells, D.ok, D.one, D.pt, D.pt1]; done)))) | (with_reducible intro x hx) | omega) <;> (try simp only [ro_nil, ro_mov, lk_hit, lk_miss, Nat.reduceBEq, put_some, ev_t, resK_nil, resK_tmp, ofRes]))
  rw [acc_ne' (rows := l.take k ++ l.drop (k + 1) ++ [zrU]) (by simp)]
  unfold zrU
  refine GcTo_own [0] (by rfl) (by simp) (by simp [keptW, ObKW, ObW, imp_self, pull, pull2, pull1, pull0, idx_hit, pullOb])
end Go.Proofs.Ytapennlmboabeaa
