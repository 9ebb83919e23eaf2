import Derived.Test.YtoleaiaeghbffaaA1
set_option linter.unusedVariables false
set_option linter.unusedSimpArgs false
set_option linter.unnecessarySimpa false
namespace Go.Proofs.Ytoleaiaeghbffaa
open Go Go.Vi



theorem rowsD_len {l : List Dn} : (rowsD l).length = l.length := by simp [rowsD]
theorem rowsD_take {l : List Dn} {k : Nat} : (rowsD l).take k = rowsD (l.take k) := by simp [rowsD]
theorem rowsD_drop {l : List Dn} {k : Nat} : (rowsD l).drop k = rowsD (l.drop k) := by simp [rowsD]
theorem rowsD_sz {l : List Dn} : ∀ r, r ∈ rowsD l → r.length = 3 := fun r hr => by
  obtain ⟨b, _, rfl⟩ := List.mem_map.1 hr
  rfl
theorem rowsD_ne {l : List Dn} (h : l ≠ []) : (rowsD l).isEmpty = false := by cases l <;> simp_all [rowsD]
theorem acc_b {sz : Nat} {pu : Bool} {rows : List (List D)} (h : rows.isEmpty = false) : acc false sz pu rows = acc true sz pu rows := by simp [acc, h]
theorem rowsD_snoc {l : List Dn} {d : Dn} : rowsD l ++ [[D.int IntKind.u32 d.c, D.int IntKind.u64 d.n, D.int IntKind.u64 d.v]] = rowsD (l ++ [d]) := by simp [rowsD, Dn.row]
theorem clone_ne (tg : Bool) (l : List Dn) (hne : l ≠ []) (hl : l.length ≤ 140737488351) : CallG Try.prog 17 [.list none tg (rowsD l)] [] (.own 0 0 l.length l.length 3 none) [acc true 3 true (rowsD l)] := by
  refine callG Try.func17 low17 (by simp [c17]) ?_
  simp only [c17]
  refine Run_nils 0 rfl fun b hb => ?_
  obtain rfl : b = false := by
    cases b with
    | false => rfl
    | true => exact absurd (hb rfl) (by simp [rowsD, hne])
  repeat' ((first | refine Run_seq ?_ | refine Run_skip ?_ | refine Run_block ?_ | refine Run_blk ?_ | refine Run_exit rfl ?_ | refine Run_ret ?_ | refine Run_nil ?_ | refine Run_condK ?_ | refine Run_ops mixed ?_ | refine Run_opsX mixed ?_ | with_reducible refine PostV_open ?_ | with_reducible refine PostG_open ?_ | with_reducible refine PostQ_open ?_ | with_reducible refine ro_callV ?_ | with_reducible refine ro_callVX ?_ | simp (disch := omega) only [w64, wu64, wu32, wu16, wu8, Int.tdiv_eq_ediv_of_nonneg, Int.tmod_eq_emod_of_nonneg] | (with_reducible refine SliceK_own rfl rfl ?_ ?_; (focus ((try simp only [rowsD_len, rowsD_take, rowsD_drop, reduceIte, Int.natCast_nonneg, Int.le_refl, List.length_append, List.length_map, Nat.sub_zero]) <;> ((repeat' (with_reducible refine And.intro ?_ ?_)) <;> first | exact trivial | assumption | (simp; done) | (simp only [List.length_map] at *; omega) | omega | (simp [D.cells, D.ok, D.one, D.pt, D.pt1]; done) | exact rowsD_sz)))) | (refine GuardK_split (fun hc => ?_) (fun hc => ?_) <;> (try simp only [hc]) <;> (try simp at hc)) | (refine CondK_split (fun hc => ?_) (fun hc => ?_) <;> (try simp only [hc]) <;> (try simp at hc)) | (with_reducible refine And.intro ?_ ?_; (focus ((repeat' (with_reducible refine And.intro ?_ ?_)) <;> first | exact trivial | assumption | (simp; done) | (simp only [List.length_map] at *; omega) | omega | (simp [D.cells, D.ok, D.one, D.pt, D.pt1]; done) | exact rowsD_sz))) | (with_reducible intro x hx) | omega) <;> (try simp only [rowsD_len, ro_nil, ro_mov, ro_slit, SlitK_t, ro_eq, ro_app, newsD_list, AppN_some, AppS_nil, eqO_list, CondK_f, contP_some, lk_hit, lk_miss, Nat.reduceBEq, put_some, ev_t, ev_c, argEnv, eqD, eqN, boolD, D.cells, D.ok, D.one, cond_false, true_and, and_self, Bool.not_false, List.length_nil, List.nil_append, List.map_nil, List.all_nil, List.not_mem_nil, false_imp_iff, implies_true, Nat.zero_lt_succ, resK_nil, resK_tmp, ofRes]))
  rw [acc_b (rowsD_ne hne)]
  refine GcTo_own [0] (by rfl) (by simp) (by simp [keptW, ObKW, ObW, imp_self, acc_real, acc_nl, acc_pure, acc_fz, acc_sz, acc_rows, acc_spare, pull, pull2, pull1, pull0, idx_hit, pullOb])
theorem ins_eq {α : Type} {A B : List α} {z r : α} {k n : Nat} (hA : A.length = k) (hk : k < n) :
    List.take (k + 1) (List.take k (A ++ List.replicate (n + 1 - k) z) ++ List.take (n + 1 - k) [r] ++ List.drop (k + 1) (A ++ List.replicate (n + 1 - k) z)) ++ B ++
      List.drop (k + 1 + (n - k)) (List.take k (A ++ List.replicate (n + 1 - k) z) ++ List.take (n + 1 - k) [r] ++ List.drop (k + 1) (A ++ List.replicate (n + 1 - k) z)) = A ++ r :: B := by
  have h1 : List.take k (A ++ List.replicate (n + 1 - k) z) = A := List.take_left' hA
  have h2 : List.take (n + 1 - k) [r] = [r] := List.take_of_length_le (by simp; omega)
  rw [h1, h2, List.take_left' (by simp [hA]), List.drop_eq_nil_of_le (by simp; omega)]
  simp
theorem ins_eq2 {α : Type} {L U : List α} {r : α} {k n : Nat} (hL : L.length = n) (hU : U.length = 1) (hk : k < n) :
    List.take k (List.take (k + 1) (L ++ U) ++ List.drop k L ++ List.drop (k + 1 + (n - k)) (L ++ U)) ++ List.take (n + 1 - k) [r] ++
      List.drop (k + min 1 (n + 1 - k)) (List.take (k + 1) (L ++ U) ++ List.drop k L ++ List.drop (k + 1 + (n - k)) (L ++ U)) = List.take k L ++ r :: List.drop k L := by
  have h1 : List.drop (k + 1 + (n - k)) (L ++ U) = [] := List.drop_eq_nil_of_le (by simp; omega)
  have h2 : List.take (n + 1 - k) [r] = [r] := List.take_of_length_le (by simp; omega)
  have h3 : k + min 1 (n + 1 - k) = k + 1 := by omega
  have h4 : (List.take (k + 1) (L ++ U)).length = k + 1 := by simp; omega
  rw [h1, h2, h3, List.append_nil, List.drop_left' h4, List.take_append_of_le_length (by omega), List.take_take, Nat.min_eq_left (by omega), List.take_append_of_le_length (by omega)]
  simp
theorem rowsD_ins {l : List Dn} {k : Nat} {d : Dn} : rowsD (l.take k) ++ [D.int IntKind.u32 d.c, D.int IntKind.u64 d.n, D.int IntKind.u64 d.v] :: rowsD (l.drop k) = rowsD (l.take k ++ d :: l.drop k) := by simp [rowsD, Dn.row]
theorem rowsD_ins_ne {l : List Dn} {k : Nat} {d : Dn} : (rowsD (l.take k ++ d :: l.drop k)).isEmpty = false := by simp [rowsD]
theorem acc_ne {b pu : Bool} {sz : Nat} {rows : List (List D)} (h : rows.isEmpty = false) : acc b sz pu rows = ⟨true, false, pu, false, sz, rows, none⟩ := by simp [acc, h]
theorem rowsD_one {l : List Dn} : (rowsD l).all (fun r => r.all D.one) = true := by
  simp only [rowsD, List.all_map, List.all_eq_true]
  intro d _
  rfl
theorem rowsD_pt1 {l : List Dn} : (rowsD l).all (fun r => r.all D.pt1) = true := by
  simp only [rowsD, List.all_map, List.all_eq_true]
  intro d _
  rfl
theorem insert_p (l : List Dn) (k : Nat) (d : Dn) (tg : Bool) (nl : Option Bool) (hne : l ≠ []) (hl : l.length ≤ 140737488351) (hk : k ≤ l.length) : CallG Try.prog 18 [.own 0 0 l.length l.length 3 none, .int .i64 k, .list nl tg [d.row]] [acc true 3 true (rowsD l)]
    (.own 0 0 (l.length + 1) (l.length + 1) 3 none) [acc true 3 true (rowsD (l.take k ++ d :: l.drop k))] := by
  refine callG Try.func18 low18 (by simp [c18]) ?_
  simp only [c18, Dn.row]
  have hne' := rowsD_ne hne
  have c1 : ((1 : Int) == 0) = false := rfl
  by_cases hkl : k = l.length
  · subst hkl
    have c2 : ((l.length : Int) == (l.length : Int)) = true := by simp
    repeat' ((first | refine Run_seq ?_ | refine Run_skip ?_ | refine Run_block ?_ | refine Run_blk ?_ | refine Run_exit rfl ?_ | refine Run_ret ?_ | refine Run_nil ?_ | refine Run_condK ?_ | refine Run_ops mixed ?_ | refine Run_opsX mixed ?_ | with_reducible refine PostV_open ?_ | with_reducible refine PostG_open ?_ | with_reducible refine PostQ_open ?_ | with_reducible refine ro_callV ?_ | with_reducible refine ro_callVX ?_ | simp (disch := omega) only [w64, wu64, wu32, wu16, wu8, Int.tdiv_eq_ediv_of_nonneg, Int.tmod_eq_emod_of_nonneg] | (with_reducible refine SliceK_own rfl rfl ?_ ?_; (focus ((try simp only [Int.natCast_nonneg, Int.le_refl]) <;> ((repeat' (with_reducible refine And.intro ?_ ?_)) <;> first | exact trivial | assumption | (simp; done) | (simp only [List.length_map] at *; omega) | omega | (simp [D.cells, D.ok, D.one, D.pt, D.pt1]; done) | exact rowsD_sz)))) | (refine GuardK_split (fun hc => ?_) (fun hc => ?_) <;> (try simp only [hc]) <;> (try simp at hc)) | (refine CondK_split (fun hc => ?_) (fun hc => ?_) <;> (try simp only [hc]) <;> (try simp at hc)) | (with_reducible refine And.intro ?_ ?_; (focus ((repeat' (with_reducible refine And.intro ?_ ?_)) <;> first | exact trivial | assumption | (simp; done) | (simp only [List.length_map] at *; omega) | omega | (simp [D.cells, D.ok, D.one, D.pt, D.pt1]; done) | exact rowsD_sz))) | (with_reducible intro x hx) | omega) <;> (try simp only [rowsD_len, c2, ro_nil, ro_mov, ro_bin, ro_len, ro_slice, ro_app, newsD_list, AppN_some, AppS_own, AppO_acc, CondK_t, CondK_f, contP_some, lk_hit, lk_miss, Nat.reduceBEq, put_some, ev_t, ev_c, argEnv, reduceIte, Nat.reduceAdd, Nat.reduceLeDiff, binD, binInt, lenD, true_and, and_true, and_self, Bool.and_true, List.getElem?_cons_zero, List.length_cons, List.length_nil, List.set_cons_zero, List.not_mem_nil, Option.map_some, Option.map_none, Nat.zero_add, Nat.sub_self, Int.toNat_natCast, Nat.zero_lt_succ, List.mem_cons, or_false, resK_nil, resK_tmp, ofRes]))
    · have e : l.take l.length ++ d :: l.drop l.length = l ++ [d] := by simp
      rw [rowsD_snoc, e]
      refine GcTo_own [0] (by rfl) (by simp) (by simp [keptW, ObKW, ObW, imp_self, acc_real, acc_nl, acc_pure, acc_fz, acc_sz, acc_rows, acc_spare, pull, pull2, pull1, pull0, idx_hit, pullOb])
  · have c2 : ((k : Int) == (l.length : Int)) = false := by simp; omega
    have e3 : ((l.length : Int) + ((1 : Nat) : Int) - (k : Int)).toNat = l.length + 1 - k := by omega
    have c4 : ((k : Int) ≤ (l.length : Int)) = True := by simp; omega
    repeat' ((first | refine Run_seq ?_ | refine Run_skip ?_ | refine Run_block ?_ | refine Run_blk ?_ | refine Run_exit rfl ?_ | refine Run_ret ?_ | refine Run_nil ?_ | refine Run_condK ?_ | refine Run_ops mixed ?_ | refine Run_opsX mixed ?_ | with_reducible refine PostV_open ?_ | with_reducible refine PostG_open ?_ | with_reducible refine PostQ_open ?_ | with_reducible refine ro_callV ?_ | with_reducible refine ro_callVX ?_ | simp (disch := omega) only [w64] | (with_reducible refine SliceK_own rfl rfl ?_ ?_; (focus ((try simp only [Int.natCast_nonneg, Int.le_refl]) <;> ((repeat' (with_reducible refine And.intro ?_ ?_)) <;> first | exact trivial | assumption | (simp; done) | (simp only [List.length_map] at *; omega) | omega | (simp []; done) | exact rowsD_sz)))) | (refine GuardK_split (fun hc => ?_) (fun hc => ?_) <;> (try simp only [hc]) <;> (try simp at hc)) | (refine CondK_split (fun hc => ?_) (fun hc => ?_) <;> (try simp only [hc]) <;> (try simp at hc)) | (with_reducible refine And.intro ?_ ?_; (focus ((repeat' (with_reducible refine And.intro ?_ ?_)) <;> first | exact trivial | assumption | (simp; done) | (simp only [List.length_map] at *; omega) | omega | (simp [D.cells, D.ok, D.one, D.pt, D.pt1]; done) | exact rowsD_sz))) | (with_reducible intro x hx) | omega) <;> (try simp only [rowsD_len, hne', c2, e3, ro_nil, ro_mov, ro_bin, ro_len, ro_slice, ro_appz, AppZ_int, AppS_own, ro_cap, CapK_own, CapO, acc_real, acc_nl, acc_pure, acc_fz, acc_sz, acc_rows, acc_spare, CondK_t, CondK_f, contP_some, lk_hit, lk_miss, Nat.reduceBEq, put_some, ev_t, ev_c, argEnv, reduceIte, Nat.reduceAdd, binD, binInt, lenD, D.pt1, true_and, and_true, and_self, Bool.and_true, Bool.and_false, Bool.not_false, List.getElem?_cons_zero, List.length_cons, List.length_nil, List.all_cons, List.all_nil, List.set_cons_zero, Option.map_some, Option.map_none, Nat.zero_add, Nat.add_zero, Int.toNat_natCast, Nat.zero_lt_succ]))
    · refine AppO_over (c := x) (by omega) ⟨by simp [rowsD_len], by simp only [List.length_replicate]; omega, by simp only [List.length_replicate]; omega⟩ ⟨by simp only [List.length_replicate]; omega, rfl, rfl, by simp only [List.length_replicate]; omega, rfl⟩ ?_
      have e4 : k - 0 + (l.length + 1 - k) = l.length + 1 := by omega
      have e5 : winD 0 (k - 0) l.length (rowsD l) = rowsD (l.take k) := by
        unfold winD
        simp [rowsD, hkl]
      have e6 : min k l.length = k := by omega
      have e7 : min 1 (l.length + 1 - k) = 1 := by omega
      have e8 : winD k (l.length - k) l.length (rowsD l) = rowsD (l.drop k) := by
        unfold winD
        split
        · rename_i h; rw [h.1]; rfl
        · simp only [rowsD_drop, rowsD_take]
          rw [List.take_of_length_le (by simp)]
      have e9 : ((k : Int) + ((1 : Nat) : Int)).toNat = k + 1 := by omega
      have e10 : min (l.length - k) (l.length + 1 - (k + 1)) = l.length - k := by omega
      simp only [e4, List.length_replicate, e5]
      repeat' ((first | refine Run_seq ?_ | refine Run_skip ?_ | refine Run_block ?_ | refine Run_blk ?_ | refine Run_exit rfl ?_ | refine Run_ret ?_ | refine Run_nil ?_ | refine Run_condK ?_ | refine Run_ops mixed ?_ | refine Run_opsX mixed ?_ | with_reducible refine PostV_open ?_ | with_reducible refine PostG_open ?_ | with_reducible refine PostQ_open ?_ | with_reducible refine ro_callV ?_ | with_reducible refine ro_callVX ?_ | simp (disch := omega) only [w64] | (with_reducible refine SliceK_own rfl rfl ?_ ?_; (focus ((try simp only [Int.natCast_nonneg, Int.le_refl]) <;> ((repeat' (with_reducible refine And.intro ?_ ?_)) <;> first | exact trivial | assumption | (simp; done) | (simp only [List.length_map] at *; omega) | omega | (simp [D.cells, D.ok, D.one, D.pt, D.pt1]; done) | exact rowsD_sz)))) | (refine GuardK_split (fun hc => ?_) (fun hc => ?_) <;> (try simp only [hc]) <;> (try simp at hc)) | (refine CondK_split (fun hc => ?_) (fun hc => ?_) <;> (try simp only [hc]) <;> (try simp at hc)) | (with_reducible refine And.intro ?_ ?_; (focus ((repeat' (with_reducible refine And.intro ?_ ?_)) <;> first | exact trivial | assumption | (simp; done) | (simp only [List.length_map] at *; omega) | omega | (simp [D.cells, D.ok, D.one, D.pt, D.pt1]; done) | exact rowsD_sz))) | (with_reducible intro x hx) | omega) <;> (try simp only [rowsD_len, rowsD_take, e6, e7, e8, e9, e10, ro_nil, ro_mov, ro_bin, ro_slice, newsC_list, newsC_own, newsCO_some, ro_copy, CopyK_own, CopyO_some, rx_nil, rx_cons, keepK_nil, contP_some, lk_hit, lk_miss, Nat.reduceBEq, put_some, ev_t, reduceIte, binD, binInt, binStr, true_and, and_true, and_self, Bool.and_true, Bool.true_or, List.getElem?_cons_zero, List.getElem?_cons_succ, List.length_cons, List.length_nil, List.length_append, List.length_take, List.length_drop, List.length_replicate, List.cons_append, List.nil_append, List.set_cons_zero, List.set_cons_succ, List.not_mem_nil, Option.map_some, Option.map_none, Nat.zero_add, Int.toNat_natCast, List.mem_cons, or_false, resK_nil, resK_tmp, ofRes]))
      have e11 : rowsD (List.take (l.length + 1 - (k + 1)) (List.drop k l)) = rowsD (l.drop k) := by rw [List.take_of_length_le (by simp)]
      rw [e11, ins_eq (by rw [rowsD_len, List.length_take]; omega) (by omega), rowsD_ins, acc_ne (rowsD_ins_ne)]
      refine GcTo_reb [1] (by first | (simp [rowsD_len, preW, acc_sz, acc_rows]; done) | (simp [rowsD_len, preW, acc_sz, acc_rows]; omega)) (by simp) (by simp [keptW, ObKW, ObW, imp_self, pull, pull2, pull1, pull0, idx_hit, pullOb])
    · refine SliceK_spare (c := x) rfl rfl rfl ⟨rfl, by omega, by omega, by omega⟩ ⟨by simp [rowsD_len], rfl, rfl, by omega, rfl, by omega⟩ ?_
      have e4 : ((l.length : Int) + ((1 : Nat) : Int)).toNat = l.length + 1 := by omega
      have e9 : ((k : Int) + ((1 : Nat) : Int)).toNat = k + 1 := by omega
      have f1 : l.length + 1 - l.length = 1 := by omega
      obtain ⟨U, hU⟩ : ∃ U, List.replicate 1 [D.undef, D.undef, D.undef] = U := ⟨_, rfl⟩
      have hUl : U.length = 1 := by rw [← hU]; rfl
      have f2 : winD k (l.length + 1 - k) (l.length + 1) (rowsD l ++ U) = rowsD (l.drop k) ++ U := by
        unfold winD
        split
        · rename_i h; rw [h.1]; rfl
        · rw [List.drop_append_of_le_length (by rw [rowsD_len]; omega), rowsD_drop, List.take_of_length_le (by simp [rowsD_len, hUl]; omega)]
      have f3 : List.take (l.length + 1 - (k + 1)) (rowsD (l.drop k) ++ U) = rowsD (l.drop k) := List.take_left' (by simp [rowsD_len])
      have f6 : (∀ r ∈ rowsD (l.drop k) ++ U, r.length = 3) = True := by
        rw [eq_iff_iff]
        refine ⟨fun _ => trivial, fun _ r hr => ?_⟩
        rcases List.mem_append.1 hr with h | h
        · exact rowsD_sz r h
        · rw [← hU] at h; rw [List.eq_of_mem_replicate h]; rfl
      have f4 : (rowsD (l.drop k)).all (fun r => r.all D.one) = true := rowsD_one
      have f5 : min (l.length - k + 1) (l.length + 1 - (k + 1)) = l.length - k := by omega
      have e10 : List.replicate 3 D.undef = [D.undef, D.undef, D.undef] := rfl
      simp only [e4, Nat.sub_zero, e10]
      repeat' ((first | refine Run_seq ?_ | refine Run_skip ?_ | refine Run_block ?_ | refine Run_blk ?_ | refine Run_exit rfl ?_ | refine Run_nil ?_ | refine Run_condK ?_ | refine Run_ops mixed ?_ | refine Run_opsX mixed ?_ | with_reducible refine PostV_open ?_ | with_reducible refine PostG_open ?_ | with_reducible refine PostQ_open ?_ | with_reducible refine ro_callV ?_ | with_reducible refine ro_callVX ?_ | simp (disch := omega) only [w64] | (with_reducible refine SliceK_own rfl rfl ?_ ?_; (focus ((try simp only [Int.natCast_nonneg, Int.le_refl]) <;> ((repeat' (with_reducible refine And.intro ?_ ?_)) <;> first | exact trivial | assumption | (simp; done) | (simp only [List.length_map] at *; omega) | omega | (simp [D.cells, D.ok, D.one, D.pt, D.pt1]; done) | exact rowsD_sz)))) | (refine GuardK_split (fun hc => ?_) (fun hc => ?_) <;> (try simp only [hc]) <;> (try simp at hc)) | (refine CondK_split (fun hc => ?_) (fun hc => ?_) <;> (try simp only [hc]) <;> (try simp at hc)) | (with_reducible refine And.intro ?_ ?_; (focus ((repeat' (with_reducible refine And.intro ?_ ?_)) <;> first | exact trivial | assumption | (simp; done) | (simp only [List.length_map] at *; omega) | omega | (simp [D.cells, D.ok, D.one, D.pt, D.pt1]; done) | exact rowsD_sz))) | (with_reducible intro x hx) | omega) <;> (try simp only [rowsD_len, e9, f1, f2, f3, f4, f5, f6, hUl, hU, Nat.sub_zero, ro_nil, ro_mov, ro_bin, ro_un, ro_slice, newsC_list, newsC_own, newsCO_some, ro_ovl, OvlK_own, OvlO_some, ro_copy, CopyK_own, CopyO_some, rx_nil, rx_cons, keepK_nil, CondK_t, contP_some, lk_hit, lk_miss, Nat.reduceBEq, put_some, ev_t, reduceIte, binD, binInt, binStr, okD, unD, true_and, and_true, and_self, Bool.and_true, Bool.and_false, Bool.not_false, Bool.true_or, Bool.or_true, List.getElem?_cons_zero, List.length_cons, List.length_nil, List.length_append, List.length_take, List.length_drop, List.set_cons_zero, List.not_mem_nil, ne_eq, Option.map_some, Option.map_none, Nat.zero_add, Nat.add_zero, Int.toNat_natCast, Nat.zero_lt_succ, List.mem_cons, or_false]))
      have e11 : rowsD (l.drop k) = List.drop k (rowsD l) := rowsD_drop.symm
      rw [e11, ins_eq2 rowsD_len hUl (by omega), rowsD_take, rowsD_drop, rowsD_ins, acc_ne (rowsD_ins_ne)]
      refine Run_ent (Ent_pure 0 rfl rfl rowsD_pt1) ?_
      repeat' ((first | refine Run_seq ?_ | refine Run_skip ?_ | refine Run_block ?_ | refine Run_blk ?_ | refine Run_exit rfl ?_ | refine Run_ret ?_ | refine Run_nil ?_ | refine Run_condK ?_ | refine Run_ops mixed ?_ | refine Run_opsX mixed ?_ | with_reducible refine PostV_open ?_ | with_reducible refine PostG_open ?_ | with_reducible refine PostQ_open ?_ | with_reducible refine ro_callV ?_ | with_reducible refine ro_callVX ?_ | simp (disch := omega) only [w64, wu64, wu32, wu16, wu8, Int.tdiv_eq_ediv_of_nonneg, Int.tmod_eq_emod_of_nonneg] | (with_reducible refine SliceK_own rfl rfl ?_ ?_; (focus ((try simp only [rowsD_len, rowsD_take, rowsD_drop, reduceIte, Int.natCast_nonneg, Int.le_refl, List.length_append, List.length_map, Nat.sub_zero]) <;> ((repeat' (with_reducible refine And.intro ?_ ?_)) <;> first | exact trivial | assumption | (simp; done) | (simp only [List.length_map] at *; omega) | omega | (simp [D.cells, D.ok, D.one, D.pt, D.pt1]; done) | exact rowsD_sz)))) | (refine GuardK_split (fun hc => ?_) (fun hc => ?_) <;> (try simp only [hc]) <;> (try simp at hc)) | (refine CondK_split (fun hc => ?_) (fun hc => ?_) <;> (try simp only [hc]) <;> (try simp at hc)) | (with_reducible refine And.intro ?_ ?_; (focus ((repeat' (with_reducible refine And.intro ?_ ?_)) <;> first | exact trivial | assumption | (simp; done) | (simp only [List.length_map] at *; omega) | omega | (simp [D.cells, D.ok, D.one, D.pt, D.pt1]; done) | exact rowsD_sz))) | (with_reducible intro x hx) | omega) <;> (try simp only [lk_hit, List.set_cons_zero, resK_nil, resK_tmp, ofRes]))
      refine GcTo_own [0] (by rfl) (by simp) (by simp [keptW, ObKW, ObW, or_true, imp_self, pull, pull2, pull1, pull0, idx_hit, pullOb])
end Go.Proofs.Ytoleaiaeghbffaa
