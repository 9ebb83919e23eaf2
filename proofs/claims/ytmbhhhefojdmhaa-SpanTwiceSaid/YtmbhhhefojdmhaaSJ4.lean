import Derived.Test.YtmbhhhefojdmhaaSJ3
import Derived.Test.YtmbhhhefojdmhaaXM5
set_option linter.unusedVariables false
set_option linter.unusedSimpArgs false
set_option linter.unnecessarySimpa false
namespace Go.Proofs.Ytmbhhhefojdmhaa
open Go Go.Vi


noncomputable def frm (l : List Sp) : List Sp := formS (sortS (fullS l))
theorem full_ne {l : List Sp} : ∀ s ∈ fullS l, s.1 < s.2 := fun s hs => by
  have := (List.mem_filter.1 hs).2
  simp [emptyS] at this; omega
theorem hasS_iff_mem {l k : List Sp} (h : ∀ s, s ∈ l ↔ s ∈ k) (m : Int) : hasS l m = hasS k m := by
  rw [Bool.eq_iff_iff, hasS_iff, hasS_iff]
  simp [h]
theorem full_has (l : List Sp) (m : Int) : hasS (fullS l) m = hasS l m := by
  rw [Bool.eq_iff_iff, hasS_iff, hasS_iff]
  constructor
  · rintro ⟨s, hs, h⟩; exact ⟨s, (List.mem_filter.1 hs).1, h⟩
  · rintro ⟨s, hs, h1, h2⟩; exact ⟨s, List.mem_filter.2 ⟨hs, by simp [emptyS]; omega⟩, h1, h2⟩
theorem frm_spec (l : List Sp) : Vi.Can (frm l) ∧ ∀ m, hasS (frm l) m = hasS l m := by
  obtain ⟨h1, h2, _⟩ := formS_spec (sortS (fullS l)) (sortS_sorted _) (fun s hs => full_ne s ((sortS_perm _).mem_iff.1 hs))
  refine ⟨h1, fun m => ?_⟩
  rw [frm, h2, hasS_iff_mem (fun s => (sortS_perm (fullS l)).mem_iff), full_has]
theorem formS_len (l : List Sp) : (formS l).length ≤ l.length := by
  have key : ∀ (l out : List Sp), (l.foldl stepF out).length ≤ out.length + l.length := by
    intro l
    induction l with
    | nil => intro out; simp
    | cons s l ih =>
      intro out
      have h1 := ih (stepF out s)
      have h2 : (stepF out s).length ≤ out.length + 1 := by
        unfold stepF
        split
        · rename_i c hc
          split
          · have : out ≠ [] := by rintro rfl; simp at hc
            have := List.length_pos_iff.2 this
            simp only [List.length_append, List.length_dropLast, List.length_cons, List.length_nil]; omega
          · simp
        · simp
      simp only [List.foldl_cons, List.length_cons]; omega
  simpa [formS] using key l []
theorem frm_len (l : List Sp) : (frm l).length ≤ l.length := by
  have h1 := formS_len (sortS (fullS l))
  have h2 := sortS_len (fullS l)
  have h3 : (fullS l).length ≤ l.length := List.length_filter_le ..
  unfold frm; omega
abbrev Fit (x : Int) : Prop := -9223372036854775808 ≤ x ∧ x ≤ 9223372036854775807
def FitS (l : List Sp) : Prop := ∀ s ∈ l, Fit s.1 ∧ Fit s.2
theorem FitS.has {l : List Sp} (h : FitS l) {m : Int} (hm : hasS l m = true) : -9223372036854775808 ≤ m ∧ m < 9223372036854775807 := by
  obtain ⟨s, hs, h1, h2⟩ := hasS_iff.1 hm
  have := h s hs
  unfold Fit at this
  omega
theorem FitS.can {l : List Sp} (hc : Vi.Can l) (h : ∀ m, hasS l m = true → -9223372036854775808 ≤ m ∧ m < 9223372036854775807) : FitS l := fun s hs => by
  have h1 := can_bound hc h s hs
  have h2 := hc.2 s hs
  unfold Fit; omega
theorem FitS.frm {l : List Sp} (h : FitS l) : FitS (frm l) := FitS.can (frm_spec l).1 fun m hm => h.has (by rw [← (frm_spec l).2]; exact hm)
theorem FitS.app {a b : List Sp} (ha : FitS a) (hb : FitS b) : FitS (a ++ b) := fun s hs => by
  rcases List.mem_append.1 hs with h | h
  · exact ha s h
  · exact hb s h
theorem frmP (l : List Sp) (hl : l.length ≤ 400000000000) : PureD Try.prog 9 [LS l] (LS (frm l)) := form_p l hl
instance (l : List Sp) : Decidable (Vi.Can l) := by unfold Vi.Can; infer_instance
theorem can_snoc {o : List Sp} {s : Sp} (h : Vi.Can o) (h1 : ∀ c, o.getLast? = some c → c.2 < s.1) (h2 : s.1 < s.2) : Vi.Can (o ++ [s]) := by
  rcases List.eq_nil_or_concat o with rfl | ⟨o, c, rfl⟩
  · exact ⟨by simp, by simpa using h2⟩
  · rw [List.concat_eq_append] at h h1 ⊢
    have hc := h1 c (by simp)
    refine ⟨?_, ?_⟩
    · rw [List.pairwise_append]
      refine ⟨h.1, by simp, fun x hx y hy => ?_⟩
      obtain rfl : y = s := by simpa using hy
      rcases List.mem_append.1 hx with hx | hx
      · have h3 := (List.pairwise_append.1 h.1).2.2 x hx c (by simp)
        have h4 := h.2 c (by simp)
        omega
      · obtain rfl : x = c := by simpa using hx
        exact hc
    · intro x hx
      rcases List.mem_append.1 hx with hx | hx
      · exact h.2 x hx
      · obtain rfl : x = s := by simpa using hx
        exact h2
set_option maxHeartbeats 1000000 in
theorem may_p (l : List Sp) (hl : l.length ≤ 400000000000) : PureD Try.prog 12 [LS l] (.bool (decide (Vi.Can l))) := by
  refine pureV Try.func12 low12 (by simp [c12]) ?_
  simp only [c12]
  repeat' ((first | refine Run_seq ?_ | refine Run_skip ?_ | refine Run_block ?_ | refine Run_blk ?_ | refine Run_exit rfl ?_ | refine Run_ret ?_ | refine Run_nil ?_ | refine Run_condK ?_ | refine Run_ops mixed ?_ | refine Run_opsX mixed ?_ | with_reducible refine PostV_open ?_ | with_reducible refine PostG_open ?_ | with_reducible refine PostQ_open ?_ | with_reducible refine ro_callV ?_ | with_reducible refine ro_callVX ?_ | simp (disch := omega) only [w64, wu64, wu32, wu16, wu8, Int.tdiv_eq_ediv_of_nonneg, Int.tmod_eq_emod_of_nonneg] | (with_reducible refine SliceK_own rfl rfl ?_ ?_; (focus ((try simp only [rowsS_len, reduceIte, Int.natCast_nonneg, Int.le_refl, List.length_append, List.length_map, Nat.sub_zero]) <;> ((repeat' (with_reducible refine And.intro ?_ ?_)) <;> first | exact trivial | assumption | (simp; done) | (simp only [List.length_map] at *; omega) | omega | (simp [D.cells, D.ok, D.one, D.pt, D.pt1]; done))))) | (refine GuardK_split (fun hc => ?_) (fun hc => ?_) <;> (try simp only [hc]) <;> (try simp at hc)) | (refine CondK_split (fun hc => ?_) (fun hc => ?_) <;> (try simp only [hc]) <;> (try simp at hc)) | (with_reducible refine And.intro ?_ ?_; (focus ((repeat' (with_reducible refine And.intro ?_ ?_)) <;> first | exact trivial | assumption | (simp; done) | (simp only [List.length_map] at *; omega) | omega | (simp [D.cells, D.ok, D.one, D.pt, D.pt1]; done)))) | (with_reducible intro x hx) | omega) <;> (try simp only [rowsS_len, ro_nil, ro_mov, ro_len, contP_some, lk_hit, lk_miss, Nat.reduceBEq, put_some, ev_t, ev_c, argEnv, lenD, true_and]))
  refine Run_loop (ι := {i : Nat // i ≤ l.length ∧ Vi.Can (l.take i)}) (fun i => ([(0, LS l), (5, LS l), (6, .int .i64 l.length), (7, .int .i64 i.1)], [])) (fun i => l.length - i.1) ⟨0, by simp, by simp [Vi.Can]⟩ ?_ ?_
  · refine Ent_gc [] (by rfl) (by simp) (by simp [keptW]) (by simp [lk_hit, lk_miss, D.pt0, viewS_own', pull, pull2, pull1, pull0, idx_nil, gate, List.mem_cons, or_false, view0])
  rintro ⟨i, hi, hc⟩ hk
  dsimp only at hk ⊢
  by_cases hlt : i < l.length
  · have c1 : ((i : Int) < (l.length : Int)) = True := by simp; omega
    obtain ⟨s, hs⟩ : ∃ s, l[i]? = some s := ⟨_, List.getElem?_eq_getElem hlt⟩
    have hr := rowsS_get hs
    have hmem := List.mem_of_getElem? hs
    have htk : l.take (i + 1) = l.take i ++ [s] := by rw [List.take_add_one, hs]; rfl
    by_cases he : s.1 < s.2
    · have c2 : (s.1 ≥ s.2) = False := by simp; omega
      cases i with
      | zero =>
        have hn : Vi.Can (l.take (0 + 1)) := by rw [htk]; exact can_snoc hc (by simp) he
        repeat' ((first | refine Run_seq ?_ | refine Run_skip ?_ | refine Run_block ?_ | refine Run_blk ?_ | refine Run_exit rfl ?_ | refine Run_ret ?_ | refine Run_nil ?_ | refine Run_condK ?_ | refine Run_ops mixed ?_ | refine Run_opsX mixed ?_ | with_reducible refine PostV_open ?_ | with_reducible refine PostG_open ?_ | with_reducible refine PostQ_open ?_ | with_reducible refine ro_callV ?_ | with_reducible refine ro_callVX ?_ | simp (disch := omega) only [w64] | (with_reducible refine SliceK_own rfl rfl ?_ ?_; (focus ((try simp only [rowsS_len, reduceIte, Int.natCast_nonneg, Int.le_refl, List.length_append, List.length_map, Nat.sub_zero]) <;> ((repeat' (with_reducible refine And.intro ?_ ?_)) <;> first | exact trivial | assumption | (simp; done) | (simp only [List.length_map] at *; omega) | omega | (simp [D.cells, D.ok, D.one, D.pt, D.pt1]; done))))) | (refine GuardK_split (fun hc => ?_) (fun hc => ?_) <;> (try simp only [hc]) <;> (try simp at hc)) | (refine CondK_split (fun hc => ?_) (fun hc => ?_) <;> (try simp only [hc]) <;> (try simp at hc)) | (with_reducible refine And.intro ?_ ?_; (focus ((repeat' (with_reducible refine And.intro ?_ ?_)) <;> first | exact trivial | assumption | (simp; done) | (simp only [List.length_map] at *; omega) | omega | (simp [D.cells, D.ok, D.one, D.pt, D.pt1]; done)))) | (with_reducible intro x hx) | omega) <;> (try simp only [rowsS_len, c1, hr, c2, LoadR_some, IaddrR_some, ro_nil, ro_mov, ro_pick, ro_bin, ro_faddr, ro_load, LoadK_elt, LoadK_ptr, LoadO_some, LoadR_some, ro_alloc, ro_store, StoreK_ptr, StoreO_some, StoreR_some, ro_iaddr, IaddrK_list, IaddrR_some, rx_nil, rx_cons, keepK_nil, ro_guard, GuardK_ff, GuardK_ft, CondK_t, CondK_f, contP_some, lk_hit, lk_miss, Nat.reduceBEq, put_some, put_none, ev_t, ev_c, reduceIte, Nat.reduceAdd, reduceCtorEq, binD, binInt, binStr, pickD, faddrD, loadD, splice, D.cells, D.ok, D.one, D.pt1, cond_false, true_and, and_self, Bool.and_true, List.getElem?_cons_zero, List.getElem?_cons_succ, List.length_cons, List.length_nil, List.take_succ_cons, List.take_zero, List.take_nil, List.drop_succ_cons, List.drop_zero, List.drop_nil, List.nil_append, List.append_nil, List.all_cons, List.all_nil, List.set_cons_zero, ne_eq, not_false_eq_true, Nat.zero_add, Nat.add_zero, Int.toNat_natCast, decide_true, decide_false, Nat.le_refl, Int.natCast_nonneg, Nat.lt_add_one]))
        refine hk ⟨0 + 1, by omega, hn⟩ _ _ (by dsimp only; omega) ?_
        dsimp only
        refine Ent_gc [] (by rfl) (by simp) (by simp [keptW]) (by simp [lk_hit, lk_miss, D.pt0, viewS_own', pull, pull2, pull1, pull0, idx_nil, gate, List.mem_cons, or_false, view0])
      | succ j =>
        obtain ⟨c, hcg⟩ : ∃ c, l[j]? = some c := ⟨_, List.getElem?_eq_getElem (by omega)⟩
        have hrc := rowsS_get hcg
        have hlast : (l.take (j + 1)).getLast? = some c := by
          have : l.take (j + 1) = l.take j ++ [c] := by rw [List.take_add_one, hcg]; rfl
          rw [this]; simp
        have c3 : (((j + 1 : Nat) : Int) > 0) = True := by rw [eq_iff_iff]; exact ⟨fun _ => trivial, fun _ => by omega⟩
        have c4 : (((j + 1 : Nat) : Int) - 1) = (j : Int) := by omega
        by_cases h5 : c.2 < s.1
        · have c5 : (c.2 ≥ s.1) = False := by simp; omega
          have hn : Vi.Can (l.take (j + 1 + 1)) := by
            rw [htk]
            refine can_snoc hc (fun d hd => ?_) he
            rw [hlast] at hd
            cases hd
            exact h5
          repeat' ((first | refine Run_seq ?_ | refine Run_skip ?_ | refine Run_block ?_ | refine Run_blk ?_ | refine Run_exit rfl ?_ | refine Run_ret ?_ | refine Run_nil ?_ | refine Run_condK ?_ | refine Run_ops mixed ?_ | refine Run_opsX mixed ?_ | with_reducible refine PostV_open ?_ | with_reducible refine PostG_open ?_ | with_reducible refine PostQ_open ?_ | with_reducible refine ro_callV ?_ | with_reducible refine ro_callVX ?_ | simp (disch := omega) only [w64] | (with_reducible refine SliceK_own rfl rfl ?_ ?_; (focus ((try simp only [rowsS_len, reduceIte, Int.natCast_nonneg, Int.le_refl, List.length_append, List.length_map, Nat.sub_zero]) <;> ((repeat' (with_reducible refine And.intro ?_ ?_)) <;> first | exact trivial | assumption | (simp; done) | (simp only [List.length_map] at *; omega) | omega | (simp [D.cells, D.ok, D.one, D.pt, D.pt1]; done))))) | (refine GuardK_split (fun hc => ?_) (fun hc => ?_) <;> (try simp only [hc]) <;> (try simp at hc)) | (refine CondK_split (fun hc => ?_) (fun hc => ?_) <;> (try simp only [hc]) <;> (try simp at hc)) | (with_reducible refine And.intro ?_ ?_; (focus ((repeat' (with_reducible refine And.intro ?_ ?_)) <;> first | exact trivial | assumption | (simp; done) | (simp only [List.length_map] at *; omega) | omega | (simp [D.cells, D.ok, D.one, D.pt, D.pt1]; done)))) | (with_reducible intro x hx) | omega) <;> (try simp only [rowsS_len, c1, hr, c2, c3, c4, hrc, c5, LoadR_some, IaddrR_some, ro_nil, ro_mov, ro_pick, ro_bin, ro_faddr, ro_load, LoadK_elt, LoadK_ptr, LoadO_some, LoadR_some, ro_alloc, ro_store, StoreK_ptr, StoreO_some, StoreR_some, ro_iaddr, IaddrK_list, IaddrR_some, rx_nil, rx_cons, keepK_nil, ro_guard, GuardK_tt, GuardK_ff, CondK_t, CondK_f, contP_some, lk_hit, lk_miss, Nat.reduceBEq, put_some, put_none, ev_t, ev_c, reduceIte, Nat.reduceAdd, reduceCtorEq, binD, binInt, binStr, pickD, faddrD, loadD, splice, D.cells, D.ok, D.one, D.pt1, cond_true, cond_false, true_and, and_self, Bool.and_true, List.getElem?_cons_zero, List.getElem?_cons_succ, List.length_cons, List.length_nil, List.take_succ_cons, List.take_zero, List.take_nil, List.drop_succ_cons, List.drop_zero, List.drop_nil, List.nil_append, List.append_nil, List.all_cons, List.all_nil, List.set_cons_zero, ne_eq, not_false_eq_true, Nat.zero_add, Nat.add_zero, Int.toNat_natCast, decide_true, decide_false, Nat.le_refl, Int.natCast_nonneg, Nat.lt_add_one]))
          refine hk ⟨j + 1 + 1, by omega, hn⟩ _ _ (by dsimp only; omega) ?_
          dsimp only
          refine Ent_gc [] (by rfl) (by simp) (by simp [keptW]) (by simp [lk_hit, lk_miss, D.pt0, viewS_own', pull, pull2, pull1, pull0, idx_nil, gate, List.mem_cons, or_false, view0])
        · have c5 : (c.2 ≥ s.1) = True := by simp; omega
          have hno : decide (Vi.Can l) = false := by
            rw [decide_eq_false_iff_not]
            intro hh
            have := (List.pairwise_iff_getElem.1 hh.1) j (j + 1) (by omega) hlt (by omega)
            rw [List.getElem?_eq_getElem (by omega)] at hcg hs
            rw [Option.some.inj hcg, Option.some.inj hs] at this
            exact h5 this
          rw [hno]
          repeat' ((first | refine Run_seq ?_ | refine Run_skip ?_ | refine Run_block ?_ | refine Run_blk ?_ | refine Run_exit rfl ?_ | refine Run_ret ?_ | refine Run_nil ?_ | refine Run_condK ?_ | refine Run_ops mixed ?_ | refine Run_opsX mixed ?_ | with_reducible refine PostV_open ?_ | with_reducible refine PostG_open ?_ | with_reducible refine PostQ_open ?_ | with_reducible refine ro_callV ?_ | with_reducible refine ro_callVX ?_ | simp (disch := omega) only [w64] | (with_reducible refine SliceK_own rfl rfl ?_ ?_; (focus ((try simp only [rowsS_len, reduceIte, Int.natCast_nonneg, Int.le_refl, List.length_append, List.length_map, Nat.sub_zero]) <;> ((repeat' (with_reducible refine And.intro ?_ ?_)) <;> first | exact trivial | assumption | (simp; done) | (simp only [List.length_map] at *; omega) | omega | (simp [D.cells, D.ok, D.one, D.pt, D.pt1]; done))))) | (refine GuardK_split (fun hc => ?_) (fun hc => ?_) <;> (try simp only [hc]) <;> (try simp at hc)) | (refine CondK_split (fun hc => ?_) (fun hc => ?_) <;> (try simp only [hc]) <;> (try simp at hc)) | (with_reducible refine And.intro ?_ ?_; (focus ((repeat' (with_reducible refine And.intro ?_ ?_)) <;> first | exact trivial | assumption | (simp; done) | (simp only [List.length_map] at *; omega) | omega | (simp [D.cells, D.ok, D.one, D.pt, D.pt1]; done)))) | (with_reducible intro x hx) | omega) <;> (try simp only [rowsS_len, c1, hr, c2, c3, c4, hrc, c5, LoadR_some, IaddrR_some, ro_nil, ro_mov, ro_pick, ro_bin, ro_faddr, ro_load, LoadK_elt, LoadK_ptr, LoadO_some, LoadR_some, ro_alloc, ro_store, StoreK_ptr, StoreO_some, StoreR_some, ro_iaddr, IaddrK_list, IaddrR_some, viewS_own', rx_nil, rx_cons, keepK_nil, ro_guard, GuardK_tt, GuardK_ff, CondK_t, contP_some, lk_hit, lk_miss, Nat.reduceBEq, put_some, put_none, ev_t, ev_c, reduceIte, Nat.reduceAdd, reduceCtorEq, binD, binInt, binStr, pickD, faddrD, loadD, splice, D.cells, D.ok, D.one, D.pt1, D.pt0, D.norm1, cond_true, cond_false, true_and, and_self, Bool.and_true, List.getElem?_cons_zero, List.getElem?_cons_succ, List.length_cons, List.length_nil, List.take_succ_cons, List.take_zero, List.take_nil, List.drop_succ_cons, List.drop_zero, List.drop_nil, List.nil_append, List.append_nil, List.all_cons, List.all_nil, List.set_cons_zero, ne_eq, not_false_eq_true, Nat.zero_add, Nat.add_zero, Int.toNat_natCast, decide_true, decide_false, Nat.le_refl, Int.natCast_nonneg, Nat.lt_add_one, view, view2, view1, view0, resK_nil, resK_tmp, ofRes]))
    · have c2 : (s.1 ≥ s.2) = True := by simp; omega
      have hno : decide (Vi.Can l) = false := by
        rw [decide_eq_false_iff_not]
        exact fun hh => he (hh.2 s hmem)
      rw [hno]
      repeat' ((first | refine Run_seq ?_ | refine Run_skip ?_ | refine Run_block ?_ | refine Run_blk ?_ | refine Run_exit rfl ?_ | refine Run_ret ?_ | refine Run_nil ?_ | refine Run_condK ?_ | refine Run_ops mixed ?_ | refine Run_opsX mixed ?_ | with_reducible refine PostV_open ?_ | with_reducible refine PostG_open ?_ | with_reducible refine PostQ_open ?_ | with_reducible refine ro_callV ?_ | with_reducible refine ro_callVX ?_ | simp (disch := omega) only [w64, wu64, wu32, wu16, wu8, Int.tdiv_eq_ediv_of_nonneg, Int.tmod_eq_emod_of_nonneg] | (with_reducible refine SliceK_own rfl rfl ?_ ?_; (focus ((try simp only [rowsS_len, reduceIte, Int.natCast_nonneg, Int.le_refl, List.length_append, List.length_map, Nat.sub_zero]) <;> ((repeat' (with_reducible refine And.intro ?_ ?_)) <;> first | exact trivial | assumption | (simp; done) | (simp only [List.length_map] at *; omega) | omega | (simp [D.cells, D.ok, D.one, D.pt, D.pt1]; done))))) | (refine GuardK_split (fun hc => ?_) (fun hc => ?_) <;> (try simp only [hc]) <;> (try simp at hc)) | (refine CondK_split (fun hc => ?_) (fun hc => ?_) <;> (try simp only [hc]) <;> (try simp at hc)) | (with_reducible refine And.intro ?_ ?_; (focus ((repeat' (with_reducible refine And.intro ?_ ?_)) <;> first | exact trivial | assumption | (simp; done) | (simp only [List.length_map] at *; omega) | omega | (simp [D.cells, D.ok, D.one, D.pt, D.pt1]; done)))) | (with_reducible intro x hx) | omega) <;> (try simp only [rowsS_len, c1, hr, c2, LoadR_some, IaddrR_some, ro_nil, ro_mov, ro_pick, ro_bin, ro_faddr, ro_load, LoadK_elt, LoadK_ptr, LoadO_some, LoadR_some, ro_alloc, ro_store, StoreK_ptr, StoreO_some, StoreR_some, ro_iaddr, IaddrK_list, IaddrR_some, viewS_own', rx_nil, rx_cons, keepK_nil, ro_guard, GuardK_no, GuardK_tf, CondK_t, contP_some, lk_hit, lk_miss, Nat.reduceBEq, put_some, put_none, ev_t, ev_c, reduceIte, Nat.reduceAdd, reduceCtorEq, binD, binInt, binStr, pickD, faddrD, loadD, splice, D.cells, D.ok, D.one, D.pt1, D.pt0, D.norm1, cond_true, true_and, and_self, Bool.and_true, List.getElem?_cons_zero, List.getElem?_cons_succ, List.length_cons, List.length_nil, List.take_succ_cons, List.take_zero, List.take_nil, List.drop_succ_cons, List.drop_zero, List.drop_nil, List.nil_append, List.append_nil, List.all_cons, List.all_nil, List.set_cons_zero, ne_eq, not_false_eq_true, Nat.zero_add, Nat.add_zero, Int.toNat_natCast, decide_true, Nat.le_refl, Int.natCast_nonneg, Nat.lt_add_one, view, view2, view1, view0, resK_nil, resK_tmp, ofRes]))
  · have c1 : ((i : Int) < (l.length : Int)) = False := by simp; omega
    obtain rfl : i = l.length := by omega
    rw [List.take_length] at hc
    have hy : decide (Vi.Can l) = true := by simpa using hc
    rw [hy]
    repeat' ((first | refine Run_seq ?_ | refine Run_skip ?_ | refine Run_block ?_ | refine Run_blk ?_ | refine Run_exit rfl ?_ | refine Run_ret ?_ | refine Run_nil ?_ | refine Run_condK ?_ | refine Run_ops mixed ?_ | refine Run_opsX mixed ?_ | with_reducible refine PostV_open ?_ | with_reducible refine PostG_open ?_ | with_reducible refine PostQ_open ?_ | with_reducible refine ro_callV ?_ | with_reducible refine ro_callVX ?_ | simp (disch := omega) only [w64, wu64, wu32, wu16, wu8, Int.tdiv_eq_ediv_of_nonneg, Int.tmod_eq_emod_of_nonneg] | (with_reducible refine SliceK_own rfl rfl ?_ ?_; (focus ((try simp only [rowsS_len, reduceIte, Int.natCast_nonneg, Int.le_refl, List.length_append, List.length_map, Nat.sub_zero]) <;> ((repeat' (with_reducible refine And.intro ?_ ?_)) <;> first | exact trivial | assumption | (simp; done) | (simp only [List.length_map] at *; omega) | omega | (simp [D.cells, D.ok, D.one, D.pt, D.pt1]; done))))) | (refine GuardK_split (fun hc => ?_) (fun hc => ?_) <;> (try simp only [hc]) <;> (try simp at hc)) | (refine CondK_split (fun hc => ?_) (fun hc => ?_) <;> (try simp only [hc]) <;> (try simp at hc)) | (with_reducible refine And.intro ?_ ?_; (focus ((repeat' (with_reducible refine And.intro ?_ ?_)) <;> first | exact trivial | assumption | (simp; done) | (simp only [List.length_map] at *; omega) | omega | (simp [D.cells, D.ok, D.one, D.pt, D.pt1]; done)))) | (with_reducible intro x hx) | omega) <;> (try simp only [c1, ro_nil, ro_mov, ro_bin, viewS_own', CondK_f, contP_some, lk_hit, lk_miss, Nat.reduceBEq, put_some, ev_t, ev_c, reduceIte, binD, binInt, D.pt0, D.norm1, true_and, List.getElem?_nil, decide_false, view, view2, view1, view0, resK_nil, resK_tmp, ofRes]))
theorem less_p (x p : Int) (hp : 0 ≤ p) (hx : -9223372036854775808 ≤ x - p) (hm : x ≤ 9223372036854775807) (hp2 : p ≤ 9223372036854775807) : PureD Try.prog 31 [.int .i64 x, .int .i64 p] (.int .i64 (x - p)) := by
  refine pureV Try.func31 low31 (by simp [c31]) ?_
  simp only [c31]
  have c1 : (x < -9223372036854775808 + p) = False := by simp; omega
  repeat' ((first | refine Run_seq ?_ | refine Run_skip ?_ | refine Run_block ?_ | refine Run_blk ?_ | refine Run_exit rfl ?_ | refine Run_ret ?_ | refine Run_nil ?_ | refine Run_condK ?_ | refine Run_ops mixed ?_ | refine Run_opsX mixed ?_ | with_reducible refine PostV_open ?_ | with_reducible refine PostG_open ?_ | with_reducible refine PostQ_open ?_ | with_reducible refine ro_callV ?_ | with_reducible refine ro_callVX ?_ | simp (disch := omega) only [w64] | (with_reducible refine SliceK_own rfl rfl ?_ ?_; (focus ((try simp only [rowsS_len, reduceIte, Int.natCast_nonneg, Int.le_refl, List.length_append, List.length_map, Nat.sub_zero]) <;> ((repeat' (with_reducible refine And.intro ?_ ?_)) <;> first | exact trivial | assumption | (simp; done) | (simp only [List.length_map] at *; omega) | omega | (simp [D.cells, D.ok, D.one, D.pt, D.pt1]; done))))) | (refine GuardK_split (fun hc => ?_) (fun hc => ?_) <;> (try simp only [hc]) <;> (try simp at hc)) | (refine CondK_split (fun hc => ?_) (fun hc => ?_) <;> (try simp only [hc]) <;> (try simp at hc)) | (with_reducible refine And.intro ?_ ?_; (focus ((repeat' (with_reducible refine And.intro ?_ ?_)) <;> first | exact trivial | assumption | (simp; done) | (simp only [List.length_map] at *; omega) | omega | (simp [D.cells, D.ok, D.one, D.pt, D.pt1]; done)))) | (with_reducible intro x hx) | omega) <;> (try simp only [c1, ro_nil, ro_mov, ro_bin, viewS_own', CondK_f, contP_some, lk_hit, lk_miss, Nat.reduceBEq, put_some, ev_t, ev_c, argEnv, reduceIte, binD, binInt, D.pt0, D.norm1, true_and, List.getElem?_nil, Nat.zero_add, Int.reduceNeg, decide_false, view, view2, view1, view0, resK_nil, resK_tmp, ofRes, Option.some.injEq, D.int.injEq]))
theorem more_p (x p : Int) (hp : 0 ≤ p) (hx : x + p ≤ 9223372036854775807) (hm : -9223372036854775808 ≤ x) (hp2 : p ≤ 9223372036854775807) : PureD Try.prog 32 [.int .i64 x, .int .i64 p] (.int .i64 (x + p)) := by
  refine pureV Try.func32 low32 (by simp [c32]) ?_
  simp only [c32]
  have c1 : (x > 9223372036854775807 - p) = False := by simp; omega
  repeat' ((first | refine Run_seq ?_ | refine Run_skip ?_ | refine Run_block ?_ | refine Run_blk ?_ | refine Run_exit rfl ?_ | refine Run_ret ?_ | refine Run_nil ?_ | refine Run_condK ?_ | refine Run_ops mixed ?_ | refine Run_opsX mixed ?_ | with_reducible refine PostV_open ?_ | with_reducible refine PostG_open ?_ | with_reducible refine PostQ_open ?_ | with_reducible refine ro_callV ?_ | with_reducible refine ro_callVX ?_ | simp (disch := omega) only [w64] | (with_reducible refine SliceK_own rfl rfl ?_ ?_; (focus ((try simp only [rowsS_len, reduceIte, Int.natCast_nonneg, Int.le_refl, List.length_append, List.length_map, Nat.sub_zero]) <;> ((repeat' (with_reducible refine And.intro ?_ ?_)) <;> first | exact trivial | assumption | (simp; done) | (simp only [List.length_map] at *; omega) | omega | (simp [D.cells, D.ok, D.one, D.pt, D.pt1]; done))))) | (refine GuardK_split (fun hc => ?_) (fun hc => ?_) <;> (try simp only [hc]) <;> (try simp at hc)) | (refine CondK_split (fun hc => ?_) (fun hc => ?_) <;> (try simp only [hc]) <;> (try simp at hc)) | (with_reducible refine And.intro ?_ ?_; (focus ((repeat' (with_reducible refine And.intro ?_ ?_)) <;> first | exact trivial | assumption | (simp; done) | (simp only [List.length_map] at *; omega) | omega | (simp [D.cells, D.ok, D.one, D.pt, D.pt1]; done)))) | (with_reducible intro x hx) | omega) <;> (try simp only [c1, ro_nil, ro_mov, ro_bin, viewS_own', CondK_f, contP_some, lk_hit, lk_miss, Nat.reduceBEq, put_some, ev_t, ev_c, argEnv, reduceIte, binD, binInt, D.pt0, D.norm1, true_and, List.getElem?_nil, Nat.zero_add, decide_false, view, view2, view1, view0, resK_nil, resK_tmp, ofRes, Option.some.injEq, D.int.injEq]))
end Go.Proofs.Ytmbhhhefojdmhaa
