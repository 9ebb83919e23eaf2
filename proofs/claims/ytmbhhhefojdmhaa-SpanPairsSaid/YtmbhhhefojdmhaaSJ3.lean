import Derived.Test.YtmbhhhefojdmhaaSJ2
set_option linter.unusedVariables false
set_option linter.unusedSimpArgs false
set_option linter.unnecessarySimpa false
namespace Go.Proofs.Ytmbhhhefojdmhaa
open Go Go.Vi


/-- What DeleteFunc makes of a row that isn't empty. -/
theorem dfx_p (l : List Sp) (hl : l.length ≤ 400000000000) (hne : l ≠ []) : CallG Try.prog 23 [.own 0 0 l.length l.length 2 none, .fn 25 []] [acc true 2 true (rowsS l)] (.own 0 0 (fullS l).length l.length 2 none)
    [⟨true, false, true, false, 2, rowsS (fullS l) ++ List.replicate (l.length - (fullS l).length) zrS, none⟩] := by
  have hre : (rowsS l).isEmpty = false := by
    cases l with
    | nil => exact absurd rfl hne
    | cons => rfl
  by_cases h : ∃ p ∈ l, emptyS p = true
  · have hd := df_p l hl h
    have hie : (rowsS (fullS l) ++ List.replicate (l.length - (fullS l).length) zrS).isEmpty = false := by
      have hle : (fullS l).length ≤ l.length := List.length_filter_le ..
      have : 0 < (rowsS (fullS l) ++ List.replicate (l.length - (fullS l).length) zrS).length := by
        simp only [List.length_append, rowsS_len, List.length_replicate]
        have : 0 < l.length := List.length_pos_iff.2 hne
        omega
      cases hq : rowsS (fullS l) ++ List.replicate (l.length - (fullS l).length) zrS with
      | nil => rw [hq] at this; simp at this
      | cons => rfl
    rw [acc_ne' hie] at hd
    exact hd
  · have hn : ∀ p ∈ l, emptyS p = false := fun p hp => by
      cases hh : emptyS p with
      | false => rfl
      | true => exact absurd ⟨p, hp, hh⟩ h
    have e : fullS l = l := by
      unfold fullS
      rw [List.filter_eq_self]
      intro p hp
      simp [hn p hp]
    have hd := dfno_p l hl hn hne
    rw [e, Nat.sub_self, List.replicate_zero, List.append_nil]
    rw [acc_ne' hre] at hd ⊢
    exact hd
theorem stepF_nil (s : Sp) : stepF [] s = [s] := rfl
theorem stepF_snoc (o : List Sp) (c s : Sp) : stepF (o ++ [c]) s = if s.1 ≤ c.2 then o ++ [(c.1, max c.2 s.2)] else o ++ [c] ++ [s] := by simp [stepF]
set_option maxHeartbeats 8000000 in
theorem form_p (l : List Sp) (hl : l.length ≤ 400000000000) : PureD Try.prog 9 [LS l] (LS (formS (sortS (fullS l)))) := by
  refine pureV Try.func9 low9 (by simp [c9]) ?_
  simp only [c9]
  by_cases hne : l = []
  · subst hne
    have e : sortS (fullS []) = [] := by
      have := sortS_len (fullS [])
      exact List.eq_nil_of_length_eq_zero (by simpa [fullS] using this)
    rw [e]
    have eLS : LS [] = .list none false [] := rfl
    have eF : formS [] = [] := rfl
    simp only [eF, eLS]
    repeat' ((first | refine Run_seq ?_ | refine Run_skip ?_ | refine Run_block ?_ | refine Run_blk ?_ | refine Run_exit rfl ?_ | refine Run_ret ?_ | refine Run_nil ?_ | refine Run_condK ?_ | refine Run_ops mixed ?_ | refine Run_opsX mixed ?_ | with_reducible refine PostV_open ?_ | with_reducible refine PostG_open ?_ | with_reducible refine PostQ_open ?_ | with_reducible refine ro_callA (f := .c (.fn 24 [])) ?_ | with_reducible refine ro_callA' (f := .c (.fn 24 [])) ?_ | with_reducible refine ro_callA (f := .c (.fn 23 [])) ?_ | with_reducible refine ro_callA' (f := .c (.fn 23 [])) ?_ | with_reducible refine ro_callA (f := .c (.fn 26 [])) ?_ | with_reducible refine ro_callA' (f := .c (.fn 26 [])) ?_ | with_reducible refine ro_callV ?_ | with_reducible refine ro_callVX ?_ | with_reducible refine CallE_use (clS_any _) (by simp) ?_ | with_reducible refine CallE_use (dfnone_p) (by simp) ?_ | with_reducible refine CallE_use (sortnone_p) (by simp) ?_ | simp (disch := omega) only [w64, wu64, wu32, wu16, wu8, Int.tdiv_eq_ediv_of_nonneg, Int.tmod_eq_emod_of_nonneg] | (with_reducible refine SliceK_own rfl rfl ?_ ?_; (focus ((try simp only [rowsS_len, reduceIte, Int.natCast_nonneg, Int.le_refl, List.length_append, List.length_map, Nat.sub_zero]) <;> ((repeat' (with_reducible refine And.intro ?_ ?_)) <;> first | exact trivial | assumption | (simp; done) | (simp only [List.length_map] at *; omega) | omega | (simp [D.cells, D.ok, D.one, D.pt, D.pt1]; done))))) | (refine GuardK_split (fun hc => ?_) (fun hc => ?_) <;> (try simp only [hc]) <;> (try simp at hc)) | (refine CondK_split (fun hc => ?_) (fun hc => ?_) <;> (try simp only [hc]) <;> (try simp at hc)) | (with_reducible refine And.intro ?_ ?_; (focus ((repeat' (with_reducible refine And.intro ?_ ?_)) <;> first | exact trivial | assumption | (simp; done) | (simp only [List.length_map] at *; omega) | omega | (simp [D.cells, D.ok, D.one, D.pt, D.pt1]; done)))) | (with_reducible intro x hx) | omega) <;> (try simp only [ro_nil, ro_mov, ro_len, ro_slice, SliceK_list, contP_some, lk_hit, lk_miss, Nat.reduceBEq, put_some, ev_t, ev_c, argEnv, reduceIte, lenD, sliceD, bndD, D.pt0, true_and, and_true, List.length_nil, List.take_nil, List.drop_nil, List.append_nil, List.map_cons, List.map_nil, List.not_mem_nil, false_imp_iff, implies_true, Option.map_some, Option.map_none, Int.toNat_natCast, Int.reduceToNat, Int.natCast_nonneg, Nat.zero_lt_succ, mapO, capsD_fn, pull, pull2, pull1, pull0, pullσ, Go.Vi.freeze, capt, capt.captL, reachL, merge, mset, D.ren, D.renL]))
    refine Run_loop (ι := Unit) (fun _ => ([(3, .list none true []), (4, .list none false []), (15, .list none true []), (16, .int .i64 ((0 : Nat) : Int)), (17, .int .i64 0)], [])) (fun _ => 0) () ?_ ?_
    · refine Ent_gc [] (by rfl) (by simp) (by simp [keptW]) (by simp [lk_hit, lk_miss, D.pt0, viewS_own', pull, pull2, pull1, pull0, idx_nil, gate, List.mem_cons, or_false, view0])
    rintro ⟨⟩ hk
    dsimp only
    repeat' ((first | refine Run_seq ?_ | refine Run_skip ?_ | refine Run_block ?_ | refine Run_blk ?_ | refine Run_exit rfl ?_ | refine Run_ret ?_ | refine Run_nil ?_ | refine Run_condK ?_ | refine Run_ops mixed ?_ | refine Run_opsX mixed ?_ | with_reducible refine PostV_open ?_ | with_reducible refine PostG_open ?_ | with_reducible refine PostQ_open ?_ | with_reducible refine ro_callV ?_ | with_reducible refine ro_callVX ?_ | simp (disch := omega) only [w64, wu64, wu32, wu16, wu8, Int.tdiv_eq_ediv_of_nonneg, Int.tmod_eq_emod_of_nonneg] | (with_reducible refine SliceK_own rfl rfl ?_ ?_; (focus ((try simp only [rowsS_len, reduceIte, Int.natCast_nonneg, Int.le_refl, List.length_append, List.length_map, Nat.sub_zero]) <;> ((repeat' (with_reducible refine And.intro ?_ ?_)) <;> first | exact trivial | assumption | (simp; done) | (simp only [List.length_map] at *; omega) | omega | (simp [D.cells, D.ok, D.one, D.pt, D.pt1]; done))))) | (refine GuardK_split (fun hc => ?_) (fun hc => ?_) <;> (try simp only [hc]) <;> (try simp at hc)) | (refine CondK_split (fun hc => ?_) (fun hc => ?_) <;> (try simp only [hc]) <;> (try simp at hc)) | (with_reducible refine And.intro ?_ ?_; (focus ((repeat' (with_reducible refine And.intro ?_ ?_)) <;> first | exact trivial | assumption | (simp; done) | (simp only [List.length_map] at *; omega) | omega | (simp [D.cells, D.ok, D.one, D.pt, D.pt1]; done)))) | (with_reducible intro x hx) | omega) <;> (try simp only [ro_nil, ro_mov, ro_bin, viewS_own', CondK_f, contP_some, lk_hit, lk_miss, Nat.reduceBEq, put_some, ev_t, reduceIte, binD, binInt, D.pt0, D.norm1, true_and, List.getElem?_nil, view, view2, view1, view0, resK_nil, resK_tmp, ofRes]))
    skip
  · have hre : rowsS l ≠ [] := by
      cases l with
      | nil => exact absurd rfl hne
      | cons => simp [rowsS]
    have cl := clS_ne false (rowsS l) hre (fun r hr => by obtain ⟨x, rfl⟩ := rowsS_mem hr; rfl) (by rw [rowsS_len]; omega)
    rw [rowsS_len] at cl
    have dx := dfx_p l hl hne
    have hle : (fullS l).length ≤ l.length := List.length_filter_le ..
    have hpos : 0 < l.length := List.length_pos_iff.2 hne
    have so := sort_p (fullS l) (List.replicate (l.length - (fullS l).length) zrS) (by rw [List.length_replicate]; omega) (by omega)
    have hlr : (List.replicate (l.length - (fullS l).length) zrS).length = l.length - (fullS l).length := List.length_replicate
    have hsl := sortS_len (fullS l)
    rw [hlr, show (fullS l).length + (l.length - (fullS l).length) = l.length by omega] at so
    generalize List.replicate (l.length - (fullS l).length) zrS = R at dx so hlr
    generalize sortS (fullS l) = S at so hsl ⊢
    generalize (fullS l).length = w at dx so hlr hsl hle
    generalize l.length = n at cl dx so hlr hle hpos hl
    repeat' ((first | refine Run_seq ?_ | refine Run_skip ?_ | refine Run_block ?_ | refine Run_blk ?_ | refine Run_exit rfl ?_ | refine Run_ret ?_ | refine Run_nil ?_ | refine Run_condK ?_ | refine Run_ops mixed ?_ | refine Run_opsX mixed ?_ | with_reducible refine PostV_open ?_ | with_reducible refine PostG_open ?_ | with_reducible refine PostQ_open ?_ | with_reducible refine ro_callA (f := .c (.fn 24 [])) ?_ | with_reducible refine ro_callA' (f := .c (.fn 24 [])) ?_ | with_reducible refine ro_callA (f := .c (.fn 23 [])) ?_ | with_reducible refine ro_callA' (f := .c (.fn 23 [])) ?_ | with_reducible refine ro_callA (f := .c (.fn 26 [])) ?_ | with_reducible refine ro_callA' (f := .c (.fn 26 [])) ?_ | with_reducible refine ro_callV ?_ | with_reducible refine ro_callVX ?_ | with_reducible refine CallE_use (cl) (by simp) ?_ | with_reducible refine CallE_use (dx) (by simp) ?_ | with_reducible refine CallE_use (so) (by simp) ?_ | simp (disch := omega) only [w64, wu64, wu32, wu16, wu8, Int.tdiv_eq_ediv_of_nonneg, Int.tmod_eq_emod_of_nonneg] | (with_reducible refine SliceK_own rfl rfl ?_ ?_; (focus ((try simp only [Int.natCast_nonneg]) <;> ((repeat' (with_reducible refine And.intro ?_ ?_)) <;> first | exact trivial | assumption | (simp; done) | (simp only [List.length_map] at *; omega) | omega | (simp [D.cells, D.ok, D.one, D.pt, D.pt1]; done))))) | (refine GuardK_split (fun hc => ?_) (fun hc => ?_) <;> (try simp only [hc]) <;> (try simp at hc)) | (refine CondK_split (fun hc => ?_) (fun hc => ?_) <;> (try simp only [hc]) <;> (try simp at hc)) | (with_reducible refine And.intro ?_ ?_; (focus ((repeat' (with_reducible refine And.intro ?_ ?_)) <;> first | exact trivial | assumption | (simp; done) | (simp only [List.length_map] at *; omega) | omega | (simp [D.cells, D.ok, D.one, D.pt, D.pt1]; done)))) | (with_reducible intro x hx) | omega) <;> (try simp only [ro_nil, ro_mov, ro_len, ro_slice, acc_real, acc_nl, acc_pure, acc_fz, acc_sz, acc_rows, acc_spare, contP_some, lk_hit, lk_miss, Nat.reduceBEq, put_some, ev_t, ev_c, argEnv, reduceIte, Nat.reduceSub, reduceCtorEq, lenD, D.pt0, true_and, Bool.true_and, List.getElem?_cons_zero, List.length_cons, List.length_nil, List.drop_succ_cons, List.drop_zero, List.drop_nil, List.nil_append, List.append_nil, List.map_cons, List.map_nil, List.set_cons_zero, Option.map_some, Option.map_none, Nat.zero_add, Nat.add_zero, Nat.sub_self, Int.toNat_natCast, Int.reduceToNat, Nat.lt_irrefl, Nat.lt_add_one, mapO, capsD_fn, pull, pull2, pull1, pull0, idx_hit, pullσ, pullOb, Go.Vi.freeze, capt, capt.captL, reachL, reachO, isin, merge, mset, renOb, fr, D.ren, D.renL, List.getD_cons_zero]))
    refine Run_loop (ι := {j : Nat × List Sp // j.1 ≤ w ∧ j.2.length + (formS (S.take j.1)).length = j.1}) (fun j => ([(3, .own 0 0 w n 2 none), (4, .own 0 0 (formS (S.take j.1.1)).length n 2 none), (15, .own 0 0 w n 2 none), (16, .int .i64 w), (17, .int .i64 j.1.1)],
      [⟨true, false, true, false, 2, rowsS (formS (S.take j.1.1) ++ (j.1.2 ++ S.drop j.1.1)) ++ R, none⟩])) (fun j => w - j.1.1) ⟨(0, []), by simp, by simp [formS]⟩ ?_ ?_
    · have e0 : formS (S.take 0) = [] := by simp [formS]
      dsimp only
      rw [e0]
      simp only [List.nil_append, List.drop_zero, List.length_nil]
      refine Ent_gc [0] (by rfl) (by simp) (by simp [keptW, ObKW, ObW, imp_self, pullOb]) (by simp [lk_hit, lk_miss, D.pt0, viewS_own', pull, pull2, pull1, pull0, idx_hit, gate, List.mem_cons, or_false, view0])
    rintro ⟨⟨i, X⟩, hi, hX⟩ hk
    dsimp only at hk hi hX ⊢
    by_cases hlt : i < w
    · have c1 : ((i : Int) < (w : Int)) = True := by simp; omega
      obtain ⟨s, hs⟩ : ∃ s, S[i]? = some s := ⟨_, List.getElem?_eq_getElem (by omega)⟩
      have hdr : S.drop i = s :: S.drop (i + 1) := by
        rw [List.getElem?_eq_getElem (by omega)] at hs; cases hs; exact List.drop_eq_getElem_cons (by omega)
      have htk : formS (S.take (i + 1)) = stepF (formS (S.take i)) s := by
        have : S.take (i + 1) = S.take i ++ [s] := by rw [List.take_add_one, hs]; rfl
        rw [this, formS_snoc]
      have hDl : (S.drop (i + 1)).length = w - (i + 1) := by rw [List.length_drop, hsl]
      rw [hdr]
      generalize formS (S.take i) = O at hX htk ⊢
      generalize hDr : S.drop (i + 1) = Dr at hDl hdr ⊢
      have hml : (rowsS (O ++ (X ++ s :: Dr)) ++ R).length = n := by
        simp only [List.length_append, rowsS_len, List.length_cons]; omega
      have hr : (rowsS (O ++ (X ++ s :: Dr)) ++ R)[i]? = some [.int .i64 s.1, .int .i64 s.2] := by
        rw [List.getElem?_append_left (by simp only [List.length_append, rowsS_len, List.length_cons]; omega)]
        refine rowsS_get ?_
        rw [← List.append_assoc, List.getElem?_append_right (by simp only [List.length_append]; omega)]
        have : i - (O ++ X).length = 0 := by simp only [List.length_append]; omega
        rw [this]; rfl
      -- the span is put behind
      have put : (rowsS (O ++ (X ++ s :: Dr)) ++ R).take O.length ++ [[.int .i64 s.1, .int .i64 s.2]] ++ (rowsS (O ++ (X ++ s :: Dr)) ++ R).drop (O.length + 1) = rowsS (O ++ [s] ++ ((X ++ [s]).tail ++ Dr)) ++ R := by
        have e1 : X ++ s :: Dr = (X ++ [s]) ++ Dr := by simp
        obtain ⟨y, Y, hY⟩ : ∃ y Y, X ++ [s] = y :: Y := by cases X <;> simp
        rw [e1, hY]
        have e2 : rowsS (O ++ (y :: Y ++ Dr)) ++ R = rowsS O ++ ([.int .i64 y.1, .int .i64 y.2] :: (rowsS (Y ++ Dr) ++ R)) := by simp [rowsS]
        have e3 : rowsS (O ++ (y :: Y ++ Dr)) ++ R = (rowsS O ++ [[.int .i64 y.1, .int .i64 y.2]]) ++ (rowsS (Y ++ Dr) ++ R) := by simp [rowsS]
        have e4 : (rowsS (O ++ (y :: Y ++ Dr)) ++ R).take O.length = rowsS O := by rw [e2]; exact List.take_left' rowsS_len
        have e5 : (rowsS (O ++ (y :: Y ++ Dr)) ++ R).drop (O.length + 1) = rowsS (Y ++ Dr) ++ R := by rw [e3]; exact List.drop_left' (by simp [rowsS_len])
        rw [e4, e5]
        simp [rowsS]
      have hXt : (X ++ [s]).tail.length = X.length := by simp
      have hOn : O.length < n := by omega
      have ext : ∀ (o : List Sp) (c : Sp), O = o ++ [c] → (rowsS (O ++ (X ++ s :: Dr)) ++ R)[o.length]? = some [.int .i64 c.1, .int .i64 c.2] ∧ ∀ z : Int, (rowsS (O ++ (X ++ s :: Dr)) ++ R).set o.length [.int .i64 c.1, .int .i64 z] = rowsS (o ++ [(c.1, z)] ++ (X ++ [s] ++ Dr)) ++ R := fun o c hO => by
        subst hO
        have e2 : rowsS (o ++ [c] ++ (X ++ s :: Dr)) ++ R = rowsS o ++ [.int .i64 c.1, .int .i64 c.2] :: (rowsS (X ++ s :: Dr) ++ R) := by simp [rowsS]
        refine ⟨?_, fun z => ?_⟩
        · rw [e2, List.getElem?_append_right (by rw [rowsS_len]; exact Nat.le_refl _), rowsS_len, Nat.sub_self]; rfl
        · rw [e2, List.set_append_right _ _ (by rw [rowsS_len]; exact Nat.le_refl _), rowsS_len, Nat.sub_self]
          simp [rowsS]
      generalize rowsS (O ++ (X ++ s :: Dr)) ++ R = M at hml hr put ext ⊢
      rcases List.eq_nil_or_concat O with rfl | ⟨o, c, rfl⟩
      · have c2 : (((0 : Nat) : Int) > 0) = False := by simp
        have c2' : ((0 : Int) > 0) = False := by simp
        rw [stepF_nil] at htk
        simp only [List.length_nil] at hX hOn put ⊢
        repeat' ((first | refine Run_seq ?_ | refine Run_skip ?_ | refine Run_block ?_ | refine Run_blk ?_ | refine Run_exit rfl ?_ | refine Run_ret ?_ | refine Run_nil ?_ | refine Run_condK ?_ | refine Run_ops mixed ?_ | refine Run_opsX mixed ?_ | with_reducible refine PostV_open ?_ | with_reducible refine PostG_open ?_ | with_reducible refine PostQ_open ?_ | with_reducible refine ro_callV ?_ | with_reducible refine ro_callVX ?_ | simp (disch := omega) only [w64, wu64, wu32, wu16, wu8, Int.tdiv_eq_ediv_of_nonneg, Int.tmod_eq_emod_of_nonneg] | (with_reducible refine SliceK_own rfl rfl ?_ ?_; (focus ((try simp only [rowsS_len, reduceIte, Int.natCast_nonneg, Int.le_refl, List.length_append, List.length_map, Nat.sub_zero]) <;> ((repeat' (with_reducible refine And.intro ?_ ?_)) <;> first | exact trivial | assumption | (simp; done) | (simp only [List.length_map] at *; omega) | omega | (simp [D.cells, D.ok, D.one, D.pt, D.pt1]; done))))) | (refine GuardK_split (fun hc => ?_) (fun hc => ?_) <;> (try simp only [hc]) <;> (try simp at hc)) | (refine CondK_split (fun hc => ?_) (fun hc => ?_) <;> (try simp only [hc]) <;> (try simp at hc)) | (with_reducible refine And.intro ?_ ?_; (focus ((repeat' (with_reducible refine And.intro ?_ ?_)) <;> first | exact trivial | assumption | (simp; done) | (simp only [List.length_map] at *; omega) | omega | (simp [D.one]; done)))) | (with_reducible intro x hx) | omega) <;> (try simp only [c1, c2, hr, hml, LoadR_some, ro_nil, ro_mov, ro_pick, ro_slit, SlitK_t, ro_bin, ro_len, ro_load, LoadK_ptr, LoadO_some, LoadR_some, ro_alloc, ro_store, StoreK_ptr, StoreO_some, StoreR_some, ro_iaddr, IaddrK_own, ro_app, newsD_list, AppN_some, AppS_own, rx_nil, rx_cons, keepK_nil, ro_guard, GuardK_ft, CondK_t, CondK_f, contP_some, lk_hit, lk_miss, Nat.reduceBEq, put_some, put_none, ev_t, ev_c, reduceIte, Nat.reduceAdd, reduceCtorEq, binD, binInt, binStr, pickD, lenD, loadD, splice, D.cells, D.ok, D.one, D.pt, D.pt1, D.norm1, cond_false, true_and, and_true, and_self, Bool.and_true, List.getElem?_cons_zero, List.getElem?_cons_succ, List.length_cons, List.length_nil, List.take_succ_cons, List.take_zero, List.take_nil, List.drop_succ_cons, List.drop_zero, List.drop_nil, List.cons_append, List.nil_append, List.append_nil, List.map_cons, List.map_nil, List.all_cons, List.all_nil, List.set_cons_zero, List.set_cons_succ, List.not_mem_nil, ne_eq, not_false_eq_true, Nat.zero_add, Int.toNat_natCast, decide_true, decide_false, Nat.le_refl, Int.natCast_nonneg, Nat.lt_add_one, Nat.zero_lt_succ, List.mem_cons, or_false]))
        refine AppO_in (by omega) ⟨hml, by simp only [List.length_cons, List.length_nil]; omega, by simp only [List.length_cons, List.length_nil]; omega⟩ ⟨rfl, by simp only [List.length_cons, List.length_nil]; omega, by simp⟩ ?_
        simp only [List.length_cons, List.length_nil, Nat.zero_add, ro_nil, ro_mov, lk_hit, put_some, ev_t, Bool.and_true, List.length_cons, List.length_nil, List.take_zero, List.cons_append, List.nil_append, List.set_cons_zero, Nat.zero_add, Nat.add_zero]
        repeat' ((first | refine Run_seq ?_ | refine Run_skip ?_ | refine Run_block ?_ | refine Run_blk ?_ | refine Run_exit rfl ?_ | refine Run_ret ?_ | refine Run_nil ?_ | refine Run_condK ?_ | refine Run_ops mixed ?_ | refine Run_opsX mixed ?_ | with_reducible refine PostV_open ?_ | with_reducible refine PostG_open ?_ | with_reducible refine PostQ_open ?_ | with_reducible refine ro_callV ?_ | with_reducible refine ro_callVX ?_ | simp (disch := omega) only [w64] | (with_reducible refine SliceK_own rfl rfl ?_ ?_; (focus ((try simp only [rowsS_len, reduceIte, Int.natCast_nonneg, Int.le_refl, List.length_append, List.length_map, Nat.sub_zero]) <;> ((repeat' (with_reducible refine And.intro ?_ ?_)) <;> first | exact trivial | assumption | (simp; done) | (simp only [List.length_map] at *; omega) | omega | (simp [D.cells, D.ok, D.one, D.pt, D.pt1]; done))))) | (refine GuardK_split (fun hc => ?_) (fun hc => ?_) <;> (try simp only [hc]) <;> (try simp at hc)) | (refine CondK_split (fun hc => ?_) (fun hc => ?_) <;> (try simp only [hc]) <;> (try simp at hc)) | (with_reducible refine And.intro ?_ ?_; (focus ((repeat' (with_reducible refine And.intro ?_ ?_)) <;> first | exact trivial | assumption | (simp; done) | (simp only [List.length_map] at *; omega) | omega | (simp [D.cells, D.ok, D.one, D.pt, D.pt1]; done)))) | (with_reducible intro x hx) | omega) <;> (try simp only [ro_nil, ro_mov, ro_bin, contP_some, lk_hit, lk_miss, Nat.reduceBEq, put_some, ev_t, ev_c, reduceIte, binD, binInt, true_and]))
        refine hk ⟨(i + 1, (X ++ [s]).tail), by dsimp only; omega, by dsimp only; rw [htk, hXt]; simp only [List.length_cons, List.length_nil]; omega⟩ _ _ (by dsimp only; omega) ?_
        dsimp only
        have put' : [.int .i64 s.1, .int .i64 s.2] :: M.tail = rowsS ([s] ++ ((X ++ [s]).tail ++ Dr)) ++ R := by simpa using put
        rw [htk, hDr, ← put']
        simp only [List.length_cons, List.length_nil]
        refine Ent_gc [0] (by rfl) (by simp) (by simp [keptW, ObKW, ObW, imp_self, pullOb]) (by simp [lk_hit, lk_miss, D.pt0, viewS_own', pull, pull2, pull1, pull0, idx_hit, gate, List.mem_cons, or_false, view0])
      · obtain ⟨hc, hset⟩ := ext o c (by simp)
        have hol : (o.concat c).length = o.length + 1 := by simp
        have c2 : (((o.length + 1 : Nat) : Int) > 0) = True := by rw [eq_iff_iff]; exact ⟨fun _ => trivial, fun _ => by omega⟩
        have c3 : (((o.length + 1 : Nat) : Int) - 1) = (o.length : Int) := by omega
        rw [List.concat_eq_append] at htk hX hOn put hol ⊢
        rw [stepF_snoc] at htk
        rw [hol] at hX hOn put ⊢
        by_cases hsc : s.1 ≤ c.2
        · have c4 : (s.1 ≤ c.2) = True := by simpa using hsc
          have hm := hset (if s.2 > c.2 then s.2 else c.2)
          have hmx : max c.2 s.2 = if s.2 > c.2 then s.2 else c.2 := by split <;> omega
          rw [if_pos hsc, hmx] at htk
          repeat' ((first | refine Run_seq ?_ | refine Run_skip ?_ | refine Run_block ?_ | refine Run_blk ?_ | refine Run_exit rfl ?_ | refine Run_ret ?_ | refine Run_nil ?_ | refine Run_condK ?_ | refine Run_ops mixed ?_ | refine Run_opsX mixed ?_ | with_reducible refine PostV_open ?_ | with_reducible refine PostG_open ?_ | with_reducible refine PostQ_open ?_ | with_reducible refine ro_callV ?_ | with_reducible refine ro_callVX ?_ | simp (disch := omega) only [w64] | (with_reducible refine SliceK_own rfl rfl ?_ ?_; (focus ((try simp only [rowsS_len, reduceIte, Int.natCast_nonneg, Int.le_refl, List.length_append, List.length_map, Nat.sub_zero]) <;> ((repeat' (with_reducible refine And.intro ?_ ?_)) <;> first | exact trivial | assumption | (simp; done) | (simp only [List.length_map] at *; omega) | omega | (simp [D.cells, D.ok, D.one, D.pt, D.pt1]; done))))) | (refine GuardK_split (fun hc => ?_) (fun hc => ?_) <;> (try simp only [hc]) <;> (try simp at hc)) | (refine CondK_split (fun hc => ?_) (fun hc => ?_) <;> (try simp only [hc]) <;> (try simp at hc)) | (with_reducible refine And.intro ?_ ?_; (focus ((repeat' (with_reducible refine And.intro ?_ ?_)) <;> first | exact trivial | assumption | (simp; done) | (simp only [List.length_map] at *; omega) | omega | (simp [D.cells, D.ok, D.one, D.pt, D.pt1]; done)))) | (with_reducible intro x hx) | omega) <;> (try simp only [c1, c2, c3, c4, hr, hc, hm, hml, LoadR_some, ro_nil, ro_mov, ro_pick, ro_bin, ro_faddr, ro_len, ro_mx, ro_load, LoadK_ptr, LoadO_some, LoadR_some, ro_alloc, ro_store, StoreK_ptr, StoreO_some, StoreR_some, ro_iaddr, IaddrK_own, rx_nil, rx_cons, keepK_nil, ro_guard, GuardK_tt, CondK_t, contP_some, lk_hit, lk_miss, Nat.reduceBEq, put_some, put_none, ev_t, ev_c, reduceIte, Nat.reduceAdd, reduceCtorEq, binD, binInt, binStr, pickD, faddrD, lenD, mxD, loadD, splice, D.cells, D.ok, D.one, D.pt1, cond_true, true_and, and_self, Bool.and_true, List.getElem?_cons_zero, List.getElem?_cons_succ, List.length_cons, List.length_nil, List.take_succ_cons, List.take_zero, List.take_nil, List.drop_succ_cons, List.drop_zero, List.drop_nil, List.cons_append, List.nil_append, List.append_nil, List.all_cons, List.all_nil, List.set_cons_zero, List.set_cons_succ, ne_eq, not_false_eq_true, Nat.zero_add, Nat.add_zero, Int.toNat_natCast, decide_true, Nat.le_refl, Int.natCast_nonneg, Nat.lt_add_one]))
          refine hk ⟨(i + 1, X ++ [s]), by dsimp only; omega, by dsimp only; rw [htk]; simp only [List.length_append, List.length_cons, List.length_nil]; omega⟩ _ _ (by dsimp only; omega) ?_
          dsimp only
          rw [htk, hDr]
          simp only [List.length_append, List.length_cons, List.length_nil]
          refine Ent_gc [0] (by rfl) (by simp) (by simp [keptW, ObKW, ObW, imp_self, pullOb]) (by simp [lk_hit, lk_miss, D.pt0, viewS_own', pull, pull2, pull1, pull0, idx_hit, gate, List.mem_cons, or_false, view0])
        · have c4 : (s.1 ≤ c.2) = False := by simpa using hsc
          rw [if_neg hsc] at htk
          repeat' ((first | refine Run_seq ?_ | refine Run_skip ?_ | refine Run_block ?_ | refine Run_blk ?_ | refine Run_exit rfl ?_ | refine Run_ret ?_ | refine Run_nil ?_ | refine Run_condK ?_ | refine Run_ops mixed ?_ | refine Run_opsX mixed ?_ | with_reducible refine PostV_open ?_ | with_reducible refine PostG_open ?_ | with_reducible refine PostQ_open ?_ | with_reducible refine ro_callV ?_ | with_reducible refine ro_callVX ?_ | simp (disch := omega) only [w64] | (with_reducible refine SliceK_own rfl rfl ?_ ?_; (focus ((try simp only [rowsS_len, reduceIte, Int.natCast_nonneg, Int.le_refl, List.length_append, List.length_map, Nat.sub_zero]) <;> ((repeat' (with_reducible refine And.intro ?_ ?_)) <;> first | exact trivial | assumption | (simp; done) | (simp only [List.length_map] at *; omega) | omega | (simp [D.cells, D.ok, D.one, D.pt, D.pt1]; done))))) | (refine GuardK_split (fun hc => ?_) (fun hc => ?_) <;> (try simp only [hc]) <;> (try simp at hc)) | (refine CondK_split (fun hc => ?_) (fun hc => ?_) <;> (try simp only [hc]) <;> (try simp at hc)) | (with_reducible refine And.intro ?_ ?_; (focus ((repeat' (with_reducible refine And.intro ?_ ?_)) <;> first | exact trivial | assumption | (simp; done) | (simp only [List.length_map] at *; omega) | omega | (simp [D.one]; done)))) | (with_reducible intro x hx) | omega) <;> (try simp only [c1, c2, c3, c4, hr, hc, hml, LoadR_some, ro_nil, ro_mov, ro_pick, ro_slit, SlitK_t, ro_bin, ro_faddr, ro_len, ro_load, LoadK_ptr, LoadO_some, LoadR_some, ro_alloc, ro_store, StoreK_ptr, StoreO_some, StoreR_some, ro_iaddr, IaddrK_own, ro_app, newsD_list, AppN_some, AppS_own, rx_nil, rx_cons, keepK_nil, ro_guard, GuardK_tt, CondK_t, CondK_f, contP_some, lk_hit, lk_miss, Nat.reduceBEq, put_some, put_none, ev_t, ev_c, reduceIte, Nat.reduceAdd, reduceCtorEq, binD, binInt, binStr, pickD, faddrD, lenD, loadD, splice, D.cells, D.ok, D.one, D.pt, D.pt1, D.norm1, cond_true, true_and, and_true, and_self, Bool.and_true, List.getElem?_cons_zero, List.getElem?_cons_succ, List.length_cons, List.length_nil, List.take_succ_cons, List.take_zero, List.take_nil, List.drop_succ_cons, List.drop_zero, List.drop_nil, List.cons_append, List.nil_append, List.append_nil, List.map_cons, List.map_nil, List.all_cons, List.all_nil, List.set_cons_zero, List.set_cons_succ, List.not_mem_nil, ne_eq, not_false_eq_true, Nat.zero_add, Nat.add_zero, Int.toNat_natCast, decide_true, decide_false, Nat.le_refl, Int.natCast_nonneg, Nat.lt_add_one, Nat.zero_lt_succ, List.mem_cons, or_false]))
          refine AppO_in (by omega) ⟨hml, by simp only [List.length_cons, List.length_nil]; omega, by simp only [List.length_cons, List.length_nil]; omega⟩ ⟨rfl, by simp only [List.length_cons, List.length_nil]; omega, by simp⟩ ?_
          simp only [List.length_cons, List.length_nil, Nat.zero_add, put, ro_nil, ro_mov, lk_hit, put_some, ev_t, Bool.and_true, List.length_cons, List.length_nil, List.set_cons_zero, Nat.zero_add]
          repeat' ((first | refine Run_seq ?_ | refine Run_skip ?_ | refine Run_block ?_ | refine Run_blk ?_ | refine Run_exit rfl ?_ | refine Run_ret ?_ | refine Run_nil ?_ | refine Run_condK ?_ | refine Run_ops mixed ?_ | refine Run_opsX mixed ?_ | with_reducible refine PostV_open ?_ | with_reducible refine PostG_open ?_ | with_reducible refine PostQ_open ?_ | with_reducible refine ro_callV ?_ | with_reducible refine ro_callVX ?_ | simp (disch := omega) only [w64] | (with_reducible refine SliceK_own rfl rfl ?_ ?_; (focus ((try simp only [rowsS_len, reduceIte, Int.natCast_nonneg, Int.le_refl, List.length_append, List.length_map, Nat.sub_zero]) <;> ((repeat' (with_reducible refine And.intro ?_ ?_)) <;> first | exact trivial | assumption | (simp; done) | (simp only [List.length_map] at *; omega) | omega | (simp [D.cells, D.ok, D.one, D.pt, D.pt1]; done))))) | (refine GuardK_split (fun hc => ?_) (fun hc => ?_) <;> (try simp only [hc]) <;> (try simp at hc)) | (refine CondK_split (fun hc => ?_) (fun hc => ?_) <;> (try simp only [hc]) <;> (try simp at hc)) | (with_reducible refine And.intro ?_ ?_; (focus ((repeat' (with_reducible refine And.intro ?_ ?_)) <;> first | exact trivial | assumption | (simp; done) | (simp only [List.length_map] at *; omega) | omega | (simp [D.cells, D.ok, D.one, D.pt, D.pt1]; done)))) | (with_reducible intro x hx) | omega) <;> (try simp only [ro_nil, ro_mov, ro_bin, contP_some, lk_hit, lk_miss, Nat.reduceBEq, put_some, ev_t, ev_c, reduceIte, binD, binInt, true_and]))
          refine hk ⟨(i + 1, (X ++ [s]).tail), by dsimp only; omega, by dsimp only; rw [htk, hXt]; simp only [List.length_append, List.length_cons, List.length_nil]; omega⟩ _ _ (by dsimp only; omega) ?_
          dsimp only
          rw [htk, hDr]
          simp only [List.length_append, List.length_cons, List.length_nil]
          refine Ent_gc [0] (by rfl) (by simp) (by simp [keptW, ObKW, ObW, imp_self, pullOb]) (by simp [lk_hit, lk_miss, D.pt0, viewS_own', pull, pull2, pull1, pull0, idx_hit, gate, List.mem_cons, or_false, view0])
    · have c1 : ((i : Int) < (w : Int)) = False := by simp; omega
      obtain rfl : i = w := by omega
      have hSt : S.take i = S := by rw [← hsl, List.take_length]
      have hSd : S.drop i = [] := by rw [← hsl, List.drop_length]
      rw [hSt, hSd, List.append_nil]
      rw [hSt] at hX
      have hml : (rowsS (formS S ++ X) ++ R).length = n := by
        simp only [List.length_append, rowsS_len]; omega
      have hw : winD 0 (formS S).length n (rowsS (formS S ++ X) ++ R) = rowsS (formS S) := by
        unfold winD
        split
        · rename_i hh
          have hX0 : X = [] := List.eq_nil_of_length_eq_zero (by omega)
          have hR0 : R = [] := List.eq_nil_of_length_eq_zero (by omega)
          rw [hX0, hR0]; simp
        · rw [List.drop_zero]
          have : rowsS (formS S ++ X) ++ R = rowsS (formS S) ++ (rowsS X ++ R) := by simp [rowsS]
          rw [this, List.take_left' (by rw [rowsS_len])]
      generalize rowsS (formS S ++ X) ++ R = M at hml hw ⊢
      generalize formS S = O at hw hX ⊢
      repeat' ((first | refine Run_seq ?_ | refine Run_skip ?_ | refine Run_block ?_ | refine Run_blk ?_ | refine Run_exit rfl ?_ | refine Run_ret ?_ | refine Run_nil ?_ | refine Run_condK ?_ | refine Run_ops mixed ?_ | refine Run_opsX mixed ?_ | with_reducible refine PostV_open ?_ | with_reducible refine PostG_open ?_ | with_reducible refine PostQ_open ?_ | with_reducible refine ro_callV ?_ | with_reducible refine ro_callVX ?_ | simp (disch := omega) only [w64, wu64, wu32, wu16, wu8, Int.tdiv_eq_ediv_of_nonneg, Int.tmod_eq_emod_of_nonneg] | (with_reducible refine SliceK_own rfl rfl ?_ ?_; (focus ((try simp only [rowsS_len, reduceIte, Int.natCast_nonneg, Int.le_refl, List.length_append, List.length_map, Nat.sub_zero]) <;> ((repeat' (with_reducible refine And.intro ?_ ?_)) <;> first | exact trivial | assumption | (simp; done) | (simp only [List.length_map] at *; omega) | omega | (simp [D.cells, D.ok, D.one, D.pt, D.pt1]; done))))) | (refine GuardK_split (fun hc => ?_) (fun hc => ?_) <;> (try simp only [hc]) <;> (try simp at hc)) | (refine CondK_split (fun hc => ?_) (fun hc => ?_) <;> (try simp only [hc]) <;> (try simp at hc)) | (with_reducible refine And.intro ?_ ?_; (focus ((repeat' (with_reducible refine And.intro ?_ ?_)) <;> first | exact trivial | assumption | (simp; done) | (simp only [List.length_map] at *; omega) | omega | (simp [D.cells, D.ok, D.one, D.pt, D.pt1]; done)))) | (with_reducible intro x hx) | omega) <;> (try simp only [c1, hml, hw, ro_nil, ro_mov, ro_bin, viewS_own', viewO_some, CondK_f, contP_some, lk_hit, lk_miss, Nat.reduceBEq, put_some, ev_t, reduceIte, binD, binInt, D.pt0, D.norm1, true_and, and_self, Bool.true_or, List.getElem?_cons_zero, decide_false, view, view2, view1, view0, resK_nil, resK_tmp, ofRes]))
end Go.Proofs.Ytmbhhhefojdmhaa
