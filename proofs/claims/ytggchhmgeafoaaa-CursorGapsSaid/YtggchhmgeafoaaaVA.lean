import Derived.Test.YtggchhmgeafoaaaV0
import Derived.Test.YtggchhmgeafoaaaVi26
import Derived.Test.YtggchhmgeafoaaaXX
import Derived.Test.YtggchhmgeafoaaaVi33
import Derived.Test.YtggchhmgeafoaaaVSY
set_option linter.unusedVariables false
set_option linter.unusedSimpArgs false
set_option linter.unnecessarySimpa false
namespace Go.Proofs.Ytggchhmgeafoaaa
open Go Go.Vi
theorem mixed : Try.prog.follows .mixedOrders = true := by kernel_rfl
theorem acc_b' {sz : Nat} {pu : Bool} {rows : List (List D)} (h : rows.isEmpty = false) : acc false sz pu rows = acc true sz pu rows := by simp [acc, h]
theorem acc_ne' {b pu : Bool} {sz : Nat} {rows : List (List D)} (h : rows.isEmpty = false) : acc b sz pu rows = ⟨true, false, pu, false, sz, rows, none⟩ := by simp [acc, h]
theorem exVJ1 : type_of% @rowsS_len := @rowsS_len
theorem clS_ne (tg : Bool) (l : List (List D)) (hne : l ≠ []) (hsz : ∀ r ∈ l, r.length = 2) (hl : l.length ≤ 400000000000) : CallG Try.prog 33 [.list none tg l] [] (.own 0 0 l.length l.length 2 none) [acc true 2 true l] := by
 refine callG Try.func33 low33 (by simp [c33]) ?_
 simp only [c33]
 refine Run_nils 0 rfl fun b hb => ?_
 obtain rfl : b = false := by
  cases b with
  | false => rfl
  | true => exact absurd (hb rfl) hne
 refine wk [] [] @exVJ1 ?_
 rw [acc_b' (by simpa using hne)]
 exact rtw [0] @exVJ1
theorem clS_nil (tg : Bool) : CallG Try.prog 33 [.list (some true) tg []] [] (.list (some true) true []) [] := by
 refine callG Try.func33 low33 (by simp [c33]) ?_
 simp only [c33]
 refine wk [] [] @exVJ1 ?_
 exact rtw [] @exVJ1
theorem clS_emp (tg : Bool) : CallG Try.prog 33 [.list (some false) tg []] [] (.own 0 0 0 0 2 none) [acc false 2 true []] := by
 refine callG Try.func33 low33 (by simp [c33]) ?_
 simp only [c33]
 refine wk [] [] @exVJ1 ?_
 exact rtw [0] @exVJ1
theorem clS_any (tg : Bool) : CallG Try.prog 33 [.list none tg []] [] (.list none true []) [] :=
 CallG.nils fun b _ => by
  cases b
  ·exact (clS_emp tg).emp
  ·exact (clS_nil tg).nl
abbrev LS (l : List Sp) : D := .list none false (rowsS l)
def idxF (f : Sp → Bool) : List Sp → Nat → Int
 | [], _ => -1
 | s :: l, n => if f s = true then n else idxF f l (n + 1)
theorem idxF_spec (f : Sp → Bool) : ∀ (l : List Sp) (n : Nat), (idxF f l n = -1 ∧ ∀ p ∈ l, f p = false) ∨ ∃ i, idxF f l n = ((n + i : Nat) : Int) ∧ i < l.length ∧ (∃ p, l[i]? = some p ∧ f p = true) ∧ ∀ q ∈ l.take i, f q = false
 | [], n => .inl ⟨rfl, by simp⟩
 | p :: l, n => by
  by_cases h : f p = true
  ·exact .inr ⟨0, by simp [idxF, h], by simp, ⟨p, by simp, h⟩, by simp⟩
  ·have h' : f p = false := by simpa using h
   rcases idxF_spec f l (n + 1) with ⟨h1, h2⟩ | ⟨i, h1, h2, h3, h4⟩
   ·refine .inl ⟨by simp [idxF, h', h1], fun q hq => ?_⟩
    rcases List.mem_cons.1 hq with rfl | hq
    ·exact h'
    ·exact h2 q hq
   ·refine .inr ⟨i + 1, ?_, by simp; omega, by simpa using h3, fun q hq => ?_⟩
    ·simp only [idxF, if_neg h, h1]; omega
    ·rw [List.take_succ_cons] at hq
     rcases List.mem_cons.1 hq with rfl | hq
     ·exact h'
     ·exact h4 q hq
def emptyS (s : Sp) : Bool := decide (s.1 ≥ s.2)
theorem form1_p (s : Sp) : PureD Try.prog 34 [.agg [.int .i64 s.1, .int .i64 s.2]] (.bool (emptyS s)) := by
 refine pureV Try.func34 low34 (by simp [c34]) ?_
 simp only [c34]
 repeat' ((first | refine Run_seq ?_ | refine Run_skip ?_ | refine Run_block ?_ | refine Run_blk ?_ | refine Run_exit rfl ?_ | refine Run_ret ?_ | refine Run_nil ?_ | refine Run_condK ?_ | refine Run_ops mixed ?_ | refine Run_opsX mixed ?_ | with_reducible refine PostV_open ?_ | with_reducible refine PostG_open ?_ | with_reducible refine PostQ_open ?_ | with_reducible refine ro_callV ?_ | with_reducible refine ro_callVX ?_ | simp (disch := omega) only [w64, wu64, wu32, wu16, wu8, Int.tdiv_eq_ediv_of_nonneg, Int.tmod_eq_emod_of_nonneg] | (with_reducible refine SliceK_own rfl rfl ?_ ?_; (focus ((try simp only [rowsS_len, reduceIte, Int.natCast_nonneg, Int.le_refl, List.length_append, List.length_map, Nat.sub_zero]) <;> ((repeat' (with_reducible refine And.intro ?_ ?_)) <;> first | exact trivial | assumption | (simp; done) | (simp only [List.length_map] at *; omega) | omega | (simp [D.cells, D.ok, D.one, D.pt, D.pt1]; done))))) | (refine GuardK_split (fun hc => ?_) (fun hc => ?_) <;> (try simp only [hc]) <;> (try simp at hc)) | (refine CondK_split (fun hc => ?_) (fun hc => ?_) <;> (try simp only [hc]) <;> (try simp at hc)) | (with_reducible refine And.intro ?_ ?_; (focus ((repeat' (with_reducible refine And.intro ?_ ?_)) <;> first | exact trivial | assumption | (simp; done) | (simp only [List.length_map] at *; omega) | omega | (simp [D.cells, D.ok, D.one, D.pt, D.pt1]; done)))) | (with_reducible intro x hx) | omega) <;> (try simp only [rowsS_len, ro_nil, oo_def, om_def, ol_def, oa_def, on_def, og_def, gm_def, gl_def, ga_def, kc_def, kx_def, gk_def, kk_def, kb_def, pf_def, pt_def, ro_mov, ro_mkfn, ro_pick, ro_build, ro_slit, SlitK_t, SlitK_f, SlitK_x2, ro_chk, ro_bin, ro_eq, ro_un, ro_conv, ro_same, ro_b2s, ro_faddr, ro_fld, ro_idx, ro_ext, ro_len, ro_mx, ro_mn, ro_slice, SliceK_str, SliceK_list, ro_slice3, ro_load, LoadK_elt, LoadK_ptr, LoadO_some, LoadR_some, LoadR_map, ro_box, ro_alloc, ro_store, StoreK_ptr, StoreO_some, StoreR_some, ro_iaddr, IaddrK_list, IaddrK_own, IaddrR_some, IaddrR_map, ro_app, ro_appz, newsD_list, newsD_str, newsD_own, newsO_some, newsC_list, newsC_str, newsC_own, newsCO_some, AppN_some, AppZ_int, AppS_nil, AppS_own, AppO_acc, ro_cap, CapK_own, CapO, ro_ovl, OvlK_own, OvlO_some, ro_copy, CopyK_own, CopyO_some, ro_clear, ClearK_own, ClearO_some, ClearK_nil, ro_mks, MksK_int, winD_all, viewS_list, viewS_own', viewO_some, eqO_ptr, eqO_bool, eqO_func, eqO_row, eqO_list, eqO_own, eqOo_some, rx_nil, rx_cons, keepK_nil, keepK_cons, keepE_nil, keepE_cons, keepN_nil, keepN_cons, D.names, D.namesL, acc_real, acc_nl, acc_pure, acc_fz, acc_sz, acc_rows, acc_spare, ro_guard, GuardK_tt, GuardK_no, GuardK_ff, GuardK_tf, GuardK_ft, CondK_t, CondK_f, contP_some, lk_nil, lk_hit, lk_miss, Nat.reduceBEq, put_some, put_none, ev_t, ev_c, argEnv, reduceIte, Nat.reduceEqDiff, Nat.reduceAdd, Nat.reduceSub, Nat.reduceMul, Nat.reduceLT, Nat.reduceLeDiff, reduceCtorEq, binD, binInt, binStr, eqD, eqCell, eqCells, eqN, boolD, okD, aggD, unD, pickD, chkD, convD, sameD, strD, faddrD, fldD, idxD, extD, lenD, mxD, mnD, sliceD, slice3D, bndD, loadD, fillD, splice, D.cells, D.ok, D.one, D.pt, D.pt1, D.pt0, D.norm1, D.norm, cond_true, cond_false, true_and, and_true, and_self, Bool.true_and, Bool.and_true, Bool.false_and, Bool.and_false, Bool.not_true, Bool.not_false, Bool.true_or, Bool.false_or, Bool.or_true, Bool.or_false, List.getElem?_cons_zero, List.getElem?_cons_succ, List.getElem?_nil, List.length_cons, List.length_nil, List.length_map, List.length_append, List.length_set, List.length_take, List.length_drop, List.length_replicate, List.take_succ_cons, List.take_zero, List.take_nil, List.drop_succ_cons, List.drop_zero, List.drop_nil, List.cons_append, List.nil_append, List.append_nil, List.map_cons, List.map_nil, List.all_cons, List.all_nil, List.set_cons_zero, List.set_cons_succ, List.isEmpty_cons, List.isEmpty_nil, List.forall_mem_cons, List.not_mem_nil, List.forall_mem_nil, false_imp_iff, implies_true, ne_eq, not_false_eq_true, Option.map_some, Option.map_none, Nat.zero_add, Nat.add_zero, Nat.sub_self, Int.toNat_natCast, Int.reduceToNat, Int.reduceLT, Int.reduceLE, Int.reduceEq, Int.reduceBEq, beq_self_eq_true, Int.reduceNeg, decide_true, decide_false, IntKind.bits, Nat.min_eq_left, Int.reducePow, Nat.reducePow, Int.fdiv_eq_ediv_of_nonneg, Nat.lt_irrefl, Int.le_refl, Nat.le_refl, Int.natCast_nonneg, Nat.lt_add_one, Nat.zero_lt_succ, view, view2, view1, view0, mapO, capsD_fn, D.sc, D.sc1, D.sc2, pull, pull2, pull1, pull0, idx_hit, idx_miss, idx_nil, sucO_some, sucO_none, gate, pullσ, pullOb, Go.Vi.freeze, Go.Vi.freeze1, capt, capt.captL, reachL, reachO, isin, List.flatten_cons, List.flatten_nil, merge, mset, renOb, fr, D.ren, D.renL, List.getD_cons_zero, List.getD_cons_succ, List.nodup_cons, List.nodup_nil, List.mem_cons, or_false, false_or, resK_nil, resK_tmp, resK_cell, ResC_ptr, ResO_some, ResR_some, ResL_some, ofRes, List.reverse_nil, Option.some.injEq, D.bool.injEq, D.int.injEq, D.str.injEq, D.agg.injEq, D.tup.injEq, D.list.injEq, D.ptr.injEq, D.own.injEq, List.cons.injEq, BndE_fn]))
 all_goals (simp [emptyS]; try omega)
theorem ixE_p (l : List Sp) (hl : l.length ≤ 400000000000) : PureD Try.prog 43 [LS l, .fn 34 []] (.int .i64 (idxF (fun s => emptyS s) l 0)) := by
 refine pureV Try.func43 low43 (by simp [c43]) ?_
 simp only [c43]
 refine wk [] [] @exVJ1 ?_
 refine Run_loop (ι := {i : Nat // i ≤ l.length ∧ idxF (fun s => emptyS s) l 0 = idxF (fun s => emptyS s) (l.drop i) i}) (fun i => ([(0, LS l), (1, .fn 34 []), (7, .int .i64 l.length), (8, .int .i64 i.1)], [])) (fun i => l.length - i.1) ⟨0, by simp⟩ ?_ ?_
 ·exact gcw [] @exVJ1
 rintro ⟨i, hi, hx⟩ hk
 dsimp only at hk ⊢
 by_cases hlt : i < l.length
 ·have c1 : ((i : Int) < (l.length : Int)) = True := by simp; omega
  obtain ⟨p, hp⟩ : ∃ p, l[i]? = some p := ⟨_, List.getElem?_eq_getElem hlt⟩
  have hr := rowsS_get hp
  have hdr : l.drop i = p :: l.drop (i + 1) := by
   rw [List.getElem?_eq_getElem hlt] at hp; cases hp; exact List.drop_eq_getElem_cons hlt
  have lv := form1_p p
  by_cases hc : (fun s => emptyS s) p = true
  ·have e : idxF (fun s => emptyS s) l 0 = i := by rw [hx, hdr, idxF, if_pos hc]
   rw [e]
   dsimp only at hc
   rw [hc] at lv
   exact wk0 [] [] (an @exVJ1 (an c1 hr))
  ·have e : idxF (fun s => emptyS s) l 0 = idxF (fun s => emptyS s) (l.drop (i + 1)) (i + 1) := by rw [hx, hdr, idxF, if_neg hc]
   have hc' : (fun s => emptyS s) p = false := by simpa using hc
   dsimp only at hc'
   rw [hc'] at lv
   refine wk [] [] (an @exVJ1 (an c1 hr)) ?_
   refine hk ⟨i + 1, by omega, e⟩ _ _ (by dsimp only; omega) ?_
   dsimp only
   exact gcw [] @exVJ1
 ·have c1 : ((i : Int) < (l.length : Int)) = False := by simp; omega
  have e : idxF (fun s => emptyS s) l 0 = -1 := by rw [hx, List.drop_eq_nil_of_le (by omega)]; rfl
  rw [e]
  exact wk0 [] [] (an @exVJ1 c1)
def fullS (l : List Sp) : List Sp := l.filter fun s => !emptyS s
theorem fullS_take {l : List Sp} {j : Nat} {p : Sp} (h : l[j]? = some p) : fullS (l.take (j + 1)) = fullS (l.take j) ++ if emptyS p = true then [] else [p] := by
 have : l.take (j + 1) = l.take j ++ [p] := by rw [List.take_add_one, h]; rfl
 rw [this]
 unfold fullS
 rw [List.filter_append]
 congr 1
 by_cases hx : emptyS p = true <;> simp [hx]
theorem dfnone_p : CallG Try.prog 32 [.list none true [], .fn 34 []] [] (.list none true []) [] := CallG.nils fun b _ => by
 have h : CallG Try.prog 32 [.list (some b) true [], .fn 34 []] [] (.list (some b) true []) [] := by
  refine callG Try.func32 low32 (by simp [c32]) ?_
  simp only [c32]
  have ix := ixE_p [] (by simp)
  simp only [rowsS, List.map_nil, show idxF (fun s => emptyS s) [] 0 = -1 from rfl] at ix
  refine wk [] [] @exVJ1 ?_
  exact rtw [] @exVJ1
 exact h.nl
theorem dfno_p (l : List Sp) (hl : l.length ≤ 400000000000) (hn : ∀ p ∈ l, emptyS p = false) (hne : l ≠ []) : CallG Try.prog 32 [.own 0 0 l.length l.length 2 none, .fn 34 []] [acc true 2 true (rowsS l)] (.own 0 0 l.length l.length 2 none) [acc true 2 true (rowsS l)] := by
 refine callG Try.func32 low32 (by simp [c32]) ?_
 simp only [c32]
 have e : idxF (fun s => emptyS s) l 0 = -1 := by
  rcases idxF_spec (fun s => emptyS s) l 0 with ⟨h, _⟩ | ⟨i, _, _, ⟨p, hp, ho⟩, _⟩
  ·exact h
  ·have := hn p (List.mem_of_getElem? hp)
   rw [this] at ho; cases ho
 have ix := ixE_p l hl
 rw [e] at ix
 refine wk [] [] @exVJ1 ?_
 exact rtw [0] @exVJ1
abbrev zrS : List D := [.int .i64 0, .int .i64 0]
set_option maxHeartbeats 2000000 in
theorem df_p (l : List Sp) (hl : l.length ≤ 400000000000) (hn : ∃ p ∈ l, emptyS p = true) : CallG Try.prog 32 [.own 0 0 l.length l.length 2 none, .fn 34 []] [acc true 2 true (rowsS l)] (.own 0 0 (fullS l).length l.length 2 none)
  [acc true 2 true (rowsS (fullS l) ++ List.replicate (l.length - (fullS l).length) zrS)] := by
 refine callG Try.func32 low32 (by simp [c32]) ?_
 simp only [c32]
 obtain ⟨i, hi, hil, ⟨p, hp, ho⟩, hb⟩ : ∃ i : Nat, idxF (fun s => emptyS s) l 0 = (i : Int) ∧ i < l.length ∧ (∃ p, l[i]? = some p ∧ emptyS p = true) ∧ ∀ q ∈ l.take i, emptyS q = false := by
  rcases idxF_spec (fun s => emptyS s) l 0 with ⟨_, h⟩ | ⟨i, h1, h2⟩
  ·obtain ⟨p, hp, ho⟩ := hn
   have := h p hp
   rw [ho] at this; cases this
  ·exact ⟨i, by simpa using h1, h2⟩
 have hne : (rowsS l).isEmpty = false := by
  cases l with
  | nil => simp at hil
  | cons => rfl
 have ix := ixE_p l hl
 rw [hi] at ix
 have k0 : fullS (l.take i) = l.take i := by
  unfold fullS
  rw [List.filter_eq_self]
  intro q hq
  simp [hb q hq]
 have c0 : ((i : Int) == -1) = false := by simp
 refine wk [] [] (an @exVJ1 c0) ?_
 refine Run_loop (ι := {j : Nat × List Sp // j.1 ≤ l.length ∧ j.2.length + (fullS (l.take j.1)).length = j.1 ∧ 1 ≤ j.2.length}) (fun j => ([(0, .own 0 0 l.length l.length 2 none), (1, .fn 34 []), (5, .int .i64 (fullS (l.take j.1.1)).length), (6, .int .i64 j.1.1)],
  [⟨true, false, true, false, 2, rowsS (fullS (l.take j.1.1) ++ (j.1.2 ++ l.drop j.1.1)), none⟩])) (fun j => l.length - j.1.1) ⟨(i + 1, [p]), by dsimp only; omega, by dsimp only; rw [fullS_take hp, if_pos ho, List.append_nil, k0, List.length_take]; simp only [List.length_cons, List.length_nil]; omega, by simp⟩ ?_ ?_
 ·have eK : fullS (l.take (i + 1)) = l.take i := by rw [fullS_take hp, if_pos ho, List.append_nil, k0]
  have eL : l.take i ++ ([p] ++ l.drop (i + 1)) = l := by
   have h1 : l.drop i = p :: l.drop (i + 1) := by
    rw [List.getElem?_eq_getElem hil] at hp; cases hp; exact List.drop_eq_getElem_cons hil
   rw [List.singleton_append, ← h1, List.take_append_drop]
  have eN : (l.take i).length = i := by rw [List.length_take]; omega
  dsimp only
  rw [eK, eL, eN, acc_ne' hne]
  exact gcw [0] @exVJ1
 rintro ⟨⟨j, X⟩, hj, hX, hX1⟩ hk
 dsimp only at hk hj hX hX1 ⊢
 obtain ⟨x, X', rfl⟩ : ∃ x X', X = x :: X' := by
  cases X with
  | nil => simp at hX1
  | cons x X' => exact ⟨x, X', rfl⟩
 by_cases hlt : j < l.length
 ·have c1 : ((j : Int) < (l.length : Int)) = True := by simp; omega
  obtain ⟨q, hq⟩ : ∃ q, l[j]? = some q := ⟨_, List.getElem?_eq_getElem hlt⟩
  have hdr : l.drop j = q :: l.drop (j + 1) := by
   rw [List.getElem?_eq_getElem hlt] at hq; cases hq; exact List.drop_eq_getElem_cons hlt
  have hkt := fullS_take hq
  have lv := form1_p q
  rw [hdr]
  generalize fullS (l.take j) = F at hX hkt ⊢
  have hr : (F ++ (x :: X' ++ q :: l.drop (j + 1)))[j]? = some q := by
   rw [← List.append_assoc, List.getElem?_append_right (by simp only [List.length_append]; omega)]
   have : j - (F ++ x :: X').length = 0 := by simp only [List.length_append]; omega
   rw [this]; rfl
  have hr2 : (F ++ (x :: X' ++ q :: l.drop (j + 1)))[F.length]? = some x := by
   rw [List.getElem?_append_right (Nat.le_refl _), Nat.sub_self]; rfl
  have hm1 : (F ++ (x :: X' ++ q :: l.drop (j + 1))).length = l.length := by
   simp only [List.length_append, List.length_cons, List.length_drop] at hX ⊢
   omega
  by_cases hc : emptyS q = true
  ·rw [hc] at lv
   rw [if_pos hc, List.append_nil] at hkt
   have hm : F ++ (x :: X' ++ q :: l.drop (j + 1)) = F ++ (x :: (X' ++ [q]) ++ l.drop (j + 1)) := by simp
   generalize F ++ (x :: X' ++ q :: l.drop (j + 1)) = m at hr hm hm1 ⊢
   have hr' := rowsS_get hr
   refine wk [] [] (an @exVJ1 (an c1 (an hr' hm1))) ?_
   refine hk ⟨(j + 1, x :: (X' ++ [q])), by dsimp only; omega, by dsimp only; rw [hkt]; simp only [List.length_append, List.length_cons, List.length_nil] at hX ⊢; omega, by simp⟩ _ _ (by dsimp only; omega) ?_
   dsimp only
   rw [hkt, ← hm]
   exact gcw [0] @exVJ1
  ·have hc' : emptyS q = false := by simpa using hc
   rw [hc'] at lv
   rw [if_neg hc] at hkt
   have hm : (F ++ (x :: X' ++ q :: l.drop (j + 1))).set F.length q = F ++ [q] ++ (X' ++ [q] ++ l.drop (j + 1)) := by
    rw [List.set_append_right _ _ (Nat.le_refl _), Nat.sub_self]; simp
   have hFl : F.length < l.length := by simp only [List.length_cons] at hX; omega
   generalize F ++ (x :: X' ++ q :: l.drop (j + 1)) = m at hr hr2 hm hm1 ⊢
   have hr' := rowsS_get hr
   have hr2' := rowsS_get hr2
   have hs : (rowsS m).set F.length [.int .i64 q.1, .int .i64 q.2] = rowsS (m.set F.length q) := by simp [rowsS, List.map_set]
   rw [hm] at hs
   refine wk [] [] (an @exVJ1 (an c1 (an hr' (an hr2' (an hm1 hs))))) ?_
   refine hk ⟨(j + 1, X' ++ [q]), by dsimp only; omega, by dsimp only; rw [hkt]; simp only [List.length_append, List.length_cons, List.length_nil] at hX ⊢; omega, by simp⟩ _ _ (by dsimp only; omega) ?_
   dsimp only
   rw [hkt]
   simp only [List.length_append, List.length_cons, List.length_nil]
   exact gcw [0] @exVJ1
 ·have c1 : ((j : Int) < (l.length : Int)) = False := by simp; omega
  obtain rfl : j = l.length := by omega
  rw [List.take_length] at hX ⊢
  rw [List.drop_length, List.append_nil]
  generalize fullS l = F at hX ⊢
  have hm1 : (F ++ x :: X').length = l.length := by simp only [List.length_append]; omega
  have hm2 : List.take F.length (rowsS (F ++ x :: X')) = rowsS F := by simp [rowsS]
  have hm3 : List.drop (F.length + (l.length - F.length)) (rowsS (F ++ x :: X')) = [] := List.drop_eq_nil_of_le (by rw [rowsS_len]; omega)
  generalize F ++ x :: X' = m at hm1 hm2 hm3 ⊢
  refine wk [] [] (an @exVJ1 (an c1 (an hm1 (an hm2 hm3)))) ?_
  rw [Nat.sub_zero, acc_ne' (rows := rowsS F ++ List.replicate (l.length - F.length) zrS) (by
   obtain ⟨n, hn⟩ : ∃ n, l.length - F.length = n + 1 := ⟨l.length - F.length - 1, by simp only [List.length_cons] at hX; omega⟩
   rw [hn]; simp [List.replicate_succ])]
  exact rtw [0] @exVJ1
end Go.Proofs.Ytggchhmgeafoaaa

namespace Go.Proofs.Ytggchhmgeafoaaa
open Go Go.Vi Go.Shelf Go.RowKit Go.Lib Go.Sort
theorem nan41 (x : Int) (W : World) : Calls Try.prog 46 #[.int .i64 x] W fun e w' => e = .returned (.bool false) ∧ w' = W := by
 go_enter Try.func46, Try.ntmps46
 go_wp2
 all_goals (go_ret; refine ⟨?_, rfl⟩; simp)
theorem cmp28 (x y : Int) (W : World) : Calls Try.prog 37 #[.int .i64 x, .int .i64 y] W fun e w' => e = .returned (.int .i64 (Lib.compareInt x y)) ∧ w' = W := by
 have hn := fun x W => nan41 x W
 go_enter Try.func37, Try.ntmps37
 go_wp2_with (go_at_call 46; refine (hn _ _).mono ?_; rintro e w' ⟨rfl, hw⟩; rw [hw])
 all_goals (go_ret; refine ⟨?_, rfl⟩; unfold Lib.compareInt; (repeat' split) <;> first | rfl | (exfalso; omega))
theorem closure27 (x y : Int × Int) (W : World) : Calls Try.prog 36 #[.agg #[.int .i64 x.1, .int .i64 x.2], .agg #[.int .i64 y.1, .int .i64 y.2]] W fun e w' => e = .returned (.int .i64 (Lib.compareInt x.1 y.1)) ∧ ∃ q os', w' = grow (W.drewN q) os' := by
 have hcon := fun W' => cmp28 x.1 y.1 W'
 generalize Lib.compareInt x.1 y.1 = r at hcon ⊢
 go_enter Try.func36, Try.ntmps36
 go_wp2_with (go_at_call 37; refine (hcon _).mono ?_; rintro e w' ⟨rfl, rfl⟩)
 go_ret
 exact ⟨rfl, 0, _, by rw [alloc_eq_grow, alloc_eq_grow, grow_grow]; rfl⟩
theorem ltLo (x y : Int × Int) : ltOf (fun x y : Int × Int => Lib.compareInt x.1 y.1) x y = decide (x.1 < y.1) := by
 unfold ltOf Lib.compareInt
 by_cases h1 : x.1 < y.1
 ·simp [h1]
 ·by_cases h2 : y.1 < x.1 <;> simp [h1, h2]
theorem swoLo : SWO (ltOf fun x y : Int × Int => Lib.compareInt x.1 y.1) where
 irrefl x := by rw [ltLo]; simp
 trans x y z h1 h2 := by rw [ltLo] at *; simp at *; omega
 ntrans x y z h1 h2 := by rw [ltLo] at *; simp at *; omega
noncomputable def sortA (d : Array (Int × Int)) : Array (Int × Int) := pdq (ltOf fun x y : Int × Int => Lib.compareInt x.1 y.1) d 0 d.size (Lib.bitLen d.size) true true
noncomputable def sortS (l : List Sp) : List Sp := (sortA l.toArray).toList
theorem sort_facts (d : Array (Int × Int)) : PermIn 0 d.size d (sortA d) ∧ SortedIn (ltOf fun x y : Int × Int => Lib.compareInt x.1 y.1) 0 d.size (sortA d) :=
 pdq_sorts (ltOf fun x y : Int × Int => Lib.compareInt x.1 y.1) swoLo d 0 d.size (Lib.bitLen d.size) true true (Nat.zero_le _) (Nat.le_refl _) (Or.inl rfl)
theorem sortA_size (d : Array (Int × Int)) : (sortA d).size = d.size := (sort_facts d).1.1
theorem sortS_perm (l : List Sp) : (sortS l).Perm l := by
 have h := (sort_facts l.toArray).1.2.2
 have hs := sortA_size l.toArray
 have e1 : (sortA l.toArray).extract 0 l.toArray.size = sortA l.toArray := by rw [← hs]; simp
 have e2 : l.toArray.extract 0 l.toArray.size = l.toArray := by simp
 rw [e1, e2] at h
 simpa [sortS] using h
theorem sortS_len (l : List Sp) : (sortS l).length = l.length := (sortS_perm l).length_eq
theorem sortS_sorted (l : List Sp) : (sortS l).Pairwise fun a b => a.1 ≤ b.1 := by
 have h := (sort_facts l.toArray).2
 have hs := sortA_size l.toArray
 rw [List.pairwise_iff_getElem]
 intro i j hi hj hij
 have hi' : i < (sortA l.toArray).size := by simpa [sortS] using hi
 have hj' : j < (sortA l.toArray).size := by simpa [sortS] using hj
 have := h i j (Nat.zero_le _) hij (by rw [← hs]; exact hj')
 rw [ltLo, getElem!_pos _ i hi', getElem!_pos _ j hj'] at this
 simp at this
 simpa [sortS] using this
theorem sort_p (l : List Sp) (R : List (List D)) (hn : 0 < l.length + R.length) (hl : l.length ≤ 400000000000) :
  CallG Try.prog 35 [.own 0 0 l.length (l.length + R.length) 2 none, .fn 36 []] [⟨true, false, true, false, 2, rowsS l ++ R, none⟩] (.tup []) [⟨true, false, true, false, 2, rowsS (sortS l) ++ R, none⟩] := by
 have eg : ∀ args w, (callFunc 36 args).run Try.prog w = .ok (.enter 36 args) w := enters_of Try.func36 (by kernel_rfl) rfl
 have en : Vi.Enters Try.prog 35 := ⟨_, Try.func35, by kernel_rfl, by kernel_rfl⟩
 have h := CallG.sort (P := Try.prog) (f := 35) (g := 36) (d := l.toArray) (d' := sortA l.toArray) (R := R) (sortA_size _) (by simpa using hn) en (fun w b cap hH hblk =>
  AnyQ.slices_SortFunc_eq Try.sortS 2 Try.isAgg24 Try.sizeOf24 encS (fun _ => rfl) (fun x v hv => by simp [encS] at hv; rcases hv with rfl | rfl <;> rfl) (fun x y => Lib.compareInt x.1 y.1) swoLo 36 #[] b 0 cap l.toArray w eg (fun _ _ _ _ x y => closure27 x y _) hH hblk (by simp; omega))
 simpa [sortS] using h
theorem sortnone_p : CallG Try.prog 35 [.list none true [], .fn 36 []] [] (.tup []) [] := by
 have en : Vi.Enters Try.prog 35 := ⟨_, Try.func35, by kernel_rfl, by kernel_rfl⟩
 refine ⟨en, fun C vs hσ hi hrow => ?_⟩
 obtain ⟨hl, hr⟩ := hrow
 obtain ⟨v0, v1, rfl⟩ : ∃ v0 v1, vs = [v0, v1] := by
  match vs, hl with
  | [v0, v1], _ => exact ⟨v0, v1, rfl⟩
 have r0 := hr 0 _ v0 rfl rfl
 obtain ⟨p, rfl⟩ : ∃ p, v0 = .slice p 0 0 := by
  cases r0 with
  | pure h => cases h with
   | list nl tg rows A cap sz vf h1 h2 h3 h4 h5 h9 h6 h7 h8 =>
    have : cap = 0 := h4 rfl
    subst this
    exact ⟨A, rfl⟩
 have h : Calls Try.prog 35 #[.slice p 0 0, v1] C.w fun e w' => e = .returned (.tuple #[]) ∧ w' = C.w := AnyF.slices_SortFunc_none Try.sortS p 0 v1 C.w
 refine h.mono ?_
 rintro e w' ⟨rfl, rfl⟩
 exact ⟨_, C, .tup [], rfl, rfl, Ext.refl C, hi, .tup [] [] rfl (by simp), rfl, hσ⟩
end Go.Proofs.Ytggchhmgeafoaaa

namespace Go.Proofs.Ytggchhmgeafoaaa
open Go Go.Vi
theorem dfx_p (l : List Sp) (hl : l.length ≤ 400000000000) (hne : l ≠ []) : CallG Try.prog 32 [.own 0 0 l.length l.length 2 none, .fn 34 []] [acc true 2 true (rowsS l)] (.own 0 0 (fullS l).length l.length 2 none)
  [⟨true, false, true, false, 2, rowsS (fullS l) ++ List.replicate (l.length - (fullS l).length) zrS, none⟩] := by
 have hre : (rowsS l).isEmpty = false := by
  cases l with
  | nil => exact absurd rfl hne
  | cons => rfl
 by_cases h : ∃ p ∈ l, emptyS p = true
 ·have hd := df_p l hl h
  have hie : (rowsS (fullS l) ++ List.replicate (l.length - (fullS l).length) zrS).isEmpty = false := by
   have hle : (fullS l).length ≤ l.length := List.length_filter_le ..
   have : 0 < (rowsS (fullS l) ++ List.replicate (l.length - (fullS l).length) zrS).length := by
    simp only [List.length_append, rowsS_len, List.length_replicate]
    have : 0 < l.length := List.length_pos_iff.2 hne
    omega
   cases hq : rowsS (fullS l) ++ List.replicate (l.length - (fullS l).length) zrS with
   | nil => rw [hq] at this; simp at this
   | cons => rfl
  rw [acc_ne' hie] at hd
  exact hd
 ·have hn : ∀ p ∈ l, emptyS p = false := fun p hp => by
   cases hh : emptyS p with
   | false => rfl
   | true => exact absurd ⟨p, hp, hh⟩ h
  have e : fullS l = l := by
   unfold fullS
   rw [List.filter_eq_self]
   intro p hp
   simp [hn p hp]
  have hd := dfno_p l hl hn hne
  rw [e, Nat.sub_self, List.replicate_zero, List.append_nil]
  rw [acc_ne' hre] at hd ⊢
  exact hd
theorem stepF_nil (s : Sp) : stepF [] s = [s] := rfl
theorem stepF_snoc (o : List Sp) (c s : Sp) : stepF (o ++ [c]) s = if s.1 ≤ c.2 then o ++ [(c.1, max c.2 s.2)] else o ++ [c] ++ [s] := by simp [stepF]
theorem exVJ3 : type_of% @rowsS_len := @rowsS_len
set_option maxHeartbeats 8000000 in
theorem form_p (l : List Sp) (hl : l.length ≤ 400000000000) : PureD Try.prog 23 [LS l] (LS (formS (sortS (fullS l)))) := by
 refine pureV Try.func23 low23 (by simp [c23]) ?_
 simp only [c23]
 by_cases hne : l = []
 ·subst hne
  have e : sortS (fullS []) = [] := by
   have := sortS_len (fullS [])
   exact List.eq_nil_of_length_eq_zero (by simpa [fullS] using this)
  rw [e]
  have eLS : LS [] = .list none false [] := rfl
  have eF : formS [] = [] := rfl
  simp only [eF, eLS]
  have uc1 := @clS_any
  have uc2 := @dfnone_p
  have uc3 := @sortnone_p
  refine wk [33, 32, 35] [] @exVJ3 ?_
  refine Run_loop (ι := Unit) (fun _ => ([(3, .list none true []), (4, .list none false []), (15, .list none true []), (16, .int .i64 ((0 : Nat) : Int)), (17, .int .i64 0)], [])) (fun _ => 0) () ?_ ?_
  ·exact gcw [] @exVJ3
  rintro ⟨⟩ hk
  dsimp only
  repeat' ((first | refine Run_seq ?_ | refine Run_skip ?_ | refine Run_block ?_ | refine Run_blk ?_ | refine Run_exit rfl ?_ | refine Run_ret ?_ | refine Run_nil ?_ | refine Run_condK ?_ | refine Run_ops mixed ?_ | refine Run_opsX mixed ?_ | with_reducible refine PostV_open ?_ | with_reducible refine PostG_open ?_ | with_reducible refine PostQ_open ?_ | with_reducible refine ro_callV ?_ | with_reducible refine ro_callVX ?_ | simp (disch := omega) only [w64, wu64, wu32, wu16, wu8, Int.tdiv_eq_ediv_of_nonneg, Int.tmod_eq_emod_of_nonneg] | (with_reducible refine SliceK_own rfl rfl ?_ ?_; (focus ((try simp only [rowsS_len, reduceIte, Int.natCast_nonneg, Int.le_refl, List.length_append, List.length_map, Nat.sub_zero]) <;> ((repeat' (with_reducible refine And.intro ?_ ?_)) <;> first | exact trivial | assumption | (simp; done) | (simp only [List.length_map] at *; omega) | omega | (simp [D.cells, D.ok, D.one, D.pt, D.pt1]; done))))) | (refine GuardK_split (fun hc => ?_) (fun hc => ?_) <;> (try simp only [hc]) <;> (try simp at hc)) | (refine CondK_split (fun hc => ?_) (fun hc => ?_) <;> (try simp only [hc]) <;> (try simp at hc)) | (with_reducible refine And.intro ?_ ?_; (focus ((repeat' (with_reducible refine And.intro ?_ ?_)) <;> first | exact trivial | assumption | (simp; done) | (simp only [List.length_map] at *; omega) | omega | (simp [D.cells, D.ok, D.one, D.pt, D.pt1]; done)))) | (with_reducible intro x hx) | omega) <;> (try simp only [rowsS_len, ro_nil, oo_def, om_def, ol_def, oa_def, on_def, og_def, gm_def, gl_def, ga_def, kc_def, kx_def, gk_def, kk_def, kb_def, pf_def, pt_def, ro_mov, ro_mkfn, ro_pick, ro_build, ro_slit, SlitK_t, SlitK_f, SlitK_x2, ro_chk, ro_bin, ro_eq, ro_un, ro_conv, ro_same, ro_b2s, ro_faddr, ro_fld, ro_idx, ro_ext, ro_len, ro_mx, ro_mn, ro_slice, SliceK_str, SliceK_list, ro_slice3, ro_load, LoadK_elt, LoadK_ptr, LoadO_some, LoadR_some, LoadR_map, ro_box, ro_alloc, ro_store, StoreK_ptr, StoreO_some, StoreR_some, ro_iaddr, IaddrK_list, IaddrK_own, IaddrR_some, IaddrR_map, ro_app, ro_appz, newsD_list, newsD_str, newsD_own, newsO_some, newsC_list, newsC_str, newsC_own, newsCO_some, AppN_some, AppZ_int, AppS_nil, AppS_own, AppO_acc, ro_cap, CapK_own, CapO, ro_ovl, OvlK_own, OvlO_some, ro_copy, CopyK_own, CopyO_some, ro_clear, ClearK_own, ClearO_some, ClearK_nil, ro_mks, MksK_int, winD_all, viewS_list, viewS_own', viewO_some, eqO_ptr, eqO_bool, eqO_func, eqO_row, eqO_list, eqO_own, eqOo_some, rx_nil, rx_cons, keepK_nil, keepK_cons, keepE_nil, keepE_cons, keepN_nil, keepN_cons, D.names, D.namesL, acc_real, acc_nl, acc_pure, acc_fz, acc_sz, acc_rows, acc_spare, ro_guard, GuardK_tt, GuardK_no, GuardK_ff, GuardK_tf, GuardK_ft, CondK_t, CondK_f, contP_some, lk_nil, lk_hit, lk_miss, Nat.reduceBEq, put_some, put_none, ev_t, ev_c, argEnv, reduceIte, Nat.reduceEqDiff, Nat.reduceAdd, Nat.reduceSub, Nat.reduceMul, Nat.reduceLT, Nat.reduceLeDiff, reduceCtorEq, binD, binInt, binStr, eqD, eqCell, eqCells, eqN, boolD, okD, aggD, unD, pickD, chkD, convD, sameD, strD, faddrD, fldD, idxD, extD, lenD, mxD, mnD, sliceD, slice3D, bndD, loadD, fillD, splice, D.cells, D.ok, D.one, D.pt, D.pt1, D.pt0, D.norm1, D.norm, cond_true, cond_false, true_and, and_true, and_self, Bool.true_and, Bool.and_true, Bool.false_and, Bool.and_false, Bool.not_true, Bool.not_false, Bool.true_or, Bool.false_or, Bool.or_true, Bool.or_false, List.getElem?_cons_zero, List.getElem?_cons_succ, List.getElem?_nil, List.length_cons, List.length_nil, List.length_map, List.length_append, List.length_set, List.length_take, List.length_drop, List.length_replicate, List.take_succ_cons, List.take_zero, List.take_nil, List.drop_succ_cons, List.drop_zero, List.drop_nil, List.cons_append, List.nil_append, List.append_nil, List.map_cons, List.map_nil, List.all_cons, List.all_nil, List.set_cons_zero, List.set_cons_succ, List.isEmpty_cons, List.isEmpty_nil, List.forall_mem_cons, List.not_mem_nil, List.forall_mem_nil, false_imp_iff, implies_true, ne_eq, not_false_eq_true, Option.map_some, Option.map_none, Nat.zero_add, Nat.add_zero, Nat.sub_self, Int.toNat_natCast, Int.reduceToNat, Int.reduceLT, Int.reduceLE, Int.reduceEq, Int.reduceBEq, beq_self_eq_true, Int.reduceNeg, decide_true, decide_false, IntKind.bits, Nat.min_eq_left, Int.reducePow, Nat.reducePow, Int.fdiv_eq_ediv_of_nonneg, Nat.lt_irrefl, Int.le_refl, Nat.le_refl, Int.natCast_nonneg, Nat.lt_add_one, Nat.zero_lt_succ, view, view2, view1, view0, mapO, capsD_fn, D.sc, D.sc1, D.sc2, pull, pull2, pull1, pull0, idx_hit, idx_miss, idx_nil, sucO_some, sucO_none, gate, pullσ, pullOb, Go.Vi.freeze, Go.Vi.freeze1, capt, capt.captL, reachL, reachO, isin, List.flatten_cons, List.flatten_nil, merge, mset, renOb, fr, D.ren, D.renL, List.getD_cons_zero, List.getD_cons_succ, List.nodup_cons, List.nodup_nil, List.mem_cons, or_false, false_or, resK_nil, resK_tmp, resK_cell, ResC_ptr, ResO_some, ResR_some, ResL_some, ofRes, List.reverse_nil, Option.some.injEq, D.bool.injEq, D.int.injEq, D.str.injEq, D.agg.injEq, D.tup.injEq, D.list.injEq, D.ptr.injEq, D.own.injEq, List.cons.injEq, BndE_fn]))
  skip
 ·have hre : rowsS l ≠ [] := by
   cases l with
   | nil => exact absurd rfl hne
   | cons => simp [rowsS]
  have cl := clS_ne false (rowsS l) hre (fun r hr => by obtain ⟨x, rfl⟩ := rowsS_mem hr; rfl) (by rw [rowsS_len]; omega)
  rw [rowsS_len] at cl
  have dx := dfx_p l hl hne
  have hle : (fullS l).length ≤ l.length := List.length_filter_le ..
  have hpos : 0 < l.length := List.length_pos_iff.2 hne
  have so := sort_p (fullS l) (List.replicate (l.length - (fullS l).length) zrS) (by rw [List.length_replicate]; omega) (by omega)
  have hlr : (List.replicate (l.length - (fullS l).length) zrS).length = l.length - (fullS l).length := List.length_replicate
  have hsl := sortS_len (fullS l)
  rw [hlr, show (fullS l).length + (l.length - (fullS l).length) = l.length by omega] at so
  generalize List.replicate (l.length - (fullS l).length) zrS = R at dx so hlr
  generalize sortS (fullS l) = S at so hsl ⊢
  generalize (fullS l).length = w at dx so hlr hsl hle
  generalize l.length = n at cl dx so hlr hle hpos hl
  refine wk [33, 32, 35] [] @exVJ3 ?_
  refine Run_loop (ι := {j : Nat × List Sp // j.1 ≤ w ∧ j.2.length + (formS (S.take j.1)).length = j.1}) (fun j => ([(3, .own 0 0 w n 2 none), (4, .own 0 0 (formS (S.take j.1.1)).length n 2 none), (15, .own 0 0 w n 2 none), (16, .int .i64 w), (17, .int .i64 j.1.1)],
   [⟨true, false, true, false, 2, rowsS (formS (S.take j.1.1) ++ (j.1.2 ++ S.drop j.1.1)) ++ R, none⟩])) (fun j => w - j.1.1) ⟨(0, []), by simp, by simp [formS]⟩ ?_ ?_
  ·have e0 : formS (S.take 0) = [] := by simp [formS]
   dsimp only
   rw [e0]
   simp only [List.nil_append, List.drop_zero, List.length_nil]
   exact gcw [0] @exVJ3
  rintro ⟨⟨i, X⟩, hi, hX⟩ hk
  dsimp only at hk hi hX ⊢
  by_cases hlt : i < w
  ·have c1 : ((i : Int) < (w : Int)) = True := by simp; omega
   obtain ⟨s, hs⟩ : ∃ s, S[i]? = some s := ⟨_, List.getElem?_eq_getElem (by omega)⟩
   have hdr : S.drop i = s :: S.drop (i + 1) := by
    rw [List.getElem?_eq_getElem (by omega)] at hs; cases hs; exact List.drop_eq_getElem_cons (by omega)
   have htk : formS (S.take (i + 1)) = stepF (formS (S.take i)) s := by
    have : S.take (i + 1) = S.take i ++ [s] := by rw [List.take_add_one, hs]; rfl
    rw [this, formS_snoc]
   have hDl : (S.drop (i + 1)).length = w - (i + 1) := by rw [List.length_drop, hsl]
   rw [hdr]
   generalize formS (S.take i) = O at hX htk ⊢
   generalize hDr : S.drop (i + 1) = Dr at hDl hdr ⊢
   have hml : (rowsS (O ++ (X ++ s :: Dr)) ++ R).length = n := by
    simp only [List.length_append, rowsS_len, List.length_cons]; omega
   have hr : (rowsS (O ++ (X ++ s :: Dr)) ++ R)[i]? = some [.int .i64 s.1, .int .i64 s.2] := by
    rw [List.getElem?_append_left (by simp only [List.length_append, rowsS_len, List.length_cons]; omega)]
    refine rowsS_get ?_
    rw [← List.append_assoc, List.getElem?_append_right (by simp only [List.length_append]; omega)]
    have : i - (O ++ X).length = 0 := by simp only [List.length_append]; omega
    rw [this]; rfl
   have put : (rowsS (O ++ (X ++ s :: Dr)) ++ R).take O.length ++ [[.int .i64 s.1, .int .i64 s.2]] ++ (rowsS (O ++ (X ++ s :: Dr)) ++ R).drop (O.length + 1) = rowsS (O ++ [s] ++ ((X ++ [s]).tail ++ Dr)) ++ R := by
    have e1 : X ++ s :: Dr = (X ++ [s]) ++ Dr := by simp
    obtain ⟨y, Y, hY⟩ : ∃ y Y, X ++ [s] = y :: Y := by cases X <;> simp
    rw [e1, hY]
    have e2 : rowsS (O ++ (y :: Y ++ Dr)) ++ R = rowsS O ++ ([.int .i64 y.1, .int .i64 y.2] :: (rowsS (Y ++ Dr) ++ R)) := by simp [rowsS]
    have e3 : rowsS (O ++ (y :: Y ++ Dr)) ++ R = (rowsS O ++ [[.int .i64 y.1, .int .i64 y.2]]) ++ (rowsS (Y ++ Dr) ++ R) := by simp [rowsS]
    have e4 : (rowsS (O ++ (y :: Y ++ Dr)) ++ R).take O.length = rowsS O := by rw [e2]; exact List.take_left' rowsS_len
    have e5 : (rowsS (O ++ (y :: Y ++ Dr)) ++ R).drop (O.length + 1) = rowsS (Y ++ Dr) ++ R := by rw [e3]; exact List.drop_left' (by simp [rowsS_len])
    rw [e4, e5]
    simp [rowsS]
   have hXt : (X ++ [s]).tail.length = X.length := by simp
   have hOn : O.length < n := by omega
   have ext : ∀ (o : List Sp) (c : Sp), O = o ++ [c] → (rowsS (O ++ (X ++ s :: Dr)) ++ R)[o.length]? = some [.int .i64 c.1, .int .i64 c.2] ∧ ∀ z : Int, (rowsS (O ++ (X ++ s :: Dr)) ++ R).set o.length [.int .i64 c.1, .int .i64 z] = rowsS (o ++ [(c.1, z)] ++ (X ++ [s] ++ Dr)) ++ R := fun o c hO => by
    subst hO
    have e2 : rowsS (o ++ [c] ++ (X ++ s :: Dr)) ++ R = rowsS o ++ [.int .i64 c.1, .int .i64 c.2] :: (rowsS (X ++ s :: Dr) ++ R) := by simp [rowsS]
    refine ⟨?_, fun z => ?_⟩
    ·rw [e2, List.getElem?_append_right (by rw [rowsS_len]; exact Nat.le_refl _), rowsS_len, Nat.sub_self]; rfl
    ·rw [e2, List.set_append_right _ _ (by rw [rowsS_len]; exact Nat.le_refl _), rowsS_len, Nat.sub_self]
     simp [rowsS]
   generalize rowsS (O ++ (X ++ s :: Dr)) ++ R = M at hml hr put ext ⊢
   rcases List.eq_nil_or_concat O with rfl | ⟨o, c, rfl⟩
   ·have c2 : (((0 : Nat) : Int) > 0) = False := by simp
    have c2' : ((0 : Int) > 0) = False := by simp
    rw [stepF_nil] at htk
    simp only [List.length_nil] at hX hOn put ⊢
    refine wk [] [] (an @exVJ3 (an c1 (an c2 (an c2' (an hr hml))))) ?_
    refine AppO_in (by omega) ⟨hml, by simp only [List.length_cons, List.length_nil]; omega, by simp only [List.length_cons, List.length_nil]; omega⟩ ⟨rfl, by simp only [List.length_cons, List.length_nil]; omega, by simp⟩ ?_
    simp only [List.length_cons, List.length_nil, Nat.zero_add, put, ro_nil, oo_def, om_def, ol_def, oa_def, on_def, og_def, gm_def, gl_def, ga_def, kc_def, kx_def, gk_def, kk_def, kb_def, pf_def, pt_def, ro_mov, ro_mkfn, ro_pick, ro_build, ro_slit, SlitK_t, SlitK_f, SlitK_x2, ro_chk, ro_bin, ro_eq, ro_un, ro_conv, ro_same, ro_b2s, ro_faddr, ro_fld, ro_idx, ro_ext, ro_len, ro_mx, ro_mn, ro_slice, SliceK_str, SliceK_list, ro_slice3, ro_load, LoadK_elt, LoadK_ptr, LoadO_some, LoadR_some, LoadR_map, ro_box, ro_alloc, ro_store, StoreK_ptr, StoreO_some, StoreR_some, ro_iaddr, IaddrK_list, IaddrK_own, IaddrR_some, IaddrR_map, ro_app, ro_appz, newsD_list, newsD_str, newsD_own, newsO_some, newsC_list, newsC_str, newsC_own, newsCO_some, AppN_some, AppZ_int, AppS_nil, AppS_own, AppO_acc, ro_cap, CapK_own, CapO, ro_ovl, OvlK_own, OvlO_some, ro_copy, CopyK_own, CopyO_some, ro_clear, ClearK_own, ClearO_some, ClearK_nil, ro_mks, MksK_int, winD_all, viewS_list, viewS_own', viewO_some, eqO_ptr, eqO_bool, eqO_func, eqO_row, eqO_list, eqO_own, eqOo_some, rx_nil, rx_cons, keepK_nil, keepK_cons, keepE_nil, keepE_cons, keepN_nil, keepN_cons, D.names, D.namesL, acc_real, acc_nl, acc_pure, acc_fz, acc_sz, acc_rows, acc_spare, ro_guard, GuardK_tt, GuardK_no, GuardK_ff, GuardK_tf, GuardK_ft, CondK_t, CondK_f, contP_some, lk_nil, lk_hit, lk_miss, Nat.reduceBEq, put_some, put_none, ev_t, ev_c, argEnv, reduceIte, Nat.reduceEqDiff, Nat.reduceAdd, Nat.reduceSub, Nat.reduceMul, Nat.reduceLT, Nat.reduceLeDiff, reduceCtorEq, binD, binInt, binStr, eqD, eqCell, eqCells, eqN, boolD, okD, aggD, unD, pickD, chkD, convD, sameD, strD, faddrD, fldD, idxD, extD, lenD, mxD, mnD, sliceD, slice3D, bndD, loadD, fillD, splice, D.cells, D.ok, D.one, D.pt, D.pt1, D.pt0, D.norm1, D.norm, cond_true, cond_false, true_and, and_true, and_self, Bool.true_and, Bool.and_true, Bool.false_and, Bool.and_false, Bool.not_true, Bool.not_false, Bool.true_or, Bool.false_or, Bool.or_true, Bool.or_false, List.getElem?_cons_zero, List.getElem?_cons_succ, List.getElem?_nil, List.length_cons, List.length_nil, List.length_map, List.length_append, List.length_set, List.length_take, List.length_drop, List.length_replicate, List.take_succ_cons, List.take_zero, List.take_nil, List.drop_succ_cons, List.drop_zero, List.drop_nil, List.cons_append, List.nil_append, List.append_nil, List.map_cons, List.map_nil, List.all_cons, List.all_nil, List.set_cons_zero, List.set_cons_succ, List.isEmpty_cons, List.isEmpty_nil, List.forall_mem_cons, List.not_mem_nil, List.forall_mem_nil, false_imp_iff, implies_true, ne_eq, not_false_eq_true, Option.map_some, Option.map_none, Nat.zero_add, Nat.add_zero, Nat.sub_self, Int.toNat_natCast, Int.reduceToNat, Int.reduceLT, Int.reduceLE, Int.reduceEq, Int.reduceBEq, beq_self_eq_true, Int.reduceNeg, decide_true, decide_false, IntKind.bits, Nat.min_eq_left, Int.reducePow, Nat.reducePow, Int.fdiv_eq_ediv_of_nonneg, Nat.lt_irrefl, Int.le_refl, Nat.le_refl, Int.natCast_nonneg, Nat.lt_add_one, Nat.zero_lt_succ, view, view2, view1, view0, mapO, capsD_fn, D.sc, D.sc1, D.sc2, pull, pull2, pull1, pull0, idx_hit, idx_miss, idx_nil, sucO_some, sucO_none, gate, pullσ, pullOb, Go.Vi.freeze, Go.Vi.freeze1, capt, capt.captL, reachL, reachO, isin, List.flatten_cons, List.flatten_nil, merge, mset, renOb, fr, D.ren, D.renL, List.getD_cons_zero, List.getD_cons_succ, List.nodup_cons, List.nodup_nil, List.mem_cons, or_false, false_or, resK_nil, resK_tmp, resK_cell, ResC_ptr, ResO_some, ResR_some, ResL_some, ofRes, List.reverse_nil, Option.some.injEq, D.bool.injEq, D.int.injEq, D.str.injEq, D.agg.injEq, D.tup.injEq, D.list.injEq, D.ptr.injEq, D.own.injEq, List.cons.injEq, BndE_fn]
    refine wk [] [] (an @exVJ3 c1) ?_
    refine hk ⟨(i + 1, (X ++ [s]).tail), by dsimp only; omega, by dsimp only; rw [htk, hXt]; simp only [List.length_cons, List.length_nil]; omega⟩ _ _ (by dsimp only; omega) ?_
    dsimp only
    have put' : [.int .i64 s.1, .int .i64 s.2] :: M.tail = rowsS ([s] ++ ((X ++ [s]).tail ++ Dr)) ++ R := by simpa using put
    rw [htk, hDr, ← put']
    simp only [List.length_cons, List.length_nil]
    exact gcw [0] @exVJ3
   ·obtain ⟨hc, hset⟩ := ext o c (by simp)
    have hol : (o.concat c).length = o.length + 1 := by simp
    have c2 : (((o.length + 1 : Nat) : Int) > 0) = True := by rw [eq_iff_iff]; exact ⟨fun _ => trivial, fun _ => by omega⟩
    have c3 : (((o.length + 1 : Nat) : Int) - 1) = (o.length : Int) := by omega
    rw [List.concat_eq_append] at htk hX hOn put hol ⊢
    rw [stepF_snoc] at htk
    rw [hol] at hX hOn put ⊢
    by_cases hsc : s.1 ≤ c.2
    ·have c4 : (s.1 ≤ c.2) = True := by simpa using hsc
     have hm := hset (if s.2 > c.2 then s.2 else c.2)
     have hmx : max c.2 s.2 = if s.2 > c.2 then s.2 else c.2 := by split <;> omega
     rw [if_pos hsc, hmx] at htk
     refine wk [] [] (an @exVJ3 (an c1 (an c2 (an c3 (an c4 (an hr (an hc (an hm hml)))))))) ?_
     refine hk ⟨(i + 1, X ++ [s]), by dsimp only; omega, by dsimp only; rw [htk]; simp only [List.length_append, List.length_cons, List.length_nil]; omega⟩ _ _ (by dsimp only; omega) ?_
     dsimp only
     rw [htk, hDr]
     simp only [List.length_append, List.length_cons, List.length_nil]
     exact gcw [0] @exVJ3
    ·have c4 : (s.1 ≤ c.2) = False := by simpa using hsc
     rw [if_neg hsc] at htk
     refine wk [] [] (an @exVJ3 (an c1 (an c2 (an c3 (an c4 (an hr (an hc hml))))))) ?_
     refine AppO_in (by omega) ⟨hml, by simp only [List.length_cons, List.length_nil]; omega, by simp only [List.length_cons, List.length_nil]; omega⟩ ⟨rfl, by simp only [List.length_cons, List.length_nil]; omega, by simp⟩ ?_
     simp only [List.length_cons, List.length_nil, Nat.zero_add, put, ro_nil, oo_def, om_def, ol_def, oa_def, on_def, og_def, gm_def, gl_def, ga_def, kc_def, kx_def, gk_def, kk_def, kb_def, pf_def, pt_def, ro_mov, ro_mkfn, ro_pick, ro_build, ro_slit, SlitK_t, SlitK_f, SlitK_x2, ro_chk, ro_bin, ro_eq, ro_un, ro_conv, ro_same, ro_b2s, ro_faddr, ro_fld, ro_idx, ro_ext, ro_len, ro_mx, ro_mn, ro_slice, SliceK_str, SliceK_list, ro_slice3, ro_load, LoadK_elt, LoadK_ptr, LoadO_some, LoadR_some, LoadR_map, ro_box, ro_alloc, ro_store, StoreK_ptr, StoreO_some, StoreR_some, ro_iaddr, IaddrK_list, IaddrK_own, IaddrR_some, IaddrR_map, ro_app, ro_appz, newsD_list, newsD_str, newsD_own, newsO_some, newsC_list, newsC_str, newsC_own, newsCO_some, AppN_some, AppZ_int, AppS_nil, AppS_own, AppO_acc, ro_cap, CapK_own, CapO, ro_ovl, OvlK_own, OvlO_some, ro_copy, CopyK_own, CopyO_some, ro_clear, ClearK_own, ClearO_some, ClearK_nil, ro_mks, MksK_int, winD_all, viewS_list, viewS_own', viewO_some, eqO_ptr, eqO_bool, eqO_func, eqO_row, eqO_list, eqO_own, eqOo_some, rx_nil, rx_cons, keepK_nil, keepK_cons, keepE_nil, keepE_cons, keepN_nil, keepN_cons, D.names, D.namesL, acc_real, acc_nl, acc_pure, acc_fz, acc_sz, acc_rows, acc_spare, ro_guard, GuardK_tt, GuardK_no, GuardK_ff, GuardK_tf, GuardK_ft, CondK_t, CondK_f, contP_some, lk_nil, lk_hit, lk_miss, Nat.reduceBEq, put_some, put_none, ev_t, ev_c, argEnv, reduceIte, Nat.reduceEqDiff, Nat.reduceAdd, Nat.reduceSub, Nat.reduceMul, Nat.reduceLT, Nat.reduceLeDiff, reduceCtorEq, binD, binInt, binStr, eqD, eqCell, eqCells, eqN, boolD, okD, aggD, unD, pickD, chkD, convD, sameD, strD, faddrD, fldD, idxD, extD, lenD, mxD, mnD, sliceD, slice3D, bndD, loadD, fillD, splice, D.cells, D.ok, D.one, D.pt, D.pt1, D.pt0, D.norm1, D.norm, cond_true, cond_false, true_and, and_true, and_self, Bool.true_and, Bool.and_true, Bool.false_and, Bool.and_false, Bool.not_true, Bool.not_false, Bool.true_or, Bool.false_or, Bool.or_true, Bool.or_false, List.getElem?_cons_zero, List.getElem?_cons_succ, List.getElem?_nil, List.length_cons, List.length_nil, List.length_map, List.length_append, List.length_set, List.length_take, List.length_drop, List.length_replicate, List.take_succ_cons, List.take_zero, List.take_nil, List.drop_succ_cons, List.drop_zero, List.drop_nil, List.cons_append, List.nil_append, List.append_nil, List.map_cons, List.map_nil, List.all_cons, List.all_nil, List.set_cons_zero, List.set_cons_succ, List.isEmpty_cons, List.isEmpty_nil, List.forall_mem_cons, List.not_mem_nil, List.forall_mem_nil, false_imp_iff, implies_true, ne_eq, not_false_eq_true, Option.map_some, Option.map_none, Nat.zero_add, Nat.add_zero, Nat.sub_self, Int.toNat_natCast, Int.reduceToNat, Int.reduceLT, Int.reduceLE, Int.reduceEq, Int.reduceBEq, beq_self_eq_true, Int.reduceNeg, decide_true, decide_false, IntKind.bits, Nat.min_eq_left, Int.reducePow, Nat.reducePow, Int.fdiv_eq_ediv_of_nonneg, Nat.lt_irrefl, Int.le_refl, Nat.le_refl, Int.natCast_nonneg, Nat.lt_add_one, Nat.zero_lt_succ, view, view2, view1, view0, mapO, capsD_fn, D.sc, D.sc1, D.sc2, pull, pull2, pull1, pull0, idx_hit, idx_miss, idx_nil, sucO_some, sucO_none, gate, pullσ, pullOb, Go.Vi.freeze, Go.Vi.freeze1, capt, capt.captL, reachL, reachO, isin, List.flatten_cons, List.flatten_nil, merge, mset, renOb, fr, D.ren, D.renL, List.getD_cons_zero, List.getD_cons_succ, List.nodup_cons, List.nodup_nil, List.mem_cons, or_false, false_or, resK_nil, resK_tmp, resK_cell, ResC_ptr, ResO_some, ResR_some, ResL_some, ofRes, List.reverse_nil, Option.some.injEq, D.bool.injEq, D.int.injEq, D.str.injEq, D.agg.injEq, D.tup.injEq, D.list.injEq, D.ptr.injEq, D.own.injEq, List.cons.injEq, BndE_fn]
     refine wk [] [] (an @exVJ3 c1) ?_
     refine hk ⟨(i + 1, (X ++ [s]).tail), by dsimp only; omega, by dsimp only; rw [htk, hXt]; simp only [List.length_append, List.length_cons, List.length_nil]; omega⟩ _ _ (by dsimp only; omega) ?_
     dsimp only
     rw [htk, hDr]
     simp only [List.length_append, List.length_cons, List.length_nil]
     exact gcw [0] @exVJ3
  ·have c1 : ((i : Int) < (w : Int)) = False := by simp; omega
   obtain rfl : i = w := by omega
   have hSt : S.take i = S := by rw [← hsl, List.take_length]
   have hSd : S.drop i = [] := by rw [← hsl, List.drop_length]
   rw [hSt, hSd, List.append_nil]
   rw [hSt] at hX
   have hml : (rowsS (formS S ++ X) ++ R).length = n := by
    simp only [List.length_append, rowsS_len]; omega
   have hw : winD 0 (formS S).length n (rowsS (formS S ++ X) ++ R) = rowsS (formS S) := by
    unfold winD
    split
    ·rename_i hh
     have hX0 : X = [] := List.eq_nil_of_length_eq_zero (by omega)
     have hR0 : R = [] := List.eq_nil_of_length_eq_zero (by omega)
     rw [hX0, hR0]; simp
    ·rw [List.drop_zero]
     have : rowsS (formS S ++ X) ++ R = rowsS (formS S) ++ (rowsS X ++ R) := by simp [rowsS]
     rw [this, List.take_left' (by rw [rowsS_len])]
   generalize rowsS (formS S ++ X) ++ R = M at hml hw ⊢
   generalize formS S = O at hw hX ⊢
   exact wk0 [] [] (an @exVJ3 (an c1 (an hml hw)))
end Go.Proofs.Ytggchhmgeafoaaa

namespace Go.Proofs.Ytggchhmgeafoaaa
open Go Go.Vi
noncomputable def frm (l : List Sp) : List Sp := formS (sortS (fullS l))
theorem full_ne {l : List Sp} : ∀ s ∈ fullS l, s.1 < s.2 := fun s hs => by
 have := (List.mem_filter.1 hs).2
 simp [emptyS] at this; omega
theorem hasS_iff_mem {l k : List Sp} (h : ∀ s, s ∈ l ↔ s ∈ k) (m : Int) : hasS l m = hasS k m := by
 rw [Bool.eq_iff_iff, hasS_iff, hasS_iff]
 simp [h]
theorem full_has (l : List Sp) (m : Int) : hasS (fullS l) m = hasS l m := by
 rw [Bool.eq_iff_iff, hasS_iff, hasS_iff]
 constructor
 ·rintro ⟨s, hs, h⟩; exact ⟨s, (List.mem_filter.1 hs).1, h⟩
 ·rintro ⟨s, hs, h1, h2⟩; exact ⟨s, List.mem_filter.2 ⟨hs, by simp [emptyS]; omega⟩, h1, h2⟩
theorem frm_spec (l : List Sp) : Vi.Can (frm l) ∧ ∀ m, hasS (frm l) m = hasS l m := by
 obtain ⟨h1, h2, _⟩ := formS_spec (sortS (fullS l)) (sortS_sorted _) (fun s hs => full_ne s ((sortS_perm _).mem_iff.1 hs))
 refine ⟨h1, fun m => ?_⟩
 rw [frm, h2, hasS_iff_mem (fun s => (sortS_perm (fullS l)).mem_iff), full_has]
theorem formS_len (l : List Sp) : (formS l).length ≤ l.length := by
 have key : ∀ (l out : List Sp), (l.foldl stepF out).length ≤ out.length + l.length := by
  intro l
  induction l with
  | nil => intro out; simp
  | cons s l ih =>
   intro out
   have h1 := ih (stepF out s)
   have h2 : (stepF out s).length ≤ out.length + 1 := by
    unfold stepF
    split
    ·rename_i c hc
     split
     ·have : out ≠ [] := by rintro rfl; simp at hc
      have := List.length_pos_iff.2 this
      simp only [List.length_append, List.length_dropLast, List.length_cons, List.length_nil]; omega
     ·simp
    ·simp
   simp only [List.foldl_cons, List.length_cons]; omega
 simpa [formS] using key l []
theorem frm_len (l : List Sp) : (frm l).length ≤ l.length := by
 have h1 := formS_len (sortS (fullS l))
 have h2 := sortS_len (fullS l)
 have h3 : (fullS l).length ≤ l.length := List.length_filter_le ..
 unfold frm; omega
abbrev Fit (x : Int) : Prop := -9223372036854775808 ≤ x ∧ x ≤ 9223372036854775807
def FitS (l : List Sp) : Prop := ∀ s ∈ l, Fit s.1 ∧ Fit s.2
theorem FitS.has {l : List Sp} (h : FitS l) {m : Int} (hm : hasS l m = true) : -9223372036854775808 ≤ m ∧ m < 9223372036854775807 := by
 obtain ⟨s, hs, h1, h2⟩ := hasS_iff.1 hm
 have := h s hs
 unfold Fit at this
 omega
theorem FitS.can {l : List Sp} (hc : Vi.Can l) (h : ∀ m, hasS l m = true → -9223372036854775808 ≤ m ∧ m < 9223372036854775807) : FitS l := fun s hs => by
 have h1 := can_bound hc h s hs
 have h2 := hc.2 s hs
 unfold Fit; omega
theorem FitS.frm {l : List Sp} (h : FitS l) : FitS (frm l) := FitS.can (frm_spec l).1 fun m hm => h.has (by rw [← (frm_spec l).2]; exact hm)
theorem FitS.app {a b : List Sp} (ha : FitS a) (hb : FitS b) : FitS (a ++ b) := fun s hs => by
 rcases List.mem_append.1 hs with h | h
 ·exact ha s h
 ·exact hb s h
theorem frmP (l : List Sp) (hl : l.length ≤ 400000000000) : PureD Try.prog 23 [LS l] (LS (frm l)) := form_p l hl
instance (l : List Sp) : Decidable (Vi.Can l) := by unfold Vi.Can; infer_instance
end Go.Proofs.Ytggchhmgeafoaaa
