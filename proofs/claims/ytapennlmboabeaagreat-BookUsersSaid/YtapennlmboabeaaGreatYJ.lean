import Derived.Test.YtapennlmboabeaaGreatYI
import Derived.Test.YtapennlmboabeaaGreatVi33
set_option linter.unusedVariables false
set_option linter.unusedSimpArgs false
set_option linter.unnecessarySimpa false
namespace Go.Proofs.YtapennlmboabeaaGreat
open Go Go.Vi
structure Rs where
 l : List UInt8
 rb : Bool
 cb : Bool
def rqN (m : Nat) (s : Rs) : Nat × Rs := ((rdN m s.l s.rb).1, ⟨(rdN m s.l s.rb).2.1, (rdN m s.l s.rb).2.2, s.cb⟩)
def rqM (s : Rs) : Int × Rs := (unzz (rdN 18446744073709551615 s.l s.rb).1, ⟨(rdN 18446744073709551615 s.l s.rb).2.1, (rdN 18446744073709551615 s.l s.rb).2.2, s.cb⟩)
def rqS (lo hi : Int) (s : Rs) : Int × Rs := (unzz (rdN 18446744073709551615 s.l s.rb).1, ⟨(rdN 18446744073709551615 s.l s.rb).2.1, (rdN 18446744073709551615 s.l s.rb).2.2, s.cb || decide (unzz (rdN 18446744073709551615 s.l s.rb).1 < lo ∨ hi < unzz (rdN 18446744073709551615 s.l s.rb).1)⟩)
def rqF (s : Rs) : Bool × Rs := (decide ((rdN 1 s.l s.rb).1 = 1), ⟨(rdN 1 s.l s.rb).2.1, (rdN 1 s.l s.rb).2.2, s.cb⟩)
theorem rqN_le (m : Nat) (hm : m < 18446744073709551616) (s : Rs) : (rqN m s).2.l.length ≤ s.l.length ∧ (rqN m s).1 ≤ m := by
 have := rdN_lt m s.l s.rb hm
 exact ⟨this.2, this.1⟩
theorem rqM_le (s : Rs) : (rqM s).2.l.length ≤ s.l.length := (rdN_lt 18446744073709551615 s.l s.rb (by omega)).2
theorem rqS_le (lo hi : Int) (s : Rs) : (rqS lo hi s).2.l.length ≤ s.l.length := (rdN_lt 18446744073709551615 s.l s.rb (by omega)).2
theorem rqF_le (s : Rs) : (rqF s).2.l.length ≤ s.l.length := (rdN_lt 1 s.l s.rb (by omega)).2
def rowGo {α : Type} (re : Rs → α × Rs) : Nat → Rs → List α → List α × Rs
 | 0, s, a => (a, s)
 | k + 1, s, a => if (re s).2.rb = true ∨ (re s).2.cb = true then (a, (re s).2) else rowGo re k (re s).2 (a ++ [(re s).1])
def rRow {α : Type} (re : Rs → α × Rs) (most : Nat) (s : Rs) : List α × Rs := rowGo re (rqN most s).1 (rqN most s).2 []
theorem exYR4 : type_of% (an @Wr.eq_1 (an @r8_len (an @row1_len (an @row2_len (an @row3_len @rowQ_len))))) := (an @Wr.eq_1 (an @r8_len (an @row1_len (an @row2_len (an @row3_len @rowQ_len)))))
set_option maxHeartbeats 8000000 in
theorem rowS_r {α : Type} {F g n b : Nat} {fn : Func} {z : List D} {rw_ : α → List D} {re : Rs → α × Rs} (hF : Tryz.prog.funcs[F]? = some fn) (hL : lowFn Tryz.prog fn = some (rowC n b (some n) z)) (hg8 : g < bB) (hnp : 0 < n) (hbb : b ≤ 1000)
  (hz : z.length = n) (hrl : ∀ a, (rw_ a).length = n) (hz1 : z.all D.one = true) (hz2 : z.all D.pt1 = true) (hr1 : ∀ a, (rw_ a).all D.one = true) (hr2 : ∀ a, (rw_ a).all D.pt1 = true) (hn1 : ∀ a, (rw_ a).map D.norm1 = rw_ a)
  (hre : ∀ s, (re s).2.l.length ≤ s.l.length)
  (hel : ∀ s : Rs, s.l.length ≤ 1099511627776 → CallG Tryz.prog g [.ptr 0 0 0 1, .ptr 1 0 0 1] [Va n z, Bx 2, Cr 3 s.cb, Rd s.l s.rb] (.tup []) [Va n (rw_ (re s).1), Bx 2, Cr 3 (re s).2.cb, Rd (re s).2.l (re s).2.rb])
  (s : Rs) (sz : Nat) (R : List D) (j most : Nat) (hR : R[j]? = some (.list (some true) true [])) (hz0 : R.length = sz) (hm : most < 1000000) (hl : s.l.length ≤ 1099511627776) :
  CallG Tryz.prog F [.ptr 0 0 0 1, .ptr 2 0 j 1, .int .i64 most, .fn g [.ptr 3 0 0 1]] [Cr 1 s.cb, Rd s.l s.rb, Va sz R, Bx 0] (.tup [])
   [Cr 1 (rRow re most s).2.cb, Rd (rRow re most s).2.l (rRow re most s).2.rb, Va sz (R.set j (L ((rRow re most s).1.map rw_))), Bx 0] := by
 refine callG hF hL (by simp [rowC]) ?_
 simp only [rowC]
 have hzn : (z = []) = False := eq_false (fun h => by rw [h] at hz; simp at hz; omega)
 have hn : CallG Tryz.prog 95 [.ptr 0 0 0 1, .ptr 2 0 0 1, .int .u64 most] [Cr 1 s.cb, Rd s.l s.rb, Va 1 [.int .u64 0]] (.tup []) [Cr 1 (rqN most s).2.cb, Rd (rqN most s).2.l (rqN most s).2.rb, Va 1 [.int .u64 (rqN most s).1]] := numQ_r s.l s.rb s.cb 1 [.int .u64 0] 0 most rfl (by omega) (by omega) hl
 obtain ⟨X, hX⟩ : ∃ X, rRow re most s = X := ⟨_, rfl⟩
 rw [hX]
 unfold rRow at hX
 obtain ⟨g1, g2⟩ := rqN_le most (by omega) s
 generalize rqN most s = q at hn hX g1 g2
 obtain ⟨cnt, s0⟩ := q
 dsimp only at hn hX g1 g2
 have hj : j < R.length := (List.getElem?_eq_some_iff.1 hR).1
 have z0 : (((0 : Nat) : Int)) = 0 := rfl
 refine Run_pure 2 rfl rfl fun hpt => ?_
 have hpt : ∀ x ∈ R, x.pt1 = true := fun x hx => hpt R (by simp) x hx
 have own1 : ∀ d : D, (R.set j d)[j]? = some d := fun d => by rw [List.getElem?_set_self hj]
 have own2 : ∀ d e : D, (R.set j d).take j ++ [e] ++ (R.set j d).drop (j + 1) = R.set j e := fun d e => by
  rw [spl1 (by rw [List.length_set]; exact hj), List.set_set]
 have pl5 : ∀ (σ : List Ob) (k m : Nat), mapO (pull1 true [0, 1, 2, 3, 5] σ) (R.set j (.own 5 0 k m n none)) = some (R.set j (.own 4 0 k m n none)) := fun σ k m => pull_own hpt rfl
 have pl4 : ∀ (σ : List Ob) (k m : Nat), mapO (pull1 true [0, 1, 2, 3, 4] σ) (R.set j (.own 4 0 k m n none)) = some (R.set j (.own 4 0 k m n none)) := fun σ k m => pull_own hpt rfl
 have plL : ∀ (σ : List Ob) (rows : List (List D)), mapO (pull1 true [0, 1, 2, 3] σ) (R.set j (.list none false rows)) = some (R.set j (.list none false rows)) := fun σ rows => pull_pt hpt rfl
 have allL : ∀ rows : List (List D), (R.set j (.list none false rows)).all D.pt1 = true := fun rows => all_set hpt rfl
 have hz' : (j + 1 ≤ sz) = True := eq_true (by omega)
 refine wk [95] [] (an exYR4 (an hR z0)) ?_
 refine Run_ent (Ent_accC (l := 2) (j := 0) (i := j) (b := true) n true hnp rfl rfl rfl rfl hR) ?_
 refine Run_loop (ι := {p : Nat × Rs × List α // rowGo re p.1 p.2.1 p.2.2 = X ∧ p.2.2.length + p.1 = cnt ∧ p.2.1.l.length ≤ s0.l.length}) (fun p => ([(0, .ptr 0 0 0 1), (1, .ptr 2 0 j 1), (3, .fn g [.ptr 3 0 0 1]), (42, .int .u64 cnt), (43, .int .u64 p.1.2.2.length)],
  [Cr 1 p.1.2.1.cb, Rd p.1.2.1.l p.1.2.1.rb, ⟨true, false, false, false, sz, [R.set j (.own 4 0 p.1.2.2.length p.1.2.2.length n none)], some 0⟩, Bx 0, acc true n true (p.1.2.2.map rw_)])) (fun p => p.1.1) ⟨(cnt, s0, []), hX, by simp, Nat.le_refl _⟩ ?_ ?_
 ·simp only [List.length_nil, List.map_nil]
  exact gcw [0, 1, 2, 3, 5] (an exYR4 pl5)
  skip
 rintro ⟨⟨k, s1, xs⟩, hk1, hk2, hk3⟩ hk
 dsimp only at hk1 hk2 hk3 hk ⊢
 have fin : ∀ (env : Env) (ys : List α) (s2 : Rs) (ex : List Ob), Ent [Cr 1 s.cb, Rd s.l s.rb, Va sz R, Bx 0] env (Cr 1 s2.cb :: Rd s2.l s2.rb :: ⟨true, false, false, false, sz, [R.set j (.own 4 0 ys.length ys.length n none)], some 0⟩ :: Bx 0 :: acc true n true (ys.map rw_) :: ex) env
   (Cr 1 s2.cb :: Rd s2.l s2.rb :: ⟨true, false, false, false, sz, [R.set j (L (ys.map rw_))], some 0⟩ :: Bx 0 :: { acc true n true (ys.map rw_) with fz := true } :: ex) := fun env ys s2 ex => by
  refine Ent.trans (Ent_freeze 4) ?_
  have := Ent_cellF (base := [Cr 1 s.cb, Rd s.l s.rb, Va sz R, Bx 0]) (env := env) (σ := Cr 1 s2.cb :: Rd s2.l s2.rb :: ⟨true, false, false, false, sz, [R.set j (.own 4 0 ys.length ys.length n none)], some 0⟩ :: Bx 0 :: { acc true n true (ys.map rw_) with fz := true } :: ex) (l := 2) (j := 0) (i := j) (m := 4) (rows := ys.map rw_) rfl rfl rfl rfl (own1 _) rfl rfl (by
   rw [viewS_own']
   show viewO (some _) _ _ _ = _
   rw [viewO_some]
   simp [acc_rows, acc_pure, List.length_map, winD_all])
  simp only [List.set_cons_zero, List.set_cons_succ, List.set_set] at this
  exact this
 by_cases hlt : 0 < k
 ·obtain ⟨k, rfl⟩ : ∃ k', k = k' + 1 := ⟨k - 1, by omega⟩
  have c1 : (((xs.length : Nat) : Int) < ((cnt : Nat) : Int)) = True := by simp; omega
  have he := hel s1 (by omega)
  have hle := hre s1
  have hmul : (xs.length + 1) * b ≤ 140737488355328 := Nat.le_trans (Nat.mul_le_mul (show xs.length + 1 ≤ 1000000 by omega) hbb) (by decide)
  unfold rowGo at hk1
  generalize re s1 = q at he hk1 hle
  obtain ⟨v, s2⟩ := q
  dsimp only at he hk1 hle
  have k1 := hrl v
  have k2 := hr1 v
  have k3 := hr2 v
  have k5 : (rw_ v).take n = rw_ v := by rw [← k1]; exact List.take_length
  have k6 := hn1 v
  have hu : xs.map rw_ ++ [rw_ v] = (xs ++ [v]).map rw_ := by simp
  generalize hrv : rw_ v = rv at he k1 k2 k3 k5 k6 hu
  by_cases hb : s2.rb = true ∨ s2.cb = true
  ·rw [if_pos hb] at hk1
   rw [← hk1]
   obtain ⟨l2, rb2, cb2⟩ := s2
   dsimp only at he hb ⊢
   cases rb2
   ·obtain rfl : cb2 = true := by simpa using hb
    repeat' ((first | refine Run_seq ?_ | refine Run_skip ?_ | refine Run_block ?_ | refine Run_blk ?_ | refine Run_exit rfl ?_ | refine Run_nil ?_ | refine Run_condK ?_ | refine Run_ops mixed ?_ | refine Run_opsX mixed ?_ | with_reducible refine PostV_open ?_ | with_reducible refine PostG_open ?_ | with_reducible refine PostQ_open ?_ | with_reducible refine ro_callA (f := .t 45) ?_ | with_reducible refine ro_callA' (f := .t 45) ?_ | with_reducible refine ro_callV ?_ | with_reducible refine ro_callVX ?_ | with_reducible refine CallE_use (he) (hb := hg8) (by simp) ?_ | refine CallV_pure (bad_p _ _) ?_ ?_ | simp (disch := omega) only [w64, wu64, wu32, wu16, wu8, Int.tdiv_eq_ediv_of_nonneg, Int.tmod_eq_emod_of_nonneg] | (with_reducible refine SliceK_own rfl rfl ?_ ?_; (focus ((try simp only [Wr, r8_len, row1_len, row2_len, row3_len, rowQ_len, List.length_map, reduceIte, Int.natCast_nonneg, Int.le_refl, List.length_append, List.length_map, Nat.sub_zero]) <;> ((repeat' (with_reducible refine And.intro ?_ ?_)) <;> first | exact trivial | assumption | (simp; done) | (simp only [List.length_map] at *; omega) | omega | (simp [D.cells, D.ok, D.one, D.pt, D.pt1]; done) | first | exact r8_sz | (intro x hx; subst hx; first | exact ⟨k1, k2⟩ | (simp only [D.cells, D.ok]; exact ⟨k1, k2⟩)) | (intro x hx; subst hx; exact k1))))) | (refine GuardK_split (fun hc => ?_) (fun hc => ?_) <;> (try simp only [hc]) <;> (try simp at hc)) | (refine CondK_split (fun hc => ?_) (fun hc => ?_) <;> (try simp only [hc]) <;> (try simp at hc)) | (with_reducible refine And.intro ?_ ?_; (focus ((repeat' (with_reducible refine And.intro ?_ ?_)) <;> first | exact trivial | assumption | (simp; done) | (simp only [List.length_map] at *; omega) | omega | (simp [D.cells, D.ok, D.one, D.pt, D.pt1]; done) | first | exact r8_sz | (intro x hx; subst hx; first | exact ⟨k1, k2⟩ | (simp only [D.cells, D.ok]; exact ⟨k1, k2⟩)) | (intro x hx; subst hx; exact k1)))) | (with_reducible intro x hx) | omega) <;> (try simp only [Wr, r8_len, row1_len, row2_len, row3_len, rowQ_len, List.length_map, c1, hz, hzn, hz1, hz2, k1, k2, k3, k5, k6, ro_nil, oo_def, om_def, ol_def, oa_def, on_def, og_def, gm_def, gl_def, ga_def, kc_def, kx_def, gk_def, kk_def, kb_def, pf_def, pt_def, ro_mov, ro_mkfn, ro_pick, ro_build, ro_slit, SlitK_t, SlitK_f, ro_chk, ro_bin, ro_eq, ro_un, ro_conv, ro_same, ro_b2s, ro_faddr, ro_fld, ro_idx, ro_ext, ro_len, ro_mx, ro_mn, ro_slice, SliceK_str, SliceK_list, ro_slice3, ro_load, LoadK_elt, LoadK_ptr, LoadO_some, LoadR_some, LoadR_map, ro_box, ro_alloc, ro_store, StoreK_ptr, StoreO_some, StoreR_some, ro_iaddr, IaddrK_list, IaddrK_own, IaddrR_some, IaddrR_map, ro_app, ro_appz, newsD_list, newsD_str, newsD_own, newsO_some, newsC_list, newsC_str, newsC_own, newsCO_some, AppN_some, AppZ_int, AppS_nil, AppS_own, AppO_acc, ro_cap, CapK_own, CapO, ro_ovl, OvlK_own, OvlO_some, ro_copy, CopyK_own, CopyO_some, ro_clear, ClearK_own, ClearO_some, ClearK_nil, ro_mks, MksK_int, winD_all, viewS_list, viewS_own', viewO_some, eqO_ptr, eqO_bool, eqO_func, eqO_row, eqO_list, eqO_own, eqOo_some, rx_nil, rx_cons, keepK_nil, keepK_cons, keepE_nil, keepE_cons, keepN_nil, keepN_cons, D.names, D.namesL, acc_real, acc_nl, acc_pure, acc_fz, acc_sz, acc_rows, acc_spare, ro_guard, GuardK_tt, GuardK_no, GuardK_ff, GuardK_tf, GuardK_ft, CondK_t, CondK_f, contP_some, lk_nil, lk_hit, lk_miss, Nat.reduceBEq, put_some, put_none, ev_t, ev_c, argEnv, reduceIte, Nat.reduceEqDiff, Nat.reduceAdd, Nat.reduceSub, Nat.reduceMul, Nat.reduceLT, Nat.reduceLeDiff, reduceCtorEq, binD, binInt, binStr, eqD, eqCell, eqCells, eqN, boolD, okD, aggD, unD, pickD, chkD, convD, sameD, strD, faddrD, fldD, idxD, extD, lenD, mxD, mnD, sliceD, slice3D, bndD, loadD, fillD, splice, D.cells, D.ok, D.one, D.pt, D.pt1, D.pt0, D.norm1, D.norm, cond_true, cond_false, true_and, and_true, and_self, Bool.true_and, Bool.and_true, Bool.false_and, Bool.and_false, Bool.not_true, Bool.not_false, Bool.true_or, Bool.false_or, Bool.or_true, Bool.or_false, List.getElem?_cons_zero, List.getElem?_cons_succ, List.getElem?_nil, List.length_cons, List.length_nil, List.length_map, List.length_append, List.length_set, List.length_take, List.length_drop, List.length_replicate, List.take_succ_cons, List.take_zero, List.take_nil, List.drop_succ_cons, List.drop_zero, List.drop_nil, List.cons_append, List.nil_append, List.append_nil, List.map_cons, List.map_nil, List.all_cons, List.all_nil, List.set_cons_zero, List.set_cons_succ, List.isEmpty_cons, List.isEmpty_nil, List.forall_mem_cons, List.not_mem_nil, List.forall_mem_nil, false_imp_iff, implies_true, ne_eq, not_false_eq_true, Option.map_some, Option.map_none, Nat.zero_add, Nat.add_zero, Nat.sub_self, Int.toNat_natCast, Int.reduceToNat, Int.reduceLT, Int.reduceLE, Int.reduceEq, Int.reduceBEq, beq_self_eq_true, Int.reduceNeg, decide_true, decide_false, IntKind.bits, Nat.min_eq_left, Int.reducePow, Nat.reducePow, Int.fdiv_eq_ediv_of_nonneg, Nat.lt_irrefl, Int.le_refl, Nat.le_refl, Int.natCast_nonneg, Nat.lt_add_one, Nat.zero_lt_succ, view, view2, view1, view0, mapO, capsD_fn, D.sc, D.sc1, D.sc2, pull, pull2, pull1, pull0, idx_hit, idx_miss, idx_nil, sucO_some, sucO_none, gate, pullσ, pullOb, Go.Vi.freeze, Go.Vi.freeze1, capt, capt.captL, reachL, reachO, isin, List.flatten_cons, List.flatten_nil, merge, mset, renOb, fr, D.ren, D.renL, List.getD_cons_zero, List.getD_cons_succ, List.nodup_cons, List.nodup_nil, List.mem_cons, or_false, false_or, resK_nil, resK_tmp, resK_cell, ResC_ptr, ResO_some, ResR_some, ResL_some, ofRes, List.reverse_nil, Option.some.injEq, D.bool.injEq, D.int.injEq, D.str.injEq, D.agg.injEq, D.tup.injEq, D.list.injEq, D.ptr.injEq, D.own.injEq, List.cons.injEq, BndE_fn]))
    refine Run_ent (fin _ xs ⟨l2, false, true⟩ [Va n rv]) ?_
    refine wk [] [] exYR4 ?_
    exact rtw [0, 1, 2, 3] (an exYR4 (an plL allL))
   ·repeat' ((first | refine Run_seq ?_ | refine Run_skip ?_ | refine Run_block ?_ | refine Run_blk ?_ | refine Run_exit rfl ?_ | refine Run_nil ?_ | refine Run_condK ?_ | refine Run_ops mixed ?_ | refine Run_opsX mixed ?_ | with_reducible refine PostV_open ?_ | with_reducible refine PostG_open ?_ | with_reducible refine PostQ_open ?_ | with_reducible refine ro_callA (f := .t 45) ?_ | with_reducible refine ro_callA' (f := .t 45) ?_ | with_reducible refine ro_callV ?_ | with_reducible refine ro_callVX ?_ | with_reducible refine CallE_use (he) (hb := hg8) (by simp) ?_ | refine CallV_pure (bad_p _ _) ?_ ?_ | simp (disch := omega) only [w64, wu64, wu32, wu16, wu8, Int.tdiv_eq_ediv_of_nonneg, Int.tmod_eq_emod_of_nonneg] | (with_reducible refine SliceK_own rfl rfl ?_ ?_; (focus ((try simp only [Wr, r8_len, row1_len, row2_len, row3_len, rowQ_len, List.length_map, reduceIte, Int.natCast_nonneg, Int.le_refl, List.length_append, List.length_map, Nat.sub_zero]) <;> ((repeat' (with_reducible refine And.intro ?_ ?_)) <;> first | exact trivial | assumption | (simp; done) | (simp only [List.length_map] at *; omega) | omega | (simp [D.cells, D.ok, D.one, D.pt, D.pt1]; done) | first | exact r8_sz | (intro x hx; subst hx; first | exact ⟨k1, k2⟩ | (simp only [D.cells, D.ok]; exact ⟨k1, k2⟩)) | (intro x hx; subst hx; exact k1))))) | (refine GuardK_split (fun hc => ?_) (fun hc => ?_) <;> (try simp only [hc]) <;> (try simp at hc)) | (refine CondK_split (fun hc => ?_) (fun hc => ?_) <;> (try simp only [hc]) <;> (try simp at hc)) | (with_reducible refine And.intro ?_ ?_; (focus ((repeat' (with_reducible refine And.intro ?_ ?_)) <;> first | exact trivial | assumption | (simp; done) | (simp only [List.length_map] at *; omega) | omega | (simp [D.cells, D.ok, D.one, D.pt, D.pt1]; done) | first | exact r8_sz | (intro x hx; subst hx; first | exact ⟨k1, k2⟩ | (simp only [D.cells, D.ok]; exact ⟨k1, k2⟩)) | (intro x hx; subst hx; exact k1)))) | (with_reducible intro x hx) | omega) <;> (try simp only [Wr, r8_len, row1_len, row2_len, row3_len, rowQ_len, List.length_map, c1, hz, hzn, hz1, hz2, k1, k2, k3, k5, k6, ro_nil, oo_def, om_def, ol_def, oa_def, on_def, og_def, gm_def, gl_def, ga_def, kc_def, kx_def, gk_def, kk_def, kb_def, pf_def, pt_def, ro_mov, ro_mkfn, ro_pick, ro_build, ro_slit, SlitK_t, SlitK_f, ro_chk, ro_bin, ro_eq, ro_un, ro_conv, ro_same, ro_b2s, ro_faddr, ro_fld, ro_idx, ro_ext, ro_len, ro_mx, ro_mn, ro_slice, SliceK_str, SliceK_list, ro_slice3, ro_load, LoadK_elt, LoadK_ptr, LoadO_some, LoadR_some, LoadR_map, ro_box, ro_alloc, ro_store, StoreK_ptr, StoreO_some, StoreR_some, ro_iaddr, IaddrK_list, IaddrK_own, IaddrR_some, IaddrR_map, ro_app, ro_appz, newsD_list, newsD_str, newsD_own, newsO_some, newsC_list, newsC_str, newsC_own, newsCO_some, AppN_some, AppZ_int, AppS_nil, AppS_own, AppO_acc, ro_cap, CapK_own, CapO, ro_ovl, OvlK_own, OvlO_some, ro_copy, CopyK_own, CopyO_some, ro_clear, ClearK_own, ClearO_some, ClearK_nil, ro_mks, MksK_int, winD_all, viewS_list, viewS_own', viewO_some, eqO_ptr, eqO_bool, eqO_func, eqO_row, eqO_list, eqO_own, eqOo_some, rx_nil, rx_cons, keepK_nil, keepK_cons, keepE_nil, keepE_cons, keepN_nil, keepN_cons, D.names, D.namesL, acc_real, acc_nl, acc_pure, acc_fz, acc_sz, acc_rows, acc_spare, ro_guard, GuardK_tt, GuardK_no, GuardK_ff, GuardK_tf, GuardK_ft, CondK_t, CondK_f, contP_some, lk_nil, lk_hit, lk_miss, Nat.reduceBEq, put_some, put_none, ev_t, ev_c, argEnv, reduceIte, Nat.reduceEqDiff, Nat.reduceAdd, Nat.reduceSub, Nat.reduceMul, Nat.reduceLT, Nat.reduceLeDiff, reduceCtorEq, binD, binInt, binStr, eqD, eqCell, eqCells, eqN, boolD, okD, aggD, unD, pickD, chkD, convD, sameD, strD, faddrD, fldD, idxD, extD, lenD, mxD, mnD, sliceD, slice3D, bndD, loadD, fillD, splice, D.cells, D.ok, D.one, D.pt, D.pt1, D.pt0, D.norm1, D.norm, cond_true, cond_false, true_and, and_true, and_self, Bool.true_and, Bool.and_true, Bool.false_and, Bool.and_false, Bool.not_true, Bool.not_false, Bool.true_or, Bool.false_or, Bool.or_true, Bool.or_false, List.getElem?_cons_zero, List.getElem?_cons_succ, List.getElem?_nil, List.length_cons, List.length_nil, List.length_map, List.length_append, List.length_set, List.length_take, List.length_drop, List.length_replicate, List.take_succ_cons, List.take_zero, List.take_nil, List.drop_succ_cons, List.drop_zero, List.drop_nil, List.cons_append, List.nil_append, List.append_nil, List.map_cons, List.map_nil, List.all_cons, List.all_nil, List.set_cons_zero, List.set_cons_succ, List.isEmpty_cons, List.isEmpty_nil, List.forall_mem_cons, List.not_mem_nil, List.forall_mem_nil, false_imp_iff, implies_true, ne_eq, not_false_eq_true, Option.map_some, Option.map_none, Nat.zero_add, Nat.add_zero, Nat.sub_self, Int.toNat_natCast, Int.reduceToNat, Int.reduceLT, Int.reduceLE, Int.reduceEq, Int.reduceBEq, beq_self_eq_true, Int.reduceNeg, decide_true, decide_false, IntKind.bits, Nat.min_eq_left, Int.reducePow, Nat.reducePow, Int.fdiv_eq_ediv_of_nonneg, Nat.lt_irrefl, Int.le_refl, Nat.le_refl, Int.natCast_nonneg, Nat.lt_add_one, Nat.zero_lt_succ, view, view2, view1, view0, mapO, capsD_fn, D.sc, D.sc1, D.sc2, pull, pull2, pull1, pull0, idx_hit, idx_miss, idx_nil, sucO_some, sucO_none, gate, pullσ, pullOb, Go.Vi.freeze, Go.Vi.freeze1, capt, capt.captL, reachL, reachO, isin, List.flatten_cons, List.flatten_nil, merge, mset, renOb, fr, D.ren, D.renL, List.getD_cons_zero, List.getD_cons_succ, List.nodup_cons, List.nodup_nil, List.mem_cons, or_false, false_or, resK_nil, resK_tmp, resK_cell, ResC_ptr, ResO_some, ResR_some, ResL_some, ofRes, List.reverse_nil, Option.some.injEq, D.bool.injEq, D.int.injEq, D.str.injEq, D.agg.injEq, D.tup.injEq, D.list.injEq, D.ptr.injEq, D.own.injEq, List.cons.injEq, BndE_fn]))
    refine Run_ent (fin _ xs ⟨l2, true, cb2⟩ [Va n rv]) ?_
    refine wk [] [] exYR4 ?_
    exact rtw [0, 1, 2, 3] (an exYR4 (an plL allL))
  ·rw [if_neg hb] at hk1
   obtain ⟨l2, rb2, cb2⟩ := s2
   dsimp only at he hb hle hk1 ⊢
   obtain ⟨rfl, rfl⟩ : rb2 = false ∧ cb2 = false := by simpa using hb
   have uc1 := @bad_p
   refine wk [10045] [] (an exYR4 (an c1 (an own1 (an own2 (an hz' (an hu (an hz (an hzn (an hz1 (an hz2 (an k1 (an k2 (an k3 (an k5 k6)))))))))))))) ?_
   refine hk ⟨(k, ⟨l2, false, false⟩, xs ++ [v]), hk1, by rw [List.length_append, List.length_cons, List.length_nil]; omega, by dsimp only; omega⟩ _ _ (by dsimp only; omega) ?_
   dsimp only
   simp only [List.length_append, List.length_cons, List.length_nil]
   exact gcw [0, 1, 2, 3, 4] (an exYR4 pl4)
   skip
 ·obtain rfl : k = 0 := by omega
  have c1 : (((xs.length : Nat) : Int) < ((cnt : Nat) : Int)) = False := by simp; omega
  unfold rowGo at hk1
  rw [← hk1]
  dsimp only
  refine Run_ent (fin _ xs s1 []) ?_
  refine wk [] [] (an exYR4 c1) ?_
  exact rtw [0, 1, 2, 3] (an exYR4 (an plL allL))
  skip
set_option maxHeartbeats 8000000 in
theorem rowI_r {F g b : Nat} {fn : Func} {kk : IntKind} {re : Rs → Int × Rs} (hF : Tryz.prog.funcs[F]? = some fn) (hL : lowFn Tryz.prog fn = some (rowC 1 b none [.int kk 0])) (hg8 : g < bB) (hbb : b ≤ 1000)
  (hre : ∀ s, (re s).2.l.length ≤ s.l.length)
  (hel : ∀ s : Rs, s.l.length ≤ 1099511627776 → CallG Tryz.prog g [.ptr 0 0 0 1, .ptr 1 0 0 1] [Va 1 [.int kk 0], Bx 2, Cr 3 s.cb, Rd s.l s.rb] (.tup []) [Va 1 [.int kk (re s).1], Bx 2, Cr 3 (re s).2.cb, Rd (re s).2.l (re s).2.rb])
  (s : Rs) (sz : Nat) (R : List D) (j most : Nat) (hR : R[j]? = some (.list (some true) true [])) (hz0 : R.length = sz) (hm : most < 1000000) (hl : s.l.length ≤ 1099511627776) :
  CallG Tryz.prog F [.ptr 0 0 0 1, .ptr 2 0 j 1, .int .i64 most, .fn g [.ptr 3 0 0 1]] [Cr 1 s.cb, Rd s.l s.rb, Va sz R, Bx 0] (.tup [])
   [Cr 1 (rRow re most s).2.cb, Rd (rRow re most s).2.l (rRow re most s).2.rb, Va sz (R.set j (L (row1 kk (rRow re most s).1))), Bx 0] := by
 refine callG hF hL (by simp [rowC]) ?_
 simp only [rowC]
 have hn : CallG Tryz.prog 95 [.ptr 0 0 0 1, .ptr 2 0 0 1, .int .u64 most] [Cr 1 s.cb, Rd s.l s.rb, Va 1 [.int .u64 0]] (.tup []) [Cr 1 (rqN most s).2.cb, Rd (rqN most s).2.l (rqN most s).2.rb, Va 1 [.int .u64 (rqN most s).1]] := numQ_r s.l s.rb s.cb 1 [.int .u64 0] 0 most rfl (by omega) (by omega) hl
 obtain ⟨X, hX⟩ : ∃ X, rRow re most s = X := ⟨_, rfl⟩
 rw [hX]
 unfold rRow at hX
 obtain ⟨g1, g2⟩ := rqN_le most (by omega) s
 generalize rqN most s = q at hn hX g1 g2
 obtain ⟨n, s0⟩ := q
 dsimp only at hn hX g1 g2
 have hj : j < R.length := (List.getElem?_eq_some_iff.1 hR).1
 have z0 : (((0 : Nat) : Int)) = 0 := rfl
 refine Run_pure 2 rfl rfl fun hpt => ?_
 have hpt : ∀ x ∈ R, x.pt1 = true := fun x hx => hpt R (by simp) x hx
 have own1 : ∀ d : D, (R.set j d)[j]? = some d := fun d => by rw [List.getElem?_set_self hj]
 have own2 : ∀ d e : D, (R.set j d).take j ++ [e] ++ (R.set j d).drop (j + 1) = R.set j e := fun d e => by
  rw [spl1 (by rw [List.length_set]; exact hj), List.set_set]
 have pl5 : ∀ (σ : List Ob) (k n : Nat), mapO (pull1 true [0, 1, 2, 3, 5] σ) (R.set j (.own 5 0 k n 1 none)) = some (R.set j (.own 4 0 k n 1 none)) := fun σ k n => pull_own hpt rfl
 have pl4 : ∀ (σ : List Ob) (k n : Nat), mapO (pull1 true [0, 1, 2, 3, 4] σ) (R.set j (.own 4 0 k n 1 none)) = some (R.set j (.own 4 0 k n 1 none)) := fun σ k n => pull_own hpt rfl
 have plL : ∀ (σ : List Ob) (rows : List (List D)), mapO (pull1 true [0, 1, 2, 3] σ) (R.set j (.list none false rows)) = some (R.set j (.list none false rows)) := fun σ rows => pull_pt hpt rfl
 have allL : ∀ rows : List (List D), (R.set j (.list none false rows)).all D.pt1 = true := fun rows => all_set hpt rfl
 have hz' : (j + 1 ≤ sz) = True := eq_true (by omega)
 refine wk [95] [] (an exYR4 (an hR z0)) ?_
 refine Run_ent (Ent_accC (l := 2) (j := 0) (i := j) (b := true) 1 true (by decide) rfl rfl rfl rfl hR) ?_
 refine Run_loop (ι := {p : Nat × Rs × List Int // rowGo re p.1 p.2.1 p.2.2 = X ∧ p.2.2.length + p.1 = n ∧ p.2.1.l.length ≤ s0.l.length}) (fun p => ([(0, .ptr 0 0 0 1), (1, .ptr 2 0 j 1), (3, .fn g [.ptr 3 0 0 1]), (42, .int .u64 n), (43, .int .u64 p.1.2.2.length)],
  [Cr 1 p.1.2.1.cb, Rd p.1.2.1.l p.1.2.1.rb, ⟨true, false, false, false, sz, [R.set j (.own 4 0 p.1.2.2.length p.1.2.2.length 1 none)], some 0⟩, Bx 0, acc true 1 true (row1 kk p.1.2.2)])) (fun p => p.1.1) ⟨(n, s0, []), hX, by simp, Nat.le_refl _⟩ ?_ ?_
 ·simp only [List.length_nil, show row1 kk [] = [] from rfl]
  exact gcw [0, 1, 2, 3, 5] (an exYR4 pl5)
  skip
 rintro ⟨⟨k, s1, xs⟩, hk1, hk2, hk3⟩ hk
 dsimp only at hk1 hk2 hk3 hk ⊢
 have fin : ∀ (env : Env) (ys : List Int) (s2 : Rs) (ex : List Ob), Ent [Cr 1 s.cb, Rd s.l s.rb, Va sz R, Bx 0] env (Cr 1 s2.cb :: Rd s2.l s2.rb :: ⟨true, false, false, false, sz, [R.set j (.own 4 0 ys.length ys.length 1 none)], some 0⟩ :: Bx 0 :: acc true 1 true (row1 kk ys) :: ex) env
   (Cr 1 s2.cb :: Rd s2.l s2.rb :: ⟨true, false, false, false, sz, [R.set j (L (row1 kk ys))], some 0⟩ :: Bx 0 :: { acc true 1 true (row1 kk ys) with fz := true } :: ex) := fun env ys s2 ex => by
  refine Ent.trans (Ent_freeze 4) ?_
  have := Ent_cellF (base := [Cr 1 s.cb, Rd s.l s.rb, Va sz R, Bx 0]) (env := env) (σ := Cr 1 s2.cb :: Rd s2.l s2.rb :: ⟨true, false, false, false, sz, [R.set j (.own 4 0 ys.length ys.length 1 none)], some 0⟩ :: Bx 0 :: { acc true 1 true (row1 kk ys) with fz := true } :: ex) (l := 2) (j := 0) (i := j) (m := 4) (rows := row1 kk ys) rfl rfl rfl rfl (own1 _) rfl rfl (by
   rw [viewS_own']
   show viewO (some _) _ _ _ = _
   rw [viewO_some]
   simp [acc_rows, acc_pure, row1_len, winD_all])
  simp only [List.set_cons_zero, List.set_cons_succ, List.set_set] at this
  exact this
 by_cases hlt : 0 < k
 ·obtain ⟨k, rfl⟩ : ∃ k', k = k' + 1 := ⟨k - 1, by omega⟩
  have c1 : (((xs.length : Nat) : Int) < ((n : Nat) : Int)) = True := by simp; omega
  have he := hel s1 (by omega)
  have hle := hre s1
  have hmul : (xs.length + 1) * b ≤ 140737488355328 := Nat.le_trans (Nat.mul_le_mul (show xs.length + 1 ≤ 1000000 by omega) hbb) (by decide)
  unfold rowGo at hk1
  generalize re s1 = q at he hk1 hle
  obtain ⟨v, s2⟩ := q
  dsimp only at he hk1 hle
  by_cases hb : s2.rb = true ∨ s2.cb = true
  ·rw [if_pos hb] at hk1
   rw [← hk1]
   obtain ⟨l2, rb2, cb2⟩ := s2
   dsimp only at he hb ⊢
   cases rb2
   ·obtain rfl : cb2 = true := by simpa using hb
    repeat' ((first | refine Run_seq ?_ | refine Run_skip ?_ | refine Run_block ?_ | refine Run_blk ?_ | refine Run_exit rfl ?_ | refine Run_nil ?_ | refine Run_condK ?_ | refine Run_ops mixed ?_ | refine Run_opsX mixed ?_ | with_reducible refine PostV_open ?_ | with_reducible refine PostG_open ?_ | with_reducible refine PostQ_open ?_ | with_reducible refine ro_callA (f := .t 45) ?_ | with_reducible refine ro_callA' (f := .t 45) ?_ | with_reducible refine ro_callV ?_ | with_reducible refine ro_callVX ?_ | with_reducible refine CallE_use (he) (hb := hg8) (by simp) ?_ | refine CallV_pure (bad_p _ _) ?_ ?_ | simp (disch := omega) only [w64, wu64, wu32, wu16, wu8, Int.tdiv_eq_ediv_of_nonneg, Int.tmod_eq_emod_of_nonneg] | (with_reducible refine SliceK_own rfl rfl ?_ ?_; (focus ((try simp only [Wr, r8_len, row1_len, row2_len, row3_len, rowQ_len, List.length_map, reduceIte, Int.natCast_nonneg, Int.le_refl, List.length_append, List.length_map, Nat.sub_zero]) <;> ((repeat' (with_reducible refine And.intro ?_ ?_)) <;> first | exact trivial | assumption | (simp; done) | (simp only [List.length_map] at *; omega) | omega | (simp [D.cells, D.ok, D.one, D.pt, D.pt1]; done) | first | exact r8_sz | (intro x hx; subst hx; first | exact ⟨k1, k2⟩ | (simp only [D.cells, D.ok]; exact ⟨k1, k2⟩)) | (intro x hx; subst hx; exact k1))))) | (refine GuardK_split (fun hc => ?_) (fun hc => ?_) <;> (try simp only [hc]) <;> (try simp at hc)) | (refine CondK_split (fun hc => ?_) (fun hc => ?_) <;> (try simp only [hc]) <;> (try simp at hc)) | (with_reducible refine And.intro ?_ ?_; (focus ((repeat' (with_reducible refine And.intro ?_ ?_)) <;> first | exact trivial | assumption | (simp; done) | (simp only [List.length_map] at *; omega) | omega | (simp [D.cells, D.ok, D.one, D.pt, D.pt1]; done) | first | exact r8_sz | (intro x hx; subst hx; first | exact ⟨k1, k2⟩ | (simp only [D.cells, D.ok]; exact ⟨k1, k2⟩)) | (intro x hx; subst hx; exact k1)))) | (with_reducible intro x hx) | omega) <;> (try simp only [Wr, r8_len, row1_len, row2_len, row3_len, rowQ_len, List.length_map, c1, ro_nil, oo_def, om_def, ol_def, oa_def, on_def, og_def, gm_def, gl_def, ga_def, kc_def, kx_def, gk_def, kk_def, kb_def, pf_def, pt_def, ro_mov, ro_mkfn, ro_pick, ro_build, ro_slit, SlitK_t, SlitK_f, ro_chk, ro_bin, ro_eq, ro_un, ro_conv, ro_same, ro_b2s, ro_faddr, ro_fld, ro_idx, ro_ext, ro_len, ro_mx, ro_mn, ro_slice, SliceK_str, SliceK_list, ro_slice3, ro_load, LoadK_elt, LoadK_ptr, LoadO_some, LoadR_some, LoadR_map, ro_box, ro_alloc, ro_store, StoreK_ptr, StoreO_some, StoreR_some, ro_iaddr, IaddrK_list, IaddrK_own, IaddrR_some, IaddrR_map, ro_app, ro_appz, newsD_list, newsD_str, newsD_own, newsO_some, newsC_list, newsC_str, newsC_own, newsCO_some, AppN_some, AppZ_int, AppS_nil, AppS_own, AppO_acc, ro_cap, CapK_own, CapO, ro_ovl, OvlK_own, OvlO_some, ro_copy, CopyK_own, CopyO_some, ro_clear, ClearK_own, ClearO_some, ClearK_nil, ro_mks, MksK_int, winD_all, viewS_list, viewS_own', viewO_some, eqO_ptr, eqO_bool, eqO_func, eqO_row, eqO_list, eqO_own, eqOo_some, rx_nil, rx_cons, keepK_nil, keepK_cons, keepE_nil, keepE_cons, keepN_nil, keepN_cons, D.names, D.namesL, acc_real, acc_nl, acc_pure, acc_fz, acc_sz, acc_rows, acc_spare, ro_guard, GuardK_tt, GuardK_no, GuardK_ff, GuardK_tf, GuardK_ft, CondK_t, CondK_f, contP_some, lk_nil, lk_hit, lk_miss, Nat.reduceBEq, put_some, put_none, ev_t, ev_c, argEnv, reduceIte, Nat.reduceEqDiff, Nat.reduceAdd, Nat.reduceSub, Nat.reduceMul, Nat.reduceLT, Nat.reduceLeDiff, reduceCtorEq, binD, binInt, binStr, eqD, eqCell, eqCells, eqN, boolD, okD, aggD, unD, pickD, chkD, convD, sameD, strD, faddrD, fldD, idxD, extD, lenD, mxD, mnD, sliceD, slice3D, bndD, loadD, fillD, splice, D.cells, D.ok, D.one, D.pt, D.pt1, D.pt0, D.norm1, D.norm, cond_true, cond_false, true_and, and_true, and_self, Bool.true_and, Bool.and_true, Bool.false_and, Bool.and_false, Bool.not_true, Bool.not_false, Bool.true_or, Bool.false_or, Bool.or_true, Bool.or_false, List.getElem?_cons_zero, List.getElem?_cons_succ, List.getElem?_nil, List.length_cons, List.length_nil, List.length_map, List.length_append, List.length_set, List.length_take, List.length_drop, List.length_replicate, List.take_succ_cons, List.take_zero, List.take_nil, List.drop_succ_cons, List.drop_zero, List.drop_nil, List.cons_append, List.nil_append, List.append_nil, List.map_cons, List.map_nil, List.all_cons, List.all_nil, List.set_cons_zero, List.set_cons_succ, List.isEmpty_cons, List.isEmpty_nil, List.forall_mem_cons, List.not_mem_nil, List.forall_mem_nil, false_imp_iff, implies_true, ne_eq, not_false_eq_true, Option.map_some, Option.map_none, Nat.zero_add, Nat.add_zero, Nat.sub_self, Int.toNat_natCast, Int.reduceToNat, Int.reduceLT, Int.reduceLE, Int.reduceEq, Int.reduceBEq, beq_self_eq_true, Int.reduceNeg, decide_true, decide_false, IntKind.bits, Nat.min_eq_left, Int.reducePow, Nat.reducePow, Int.fdiv_eq_ediv_of_nonneg, Nat.lt_irrefl, Int.le_refl, Nat.le_refl, Int.natCast_nonneg, Nat.lt_add_one, Nat.zero_lt_succ, view, view2, view1, view0, mapO, capsD_fn, D.sc, D.sc1, D.sc2, pull, pull2, pull1, pull0, idx_hit, idx_miss, idx_nil, sucO_some, sucO_none, gate, pullσ, pullOb, Go.Vi.freeze, Go.Vi.freeze1, capt, capt.captL, reachL, reachO, isin, List.flatten_cons, List.flatten_nil, merge, mset, renOb, fr, D.ren, D.renL, List.getD_cons_zero, List.getD_cons_succ, List.nodup_cons, List.nodup_nil, List.mem_cons, or_false, false_or, resK_nil, resK_tmp, resK_cell, ResC_ptr, ResO_some, ResR_some, ResL_some, ofRes, List.reverse_nil, Option.some.injEq, D.bool.injEq, D.int.injEq, D.str.injEq, D.agg.injEq, D.tup.injEq, D.list.injEq, D.ptr.injEq, D.own.injEq, List.cons.injEq, BndE_fn]))
    refine Run_ent (fin _ xs ⟨l2, false, true⟩ [Va 1 [.int kk v]]) ?_
    refine wk [] [] exYR4 ?_
    exact rtw [0, 1, 2, 3] (an exYR4 (an plL allL))
   ·repeat' ((first | refine Run_seq ?_ | refine Run_skip ?_ | refine Run_block ?_ | refine Run_blk ?_ | refine Run_exit rfl ?_ | refine Run_nil ?_ | refine Run_condK ?_ | refine Run_ops mixed ?_ | refine Run_opsX mixed ?_ | with_reducible refine PostV_open ?_ | with_reducible refine PostG_open ?_ | with_reducible refine PostQ_open ?_ | with_reducible refine ro_callA (f := .t 45) ?_ | with_reducible refine ro_callA' (f := .t 45) ?_ | with_reducible refine ro_callV ?_ | with_reducible refine ro_callVX ?_ | with_reducible refine CallE_use (he) (hb := hg8) (by simp) ?_ | refine CallV_pure (bad_p _ _) ?_ ?_ | simp (disch := omega) only [w64, wu64, wu32, wu16, wu8, Int.tdiv_eq_ediv_of_nonneg, Int.tmod_eq_emod_of_nonneg] | (with_reducible refine SliceK_own rfl rfl ?_ ?_; (focus ((try simp only [Wr, r8_len, row1_len, row2_len, row3_len, rowQ_len, List.length_map, reduceIte, Int.natCast_nonneg, Int.le_refl, List.length_append, List.length_map, Nat.sub_zero]) <;> ((repeat' (with_reducible refine And.intro ?_ ?_)) <;> first | exact trivial | assumption | (simp; done) | (simp only [List.length_map] at *; omega) | omega | (simp [D.cells, D.ok, D.one, D.pt, D.pt1]; done) | first | exact r8_sz | (intro x hx; subst hx; first | exact ⟨k1, k2⟩ | (simp only [D.cells, D.ok]; exact ⟨k1, k2⟩)) | (intro x hx; subst hx; exact k1))))) | (refine GuardK_split (fun hc => ?_) (fun hc => ?_) <;> (try simp only [hc]) <;> (try simp at hc)) | (refine CondK_split (fun hc => ?_) (fun hc => ?_) <;> (try simp only [hc]) <;> (try simp at hc)) | (with_reducible refine And.intro ?_ ?_; (focus ((repeat' (with_reducible refine And.intro ?_ ?_)) <;> first | exact trivial | assumption | (simp; done) | (simp only [List.length_map] at *; omega) | omega | (simp [D.cells, D.ok, D.one, D.pt, D.pt1]; done) | first | exact r8_sz | (intro x hx; subst hx; first | exact ⟨k1, k2⟩ | (simp only [D.cells, D.ok]; exact ⟨k1, k2⟩)) | (intro x hx; subst hx; exact k1)))) | (with_reducible intro x hx) | omega) <;> (try simp only [Wr, r8_len, row1_len, row2_len, row3_len, rowQ_len, List.length_map, c1, ro_nil, oo_def, om_def, ol_def, oa_def, on_def, og_def, gm_def, gl_def, ga_def, kc_def, kx_def, gk_def, kk_def, kb_def, pf_def, pt_def, ro_mov, ro_mkfn, ro_pick, ro_build, ro_slit, SlitK_t, SlitK_f, ro_chk, ro_bin, ro_eq, ro_un, ro_conv, ro_same, ro_b2s, ro_faddr, ro_fld, ro_idx, ro_ext, ro_len, ro_mx, ro_mn, ro_slice, SliceK_str, SliceK_list, ro_slice3, ro_load, LoadK_elt, LoadK_ptr, LoadO_some, LoadR_some, LoadR_map, ro_box, ro_alloc, ro_store, StoreK_ptr, StoreO_some, StoreR_some, ro_iaddr, IaddrK_list, IaddrK_own, IaddrR_some, IaddrR_map, ro_app, ro_appz, newsD_list, newsD_str, newsD_own, newsO_some, newsC_list, newsC_str, newsC_own, newsCO_some, AppN_some, AppZ_int, AppS_nil, AppS_own, AppO_acc, ro_cap, CapK_own, CapO, ro_ovl, OvlK_own, OvlO_some, ro_copy, CopyK_own, CopyO_some, ro_clear, ClearK_own, ClearO_some, ClearK_nil, ro_mks, MksK_int, winD_all, viewS_list, viewS_own', viewO_some, eqO_ptr, eqO_bool, eqO_func, eqO_row, eqO_list, eqO_own, eqOo_some, rx_nil, rx_cons, keepK_nil, keepK_cons, keepE_nil, keepE_cons, keepN_nil, keepN_cons, D.names, D.namesL, acc_real, acc_nl, acc_pure, acc_fz, acc_sz, acc_rows, acc_spare, ro_guard, GuardK_tt, GuardK_no, GuardK_ff, GuardK_tf, GuardK_ft, CondK_t, CondK_f, contP_some, lk_nil, lk_hit, lk_miss, Nat.reduceBEq, put_some, put_none, ev_t, ev_c, argEnv, reduceIte, Nat.reduceEqDiff, Nat.reduceAdd, Nat.reduceSub, Nat.reduceMul, Nat.reduceLT, Nat.reduceLeDiff, reduceCtorEq, binD, binInt, binStr, eqD, eqCell, eqCells, eqN, boolD, okD, aggD, unD, pickD, chkD, convD, sameD, strD, faddrD, fldD, idxD, extD, lenD, mxD, mnD, sliceD, slice3D, bndD, loadD, fillD, splice, D.cells, D.ok, D.one, D.pt, D.pt1, D.pt0, D.norm1, D.norm, cond_true, cond_false, true_and, and_true, and_self, Bool.true_and, Bool.and_true, Bool.false_and, Bool.and_false, Bool.not_true, Bool.not_false, Bool.true_or, Bool.false_or, Bool.or_true, Bool.or_false, List.getElem?_cons_zero, List.getElem?_cons_succ, List.getElem?_nil, List.length_cons, List.length_nil, List.length_map, List.length_append, List.length_set, List.length_take, List.length_drop, List.length_replicate, List.take_succ_cons, List.take_zero, List.take_nil, List.drop_succ_cons, List.drop_zero, List.drop_nil, List.cons_append, List.nil_append, List.append_nil, List.map_cons, List.map_nil, List.all_cons, List.all_nil, List.set_cons_zero, List.set_cons_succ, List.isEmpty_cons, List.isEmpty_nil, List.forall_mem_cons, List.not_mem_nil, List.forall_mem_nil, false_imp_iff, implies_true, ne_eq, not_false_eq_true, Option.map_some, Option.map_none, Nat.zero_add, Nat.add_zero, Nat.sub_self, Int.toNat_natCast, Int.reduceToNat, Int.reduceLT, Int.reduceLE, Int.reduceEq, Int.reduceBEq, beq_self_eq_true, Int.reduceNeg, decide_true, decide_false, IntKind.bits, Nat.min_eq_left, Int.reducePow, Nat.reducePow, Int.fdiv_eq_ediv_of_nonneg, Nat.lt_irrefl, Int.le_refl, Nat.le_refl, Int.natCast_nonneg, Nat.lt_add_one, Nat.zero_lt_succ, view, view2, view1, view0, mapO, capsD_fn, D.sc, D.sc1, D.sc2, pull, pull2, pull1, pull0, idx_hit, idx_miss, idx_nil, sucO_some, sucO_none, gate, pullσ, pullOb, Go.Vi.freeze, Go.Vi.freeze1, capt, capt.captL, reachL, reachO, isin, List.flatten_cons, List.flatten_nil, merge, mset, renOb, fr, D.ren, D.renL, List.getD_cons_zero, List.getD_cons_succ, List.nodup_cons, List.nodup_nil, List.mem_cons, or_false, false_or, resK_nil, resK_tmp, resK_cell, ResC_ptr, ResO_some, ResR_some, ResL_some, ofRes, List.reverse_nil, Option.some.injEq, D.bool.injEq, D.int.injEq, D.str.injEq, D.agg.injEq, D.tup.injEq, D.list.injEq, D.ptr.injEq, D.own.injEq, List.cons.injEq, BndE_fn]))
    refine Run_ent (fin _ xs ⟨l2, true, cb2⟩ [Va 1 [.int kk v]]) ?_
    refine wk [] [] exYR4 ?_
    exact rtw [0, 1, 2, 3] (an exYR4 (an plL allL))
  ·rw [if_neg hb] at hk1
   obtain ⟨l2, rb2, cb2⟩ := s2
   dsimp only at he hb hle hk1 ⊢
   obtain ⟨rfl, rfl⟩ : rb2 = false ∧ cb2 = false := by simpa using hb
   have hu : row1 kk xs ++ [[.int kk v]] = row1 kk (xs ++ [v]) := by simp [row1]
   have uc1 := @bad_p
   refine wk [10045] [] (an exYR4 (an c1 (an own1 (an own2 (an hz' hu))))) ?_
   refine hk ⟨(k, ⟨l2, false, false⟩, xs ++ [v]), hk1, by rw [List.length_append, List.length_cons, List.length_nil]; omega, by dsimp only; omega⟩ _ _ (by dsimp only; omega) ?_
   dsimp only
   simp only [List.length_append, List.length_cons, List.length_nil]
   exact gcw [0, 1, 2, 3, 4] (an exYR4 pl4)
   skip
 ·obtain rfl : k = 0 := by omega
  have c1 : (((xs.length : Nat) : Int) < ((n : Nat) : Int)) = False := by simp; omega
  unfold rowGo at hk1
  rw [← hk1]
  dsimp only
  refine Run_ent (fin _ xs s1 []) ?_
  refine wk [] [] (an exYR4 c1) ?_
  exact rtw [0, 1, 2, 3] (an exYR4 (an plL allL))
  skip
def rTu (s : Rs) : (Int × Int) × Rs := ((((rqM s).1 : Int), ((rqS (-900) 900 (rqM s).2).1 : Int)), (rqS (-900) 900 (rqM s).2).2)
theorem rTu_le (s : Rs) : (rTu s).2.l.length ≤ s.l.length := Nat.le_trans (rqS_le _ _ _) (rqM_le _)
theorem elTu_r (s : Rs) (hl : s.l.length ≤ 1099511627776) :
  CallG Tryz.prog 172 [.ptr 0 0 0 1, .ptr 1 0 0 1] [Va 2 [.int .i64 0, .int .i64 0], Bx 2, Cr 3 s.cb, Rd s.l s.rb] (.tup [])
   [Va 2 (cTu (rTu s).1), Bx 2, Cr 3 (rTu s).2.cb, Rd (rTu s).2.l (rTu s).2.rb] := by
 refine callG Tryz.func172 low172 (by simp [c172]) ?_
 simp only [c172]
 unfold rTu
 have g1 := rqM_le s
 have h1 : CallG Tryz.prog 87 [.ptr 0 0 0 1, .ptr 2 0 0 1] [Cr 1 s.cb, Rd s.l s.rb, Va 2 [.int .i64 0, .int .i64 0]] (.tup []) [Cr 1 (rqM s).2.cb, Rd (rqM s).2.l (rqM s).2.rb, Va 2 [.int .i64 (rqM s).1, .int .i64 0]] := minutes_r s.l s.rb s.cb 2 [.int .i64 0, .int .i64 0] 0 rfl (by omega) (by omega)
 generalize rqM s = q1 at h1 g1 ⊢
 obtain ⟨v1, s1⟩ := q1
 dsimp only at h1 g1 ⊢
 have g2 := rqS_le (-900) 900 s1
 have h2 : CallG Tryz.prog 170 [.ptr 0 0 0 1, .ptr 2 0 1 1, .int .i64 (-900), .int .i64 900] [Cr 1 s1.cb, Rd s1.l s1.rb, Va 2 [.int .i64 v1, .int .i64 0]] (.tup []) [Cr 1 (rqS (-900) 900 s1).2.cb, Rd (rqS (-900) 900 s1).2.l (rqS (-900) 900 s1).2.rb, Va 2 [.int .i64 v1, .int .i64 (rqS (-900) 900 s1).1]] := sigI_r s1.l s1.rb s1.cb 2 [.int .i64 v1, .int .i64 0] 1 (-900) 900 rfl (by omega) (by omega)
 generalize rqS (-900) 900 s1 = q2 at h2 g2 ⊢
 obtain ⟨v2, s2⟩ := q2
 dsimp only at h2 g2 ⊢
 have hc : cTu ((v1 : Int), (v2 : Int)) = [.int .i64 v1, .int .i64 v2] := rfl
 rw [hc]
 refine wk [87, 170] [] exYR4 ?_
 exact rtw [0, 1, 2, 3] exYR4
theorem rowTu_r (s : Rs) (sz : Nat) (R : List D) (j most : Nat) (hR : R[j]? = some (.list (some true) true [])) (hz : R.length = sz) (hm : most < 1000000) (hl : s.l.length ≤ 1099511627776) :
  CallG Tryz.prog 171 [.ptr 0 0 0 1, .ptr 2 0 j 1, .int .i64 most, .fn 172 [.ptr 3 0 0 1]] [Cr 1 s.cb, Rd s.l s.rb, Va sz R, Bx 0] (.tup [])
   [Cr 1 (rRow rTu most s).2.cb, Rd (rRow rTu most s).2.l (rRow rTu most s).2.rb, Va sz (R.set j (L (row2 .i64 .i64 (rRow rTu most s).1))), Bx 0] :=
 rowS_r (rw_ := cTu) Tryz.func171 low171 (by decide) (by decide) (by decide) rfl (fun _ => rfl) rfl rfl (fun _ => rfl) (fun _ => rfl) (fun _ => rfl) rTu_le elTu_r s sz R j most hR hz hm hl
def rSh (s : Rs) : (Int × Int × Int) × Rs := ((((rqN 127 s).1 : Int), ((rqN 1440 (rqN 127 s).2).1 : Int), ((rqN 1440 (rqN 1440 (rqN 127 s).2).2).1 : Int)), (rqN 1440 (rqN 1440 (rqN 127 s).2).2).2)
theorem rSh_le (s : Rs) : (rSh s).2.l.length ≤ s.l.length := Nat.le_trans (Nat.le_trans ((rqN_le _ (by omega) _).1) ((rqN_le _ (by omega) _).1)) ((rqN_le _ (by omega) _).1)
theorem elSh_r (s : Rs) (hl : s.l.length ≤ 1099511627776) :
  CallG Tryz.prog 174 [.ptr 0 0 0 1, .ptr 1 0 0 1] [Va 3 [.int .i64 0, .int .i64 0, .int .i64 0], Bx 2, Cr 3 s.cb, Rd s.l s.rb] (.tup [])
   [Va 3 (cSh (rSh s).1), Bx 2, Cr 3 (rSh s).2.cb, Rd (rSh s).2.l (rSh s).2.rb] := by
 refine callG Tryz.func174 low174 (by simp [c174]) ?_
 simp only [c174]
 unfold rSh
 have g1 := (rqN_le 127 (by omega) s).1
 have h1 : CallG Tryz.prog 131 [.ptr 0 0 0 1, .ptr 2 0 0 1, .int .u64 127] [Cr 1 s.cb, Rd s.l s.rb, Va 3 [.int .i64 0, .int .i64 0, .int .i64 0]] (.tup []) [Cr 1 (rqN 127 s).2.cb, Rd (rqN 127 s).2.l (rqN 127 s).2.rb, Va 3 [.int .i64 (rqN 127 s).1, .int .i64 0, .int .i64 0]] := numI_r s.l s.rb s.cb 3 [.int .i64 0, .int .i64 0, .int .i64 0] 0 127 rfl (by omega) (by omega) (by omega)
 generalize rqN 127 s = q1 at h1 g1 ⊢
 obtain ⟨v1, s1⟩ := q1
 dsimp only at h1 g1 ⊢
 have g2 := (rqN_le 1440 (by omega) s1).1
 have h2 : CallG Tryz.prog 131 [.ptr 0 0 0 1, .ptr 2 0 1 1, .int .u64 1440] [Cr 1 s1.cb, Rd s1.l s1.rb, Va 3 [.int .i64 v1, .int .i64 0, .int .i64 0]] (.tup []) [Cr 1 (rqN 1440 s1).2.cb, Rd (rqN 1440 s1).2.l (rqN 1440 s1).2.rb, Va 3 [.int .i64 v1, .int .i64 (rqN 1440 s1).1, .int .i64 0]] := numI_r s1.l s1.rb s1.cb 3 [.int .i64 v1, .int .i64 0, .int .i64 0] 1 1440 rfl (by omega) (by omega) (by omega)
 generalize rqN 1440 s1 = q2 at h2 g2 ⊢
 obtain ⟨v2, s2⟩ := q2
 dsimp only at h2 g2 ⊢
 have g3 := (rqN_le 1440 (by omega) s2).1
 have h3 : CallG Tryz.prog 131 [.ptr 0 0 0 1, .ptr 2 0 2 1, .int .u64 1440] [Cr 1 s2.cb, Rd s2.l s2.rb, Va 3 [.int .i64 v1, .int .i64 v2, .int .i64 0]] (.tup []) [Cr 1 (rqN 1440 s2).2.cb, Rd (rqN 1440 s2).2.l (rqN 1440 s2).2.rb, Va 3 [.int .i64 v1, .int .i64 v2, .int .i64 (rqN 1440 s2).1]] := numI_r s2.l s2.rb s2.cb 3 [.int .i64 v1, .int .i64 v2, .int .i64 0] 2 1440 rfl (by omega) (by omega) (by omega)
 generalize rqN 1440 s2 = q3 at h3 g3 ⊢
 obtain ⟨v3, s3⟩ := q3
 dsimp only at h3 g3 ⊢
 have hc : cSh ((v1 : Int), (v2 : Int), (v3 : Int)) = [.int .i64 v1, .int .i64 v2, .int .i64 v3] := rfl
 rw [hc]
 refine wk [131] [] exYR4 ?_
 exact rtw [0, 1, 2, 3] exYR4
theorem rowSh_r (s : Rs) (sz : Nat) (R : List D) (j most : Nat) (hR : R[j]? = some (.list (some true) true [])) (hz : R.length = sz) (hm : most < 1000000) (hl : s.l.length ≤ 1099511627776) :
  CallG Tryz.prog 173 [.ptr 0 0 0 1, .ptr 2 0 j 1, .int .i64 most, .fn 174 [.ptr 3 0 0 1]] [Cr 1 s.cb, Rd s.l s.rb, Va sz R, Bx 0] (.tup [])
   [Cr 1 (rRow rSh most s).2.cb, Rd (rRow rSh most s).2.l (rRow rSh most s).2.rb, Va sz (R.set j (L (row3 (rRow rSh most s).1))), Bx 0] :=
 rowS_r (rw_ := cSh) Tryz.func173 low173 (by decide) (by decide) (by decide) rfl (fun _ => rfl) rfl rfl (fun _ => rfl) (fun _ => rfl) (fun _ => rfl) rSh_le elSh_r s sz R j most hR hz hm hl
def rOf (s : Rs) : (Int) × Rs := (((rqN 109937 s).1 : Int), (rqN 109937 s).2)
theorem rOf_le (s : Rs) : (rOf s).2.l.length ≤ s.l.length := (rqN_le _ (by omega) _).1
theorem elOf_r (s : Rs) (hl : s.l.length ≤ 1099511627776) :
  CallG Tryz.prog 152 [.ptr 0 0 0 1, .ptr 1 0 0 1] [Va 1 [.int .i64 0], Bx 2, Cr 3 s.cb, Rd s.l s.rb] (.tup [])
   [Va 1 (cOf (rOf s).1), Bx 2, Cr 3 (rOf s).2.cb, Rd (rOf s).2.l (rOf s).2.rb] := by
 refine callG Tryz.func152 low152 (by simp [c152]) ?_
 simp only [c152]
 unfold rOf
 have g1 := (rqN_le 109937 (by omega) s).1
 have h1 : CallG Tryz.prog 131 [.ptr 0 0 0 1, .ptr 2 0 0 1, .int .u64 109937] [Cr 1 s.cb, Rd s.l s.rb, Va 1 [.int .i64 0]] (.tup []) [Cr 1 (rqN 109937 s).2.cb, Rd (rqN 109937 s).2.l (rqN 109937 s).2.rb, Va 1 [.int .i64 (rqN 109937 s).1]] := numI_r s.l s.rb s.cb 1 [.int .i64 0] 0 109937 rfl (by omega) (by omega) (by omega)
 generalize rqN 109937 s = q1 at h1 g1 ⊢
 obtain ⟨v1, s1⟩ := q1
 dsimp only at h1 g1 ⊢
 have hc : cOf (v1 : Int) = [.int .i64 v1] := rfl
 rw [hc]
 refine wk [131] [] exYR4 ?_
 exact rtw [0, 1, 2, 3] exYR4
theorem rowOf_r (s : Rs) (sz : Nat) (R : List D) (j most : Nat) (hR : R[j]? = some (.list (some true) true [])) (hz : R.length = sz) (hm : most < 1000000) (hl : s.l.length ≤ 1099511627776) :
  CallG Tryz.prog 151 [.ptr 0 0 0 1, .ptr 2 0 j 1, .int .i64 most, .fn 152 [.ptr 3 0 0 1]] [Cr 1 s.cb, Rd s.l s.rb, Va sz R, Bx 0] (.tup [])
   [Cr 1 (rRow rOf most s).2.cb, Rd (rRow rOf most s).2.l (rRow rOf most s).2.rb, Va sz (R.set j (L (row1 .i64 (rRow rOf most s).1))), Bx 0] :=
 rowI_r (kk := .i64) Tryz.func151 low151 (by decide) (by decide) rOf_le elOf_r s sz R j most hR hz hm hl
def rSm (s : Rs) : (Int) × Rs := (((rqS (-400) 400 s).1 : Int), (rqS (-400) 400 s).2)
theorem rSm_le (s : Rs) : (rSm s).2.l.length ≤ s.l.length := rqS_le _ _ _
theorem elSm_r (s : Rs) (hl : s.l.length ≤ 1099511627776) :
  CallG Tryz.prog 180 [.ptr 0 0 0 1, .ptr 1 0 0 1] [Va 1 [.int .i64 0], Bx 2, Cr 3 s.cb, Rd s.l s.rb] (.tup [])
   [Va 1 (cSm (rSm s).1), Bx 2, Cr 3 (rSm s).2.cb, Rd (rSm s).2.l (rSm s).2.rb] := by
 refine callG Tryz.func180 low180 (by simp [c180]) ?_
 simp only [c180]
 unfold rSm
 have g1 := rqS_le (-400) 400 s
 have h1 : CallG Tryz.prog 170 [.ptr 0 0 0 1, .ptr 2 0 0 1, .int .i64 (-400), .int .i64 400] [Cr 1 s.cb, Rd s.l s.rb, Va 1 [.int .i64 0]] (.tup []) [Cr 1 (rqS (-400) 400 s).2.cb, Rd (rqS (-400) 400 s).2.l (rqS (-400) 400 s).2.rb, Va 1 [.int .i64 (rqS (-400) 400 s).1]] := sigI_r s.l s.rb s.cb 1 [.int .i64 0] 0 (-400) 400 rfl (by omega) (by omega)
 generalize rqS (-400) 400 s = q1 at h1 g1 ⊢
 obtain ⟨v1, s1⟩ := q1
 dsimp only at h1 g1 ⊢
 have hc : cSm (v1 : Int) = [.int .i64 v1] := rfl
 rw [hc]
 refine wk [170] [] exYR4 ?_
 exact rtw [0, 1, 2, 3] exYR4
theorem rowSm_r (s : Rs) (sz : Nat) (R : List D) (j most : Nat) (hR : R[j]? = some (.list (some true) true [])) (hz : R.length = sz) (hm : most < 1000000) (hl : s.l.length ≤ 1099511627776) :
  CallG Tryz.prog 151 [.ptr 0 0 0 1, .ptr 2 0 j 1, .int .i64 most, .fn 180 [.ptr 3 0 0 1]] [Cr 1 s.cb, Rd s.l s.rb, Va sz R, Bx 0] (.tup [])
   [Cr 1 (rRow rSm most s).2.cb, Rd (rRow rSm most s).2.l (rRow rSm most s).2.rb, Va sz (R.set j (L (row1 .i64 (rRow rSm most s).1))), Bx 0] :=
 rowI_r (kk := .i64) Tryz.func151 low151 (by decide) (by decide) rSm_le elSm_r s sz R j most hR hz hm hl
def rDa (s : Rs) : (Int × Int) × Rs := ((((rqS (-5) 5 s).1 : Int), ((rqN 6 (rqS (-5) 5 s).2).1 : Int)), (rqN 6 (rqS (-5) 5 s).2).2)
theorem rDa_le (s : Rs) : (rDa s).2.l.length ≤ s.l.length := Nat.le_trans ((rqN_le _ (by omega) _).1) (rqS_le _ _ _)
theorem elDa_r (s : Rs) (hl : s.l.length ≤ 1099511627776) :
  CallG Tryz.prog 179 [.ptr 0 0 0 1, .ptr 1 0 0 1] [Va 2 [.int .i64 0, .int .i64 0], Bx 2, Cr 3 s.cb, Rd s.l s.rb] (.tup [])
   [Va 2 (cDa (rDa s).1), Bx 2, Cr 3 (rDa s).2.cb, Rd (rDa s).2.l (rDa s).2.rb] := by
 refine callG Tryz.func179 low179 (by simp [c179]) ?_
 simp only [c179]
 unfold rDa
 have g1 := rqS_le (-5) 5 s
 have h1 : CallG Tryz.prog 170 [.ptr 0 0 0 1, .ptr 2 0 0 1, .int .i64 (-5), .int .i64 5] [Cr 1 s.cb, Rd s.l s.rb, Va 2 [.int .i64 0, .int .i64 0]] (.tup []) [Cr 1 (rqS (-5) 5 s).2.cb, Rd (rqS (-5) 5 s).2.l (rqS (-5) 5 s).2.rb, Va 2 [.int .i64 (rqS (-5) 5 s).1, .int .i64 0]] := sigI_r s.l s.rb s.cb 2 [.int .i64 0, .int .i64 0] 0 (-5) 5 rfl (by omega) (by omega)
 generalize rqS (-5) 5 s = q1 at h1 g1 ⊢
 obtain ⟨v1, s1⟩ := q1
 dsimp only at h1 g1 ⊢
 have g2 := (rqN_le 6 (by omega) s1).1
 have h2 : CallG Tryz.prog 131 [.ptr 0 0 0 1, .ptr 2 0 1 1, .int .u64 6] [Cr 1 s1.cb, Rd s1.l s1.rb, Va 2 [.int .i64 v1, .int .i64 0]] (.tup []) [Cr 1 (rqN 6 s1).2.cb, Rd (rqN 6 s1).2.l (rqN 6 s1).2.rb, Va 2 [.int .i64 v1, .int .i64 (rqN 6 s1).1]] := numI_r s1.l s1.rb s1.cb 2 [.int .i64 v1, .int .i64 0] 1 6 rfl (by omega) (by omega) (by omega)
 generalize rqN 6 s1 = q2 at h2 g2 ⊢
 obtain ⟨v2, s2⟩ := q2
 dsimp only at h2 g2 ⊢
 have hc : cDa ((v1 : Int), (v2 : Int)) = [.int .i64 v1, .int .i64 v2] := rfl
 rw [hc]
 refine wk [170, 131] [] exYR4 ?_
 exact rtw [0, 1, 2, 3] exYR4
theorem rowDa_r (s : Rs) (sz : Nat) (R : List D) (j most : Nat) (hR : R[j]? = some (.list (some true) true [])) (hz : R.length = sz) (hm : most < 1000000) (hl : s.l.length ≤ 1099511627776) :
  CallG Tryz.prog 178 [.ptr 0 0 0 1, .ptr 2 0 j 1, .int .i64 most, .fn 179 [.ptr 3 0 0 1]] [Cr 1 s.cb, Rd s.l s.rb, Va sz R, Bx 0] (.tup [])
   [Cr 1 (rRow rDa most s).2.cb, Rd (rRow rDa most s).2.l (rRow rDa most s).2.rb, Va sz (R.set j (L (row2 .i64 .i64 (rRow rDa most s).1))), Bx 0] :=
 rowS_r (rw_ := cDa) Tryz.func178 low178 (by decide) (by decide) (by decide) rfl (fun _ => rfl) rfl rfl (fun _ => rfl) (fun _ => rfl) (fun _ => rfl) rDa_le elDa_r s sz R j most hR hz hm hl
def rEx (s : Rs) : (Int) × Rs := (((rqM s).1 : Int), (rqM s).2)
theorem rEx_le (s : Rs) : (rEx s).2.l.length ≤ s.l.length := rqM_le _
theorem elEx_r (s : Rs) (hl : s.l.length ≤ 1099511627776) :
  CallG Tryz.prog 155 [.ptr 0 0 0 1, .ptr 1 0 0 1] [Va 1 [.int .i64 0], Bx 2, Cr 3 s.cb, Rd s.l s.rb] (.tup [])
   [Va 1 (cEx (rEx s).1), Bx 2, Cr 3 (rEx s).2.cb, Rd (rEx s).2.l (rEx s).2.rb] := by
 refine callG Tryz.func155 low155 (by simp [c155]) ?_
 simp only [c155]
 unfold rEx
 have g1 := rqM_le s
 have h1 : CallG Tryz.prog 87 [.ptr 0 0 0 1, .ptr 2 0 0 1] [Cr 1 s.cb, Rd s.l s.rb, Va 1 [.int .i64 0]] (.tup []) [Cr 1 (rqM s).2.cb, Rd (rqM s).2.l (rqM s).2.rb, Va 1 [.int .i64 (rqM s).1]] := minutes_r s.l s.rb s.cb 1 [.int .i64 0] 0 rfl (by omega) (by omega)
 generalize rqM s = q1 at h1 g1 ⊢
 obtain ⟨v1, s1⟩ := q1
 dsimp only at h1 g1 ⊢
 have hc : cEx (v1 : Int) = [.int .i64 v1] := rfl
 rw [hc]
 refine wk [87] [] exYR4 ?_
 exact rtw [0, 1, 2, 3] exYR4
theorem rowEx_r (s : Rs) (sz : Nat) (R : List D) (j most : Nat) (hR : R[j]? = some (.list (some true) true [])) (hz : R.length = sz) (hm : most < 1000000) (hl : s.l.length ≤ 1099511627776) :
  CallG Tryz.prog 127 [.ptr 0 0 0 1, .ptr 2 0 j 1, .int .i64 most, .fn 155 [.ptr 3 0 0 1]] [Cr 1 s.cb, Rd s.l s.rb, Va sz R, Bx 0] (.tup [])
   [Cr 1 (rRow rEx most s).2.cb, Rd (rRow rEx most s).2.l (rRow rEx most s).2.rb, Va sz (R.set j (L (row1 .i64 (rRow rEx most s).1))), Bx 0] :=
 rowI_r (kk := .i64) Tryz.func127 low127 (by decide) (by decide) rEx_le elEx_r s sz R j most hR hz hm hl
def rPl (s : Rs) : (Int) × Rs := (((rqM s).1 : Int), (rqM s).2)
theorem rPl_le (s : Rs) : (rPl s).2.l.length ≤ s.l.length := rqM_le _
theorem elPl_r (s : Rs) (hl : s.l.length ≤ 1099511627776) :
  CallG Tryz.prog 156 [.ptr 0 0 0 1, .ptr 1 0 0 1] [Va 1 [.int .i64 0], Bx 2, Cr 3 s.cb, Rd s.l s.rb] (.tup [])
   [Va 1 (cPl (rPl s).1), Bx 2, Cr 3 (rPl s).2.cb, Rd (rPl s).2.l (rPl s).2.rb] := by
 refine callG Tryz.func156 low156 (by simp [c156]) ?_
 simp only [c156]
 unfold rPl
 have g1 := rqM_le s
 have h1 : CallG Tryz.prog 87 [.ptr 0 0 0 1, .ptr 2 0 0 1] [Cr 1 s.cb, Rd s.l s.rb, Va 1 [.int .i64 0]] (.tup []) [Cr 1 (rqM s).2.cb, Rd (rqM s).2.l (rqM s).2.rb, Va 1 [.int .i64 (rqM s).1]] := minutes_r s.l s.rb s.cb 1 [.int .i64 0] 0 rfl (by omega) (by omega)
 generalize rqM s = q1 at h1 g1 ⊢
 obtain ⟨v1, s1⟩ := q1
 dsimp only at h1 g1 ⊢
 have hc : cPl (v1 : Int) = [.int .i64 v1] := rfl
 rw [hc]
 refine wk [87] [] exYR4 ?_
 exact rtw [0, 1, 2, 3] exYR4
theorem rowPl_r (s : Rs) (sz : Nat) (R : List D) (j most : Nat) (hR : R[j]? = some (.list (some true) true [])) (hz : R.length = sz) (hm : most < 1000000) (hl : s.l.length ≤ 1099511627776) :
  CallG Tryz.prog 127 [.ptr 0 0 0 1, .ptr 2 0 j 1, .int .i64 most, .fn 156 [.ptr 3 0 0 1]] [Cr 1 s.cb, Rd s.l s.rb, Va sz R, Bx 0] (.tup [])
   [Cr 1 (rRow rPl most s).2.cb, Rd (rRow rPl most s).2.l (rRow rPl most s).2.rb, Va sz (R.set j (L (row1 .i64 (rRow rPl most s).1))), Bx 0] :=
 rowI_r (kk := .i64) Tryz.func127 low127 (by decide) (by decide) rPl_le elPl_r s sz R j most hR hz hm hl
def rCh (s : Rs) : (Int × Int × Int) × Rs := ((((rqM s).1 : Int), ((rqM (rqM s).2).1 : Int), ((rqN 10080 (rqM (rqM s).2).2).1 : Int)), (rqN 10080 (rqM (rqM s).2).2).2)
theorem rCh_le (s : Rs) : (rCh s).2.l.length ≤ s.l.length := Nat.le_trans (Nat.le_trans ((rqN_le _ (by omega) _).1) (rqM_le _)) (rqM_le _)
theorem elCh_r (s : Rs) (hl : s.l.length ≤ 1099511627776) :
  CallG Tryz.prog 158 [.ptr 0 0 0 1, .ptr 1 0 0 1] [Va 3 [.int .i64 0, .int .i64 0, .int .i64 0], Bx 2, Cr 3 s.cb, Rd s.l s.rb] (.tup [])
   [Va 3 (cCh (rCh s).1), Bx 2, Cr 3 (rCh s).2.cb, Rd (rCh s).2.l (rCh s).2.rb] := by
 refine callG Tryz.func158 low158 (by simp [c158]) ?_
 simp only [c158]
 unfold rCh
 have g1 := rqM_le s
 have h1 : CallG Tryz.prog 87 [.ptr 0 0 0 1, .ptr 2 0 0 1] [Cr 1 s.cb, Rd s.l s.rb, Va 3 [.int .i64 0, .int .i64 0, .int .i64 0]] (.tup []) [Cr 1 (rqM s).2.cb, Rd (rqM s).2.l (rqM s).2.rb, Va 3 [.int .i64 (rqM s).1, .int .i64 0, .int .i64 0]] := minutes_r s.l s.rb s.cb 3 [.int .i64 0, .int .i64 0, .int .i64 0] 0 rfl (by omega) (by omega)
 generalize rqM s = q1 at h1 g1 ⊢
 obtain ⟨v1, s1⟩ := q1
 dsimp only at h1 g1 ⊢
 have g2 := rqM_le s1
 have h2 : CallG Tryz.prog 87 [.ptr 0 0 0 1, .ptr 2 0 1 1] [Cr 1 s1.cb, Rd s1.l s1.rb, Va 3 [.int .i64 v1, .int .i64 0, .int .i64 0]] (.tup []) [Cr 1 (rqM s1).2.cb, Rd (rqM s1).2.l (rqM s1).2.rb, Va 3 [.int .i64 v1, .int .i64 (rqM s1).1, .int .i64 0]] := minutes_r s1.l s1.rb s1.cb 3 [.int .i64 v1, .int .i64 0, .int .i64 0] 1 rfl (by omega) (by omega)
 generalize rqM s1 = q2 at h2 g2 ⊢
 obtain ⟨v2, s2⟩ := q2
 dsimp only at h2 g2 ⊢
 have g3 := (rqN_le 10080 (by omega) s2).1
 have h3 : CallG Tryz.prog 131 [.ptr 0 0 0 1, .ptr 2 0 2 1, .int .u64 10080] [Cr 1 s2.cb, Rd s2.l s2.rb, Va 3 [.int .i64 v1, .int .i64 v2, .int .i64 0]] (.tup []) [Cr 1 (rqN 10080 s2).2.cb, Rd (rqN 10080 s2).2.l (rqN 10080 s2).2.rb, Va 3 [.int .i64 v1, .int .i64 v2, .int .i64 (rqN 10080 s2).1]] := numI_r s2.l s2.rb s2.cb 3 [.int .i64 v1, .int .i64 v2, .int .i64 0] 2 10080 rfl (by omega) (by omega) (by omega)
 generalize rqN 10080 s2 = q3 at h3 g3 ⊢
 obtain ⟨v3, s3⟩ := q3
 dsimp only at h3 g3 ⊢
 have hc : cCh ((v1 : Int), (v2 : Int), (v3 : Int)) = [.int .i64 v1, .int .i64 v2, .int .i64 v3] := rfl
 rw [hc]
 refine wk [87, 131] [] exYR4 ?_
 exact rtw [0, 1, 2, 3] exYR4
theorem rowCh_r (s : Rs) (sz : Nat) (R : List D) (j most : Nat) (hR : R[j]? = some (.list (some true) true [])) (hz : R.length = sz) (hm : most < 1000000) (hl : s.l.length ≤ 1099511627776) :
  CallG Tryz.prog 157 [.ptr 0 0 0 1, .ptr 2 0 j 1, .int .i64 most, .fn 158 [.ptr 3 0 0 1]] [Cr 1 s.cb, Rd s.l s.rb, Va sz R, Bx 0] (.tup [])
   [Cr 1 (rRow rCh most s).2.cb, Rd (rRow rCh most s).2.l (rRow rCh most s).2.rb, Va sz (R.set j (L (row3 (rRow rCh most s).1))), Bx 0] :=
 rowS_r (rw_ := cCh) Tryz.func157 low157 (by decide) (by decide) (by decide) rfl (fun _ => rfl) rfl rfl (fun _ => rfl) (fun _ => rfl) (fun _ => rfl) rCh_le elCh_r s sz R j most hR hz hm hl
def rMu (s : Rs) : (Int) × Rs := (((rqN 4294967295 s).1 : Int), (rqN 4294967295 s).2)
theorem rMu_le (s : Rs) : (rMu s).2.l.length ≤ s.l.length := (rqN_le _ (by omega) _).1
theorem elMu_r (s : Rs) (hl : s.l.length ≤ 1099511627776) :
  CallG Tryz.prog 160 [.ptr 0 0 0 1, .ptr 1 0 0 1] [Va 1 [.int .u32 0], Bx 2, Cr 3 s.cb, Rd s.l s.rb] (.tup [])
   [Va 1 (cMu (rMu s).1), Bx 2, Cr 3 (rMu s).2.cb, Rd (rMu s).2.l (rMu s).2.rb] := by
 refine callG Tryz.func160 low160 (by simp [c160]) ?_
 simp only [c160]
 unfold rMu
 have g1 := (rqN_le 4294967295 (by omega) s).1
 have h1 : CallG Tryz.prog 94 [.ptr 0 0 0 1, .ptr 2 0 0 1] [Cr 1 s.cb, Rd s.l s.rb, Va 1 [.int .u32 0]] (.tup []) [Cr 1 (rqN 4294967295 s).2.cb, Rd (rqN 4294967295 s).2.l (rqN 4294967295 s).2.rb, Va 1 [.int .u32 (rqN 4294967295 s).1]] := name_r s.l s.rb s.cb 1 [.int .u32 0] 0 rfl (by omega) (by omega)
 generalize rqN 4294967295 s = q1 at h1 g1 ⊢
 obtain ⟨v1, s1⟩ := q1
 dsimp only at h1 g1 ⊢
 have hc : cMu (v1 : Int) = [.int .u32 v1] := rfl
 rw [hc]
 refine wk [94] [] exYR4 ?_
 exact rtw [0, 1, 2, 3] exYR4
theorem rowMu_r (s : Rs) (sz : Nat) (R : List D) (j most : Nat) (hR : R[j]? = some (.list (some true) true [])) (hz : R.length = sz) (hm : most < 1000000) (hl : s.l.length ≤ 1099511627776) :
  CallG Tryz.prog 159 [.ptr 0 0 0 1, .ptr 2 0 j 1, .int .i64 most, .fn 160 [.ptr 3 0 0 1]] [Cr 1 s.cb, Rd s.l s.rb, Va sz R, Bx 0] (.tup [])
   [Cr 1 (rRow rMu most s).2.cb, Rd (rRow rMu most s).2.l (rRow rMu most s).2.rb, Va sz (R.set j (L (row1 .u32 (rRow rMu most s).1))), Bx 0] :=
 rowI_r (kk := .u32) Tryz.func159 low159 (by decide) (by decide) rMu_le elMu_r s sz R j most hR hz hm hl
def rWa (s : Rs) : (Int × Int) × Rs := ((((rqN 4294967295 s).1 : Int), ((rqN 1000 (rqN 4294967295 s).2).1 : Int)), (rqN 1000 (rqN 4294967295 s).2).2)
theorem rWa_le (s : Rs) : (rWa s).2.l.length ≤ s.l.length := Nat.le_trans ((rqN_le _ (by omega) _).1) ((rqN_le _ (by omega) _).1)
theorem elWa_r (s : Rs) (hl : s.l.length ≤ 1099511627776) :
  CallG Tryz.prog 162 [.ptr 0 0 0 1, .ptr 1 0 0 1] [Va 2 [.int .u32 0, .int .i64 0], Bx 2, Cr 3 s.cb, Rd s.l s.rb] (.tup [])
   [Va 2 (cWa (rWa s).1), Bx 2, Cr 3 (rWa s).2.cb, Rd (rWa s).2.l (rWa s).2.rb] := by
 refine callG Tryz.func162 low162 (by simp [c162]) ?_
 simp only [c162]
 unfold rWa
 have g1 := (rqN_le 4294967295 (by omega) s).1
 have h1 : CallG Tryz.prog 94 [.ptr 0 0 0 1, .ptr 2 0 0 1] [Cr 1 s.cb, Rd s.l s.rb, Va 2 [.int .u32 0, .int .i64 0]] (.tup []) [Cr 1 (rqN 4294967295 s).2.cb, Rd (rqN 4294967295 s).2.l (rqN 4294967295 s).2.rb, Va 2 [.int .u32 (rqN 4294967295 s).1, .int .i64 0]] := name_r s.l s.rb s.cb 2 [.int .u32 0, .int .i64 0] 0 rfl (by omega) (by omega)
 generalize rqN 4294967295 s = q1 at h1 g1 ⊢
 obtain ⟨v1, s1⟩ := q1
 dsimp only at h1 g1 ⊢
 have g2 := (rqN_le 1000 (by omega) s1).1
 have h2 : CallG Tryz.prog 131 [.ptr 0 0 0 1, .ptr 2 0 1 1, .int .u64 1000] [Cr 1 s1.cb, Rd s1.l s1.rb, Va 2 [.int .u32 v1, .int .i64 0]] (.tup []) [Cr 1 (rqN 1000 s1).2.cb, Rd (rqN 1000 s1).2.l (rqN 1000 s1).2.rb, Va 2 [.int .u32 v1, .int .i64 (rqN 1000 s1).1]] := numI_r s1.l s1.rb s1.cb 2 [.int .u32 v1, .int .i64 0] 1 1000 rfl (by omega) (by omega) (by omega)
 generalize rqN 1000 s1 = q2 at h2 g2 ⊢
 obtain ⟨v2, s2⟩ := q2
 dsimp only at h2 g2 ⊢
 have hc : cWa ((v1 : Int), (v2 : Int)) = [.int .u32 v1, .int .i64 v2] := rfl
 rw [hc]
 refine wk [94, 131] [] exYR4 ?_
 exact rtw [0, 1, 2, 3] exYR4
theorem rowWa_r (s : Rs) (sz : Nat) (R : List D) (j most : Nat) (hR : R[j]? = some (.list (some true) true [])) (hz : R.length = sz) (hm : most < 1000000) (hl : s.l.length ≤ 1099511627776) :
  CallG Tryz.prog 161 [.ptr 0 0 0 1, .ptr 2 0 j 1, .int .i64 most, .fn 162 [.ptr 3 0 0 1]] [Cr 1 s.cb, Rd s.l s.rb, Va sz R, Bx 0] (.tup [])
   [Cr 1 (rRow rWa most s).2.cb, Rd (rRow rWa most s).2.l (rRow rWa most s).2.rb, Va sz (R.set j (L (row2 .u32 .i64 (rRow rWa most s).1))), Bx 0] :=
 rowS_r (rw_ := cWa) Tryz.func161 low161 (by decide) (by decide) (by decide) rfl (fun _ => rfl) rfl rfl (fun _ => rfl) (fun _ => rfl) (fun _ => rfl) rWa_le elWa_r s sz R j most hR hz hm hl
def rPa (s : Rs) : (Int × Int) × Rs := ((((rqN 4294967295 s).1 : Int), ((rqN 4294967295 (rqN 4294967295 s).2).1 : Int)), (rqN 4294967295 (rqN 4294967295 s).2).2)
theorem rPa_le (s : Rs) : (rPa s).2.l.length ≤ s.l.length := Nat.le_trans ((rqN_le _ (by omega) _).1) ((rqN_le _ (by omega) _).1)
theorem elPa_r (s : Rs) (hl : s.l.length ≤ 1099511627776) :
  CallG Tryz.prog 164 [.ptr 0 0 0 1, .ptr 1 0 0 1] [Va 2 [.int .u32 0, .int .u32 0], Bx 2, Cr 3 s.cb, Rd s.l s.rb] (.tup [])
   [Va 2 (cPa (rPa s).1), Bx 2, Cr 3 (rPa s).2.cb, Rd (rPa s).2.l (rPa s).2.rb] := by
 refine callG Tryz.func164 low164 (by simp [c164]) ?_
 simp only [c164]
 unfold rPa
 have g1 := (rqN_le 4294967295 (by omega) s).1
 have h1 : CallG Tryz.prog 94 [.ptr 0 0 0 1, .ptr 2 0 0 1] [Cr 1 s.cb, Rd s.l s.rb, Va 2 [.int .u32 0, .int .u32 0]] (.tup []) [Cr 1 (rqN 4294967295 s).2.cb, Rd (rqN 4294967295 s).2.l (rqN 4294967295 s).2.rb, Va 2 [.int .u32 (rqN 4294967295 s).1, .int .u32 0]] := name_r s.l s.rb s.cb 2 [.int .u32 0, .int .u32 0] 0 rfl (by omega) (by omega)
 generalize rqN 4294967295 s = q1 at h1 g1 ⊢
 obtain ⟨v1, s1⟩ := q1
 dsimp only at h1 g1 ⊢
 have g2 := (rqN_le 4294967295 (by omega) s1).1
 have h2 : CallG Tryz.prog 94 [.ptr 0 0 0 1, .ptr 2 0 1 1] [Cr 1 s1.cb, Rd s1.l s1.rb, Va 2 [.int .u32 v1, .int .u32 0]] (.tup []) [Cr 1 (rqN 4294967295 s1).2.cb, Rd (rqN 4294967295 s1).2.l (rqN 4294967295 s1).2.rb, Va 2 [.int .u32 v1, .int .u32 (rqN 4294967295 s1).1]] := name_r s1.l s1.rb s1.cb 2 [.int .u32 v1, .int .u32 0] 1 rfl (by omega) (by omega)
 generalize rqN 4294967295 s1 = q2 at h2 g2 ⊢
 obtain ⟨v2, s2⟩ := q2
 dsimp only at h2 g2 ⊢
 have hc : cPa ((v1 : Int), (v2 : Int)) = [.int .u32 v1, .int .u32 v2] := rfl
 rw [hc]
 refine wk [94] [] exYR4 ?_
 exact rtw [0, 1, 2, 3] exYR4
theorem rowPa_r (s : Rs) (sz : Nat) (R : List D) (j most : Nat) (hR : R[j]? = some (.list (some true) true [])) (hz : R.length = sz) (hm : most < 1000000) (hl : s.l.length ≤ 1099511627776) :
  CallG Tryz.prog 163 [.ptr 0 0 0 1, .ptr 2 0 j 1, .int .i64 most, .fn 164 [.ptr 3 0 0 1]] [Cr 1 s.cb, Rd s.l s.rb, Va sz R, Bx 0] (.tup [])
   [Cr 1 (rRow rPa most s).2.cb, Rd (rRow rPa most s).2.l (rRow rPa most s).2.rb, Va sz (R.set j (L (row2 .u32 .u32 (rRow rPa most s).1))), Bx 0] :=
 rowS_r (rw_ := cPa) Tryz.func163 low163 (by decide) (by decide) (by decide) rfl (fun _ => rfl) rfl rfl (fun _ => rfl) (fun _ => rfl) (fun _ => rfl) rPa_le elPa_r s sz R j most hR hz hm hl
def rTs (s : Rs) : (Int) × Rs := (((rqM s).1 : Int), (rqM s).2)
theorem rTs_le (s : Rs) : (rTs s).2.l.length ≤ s.l.length := rqM_le _
theorem elTs_r (s : Rs) (hl : s.l.length ≤ 1099511627776) :
  CallG Tryz.prog 128 [.ptr 0 0 0 1, .ptr 1 0 0 1] [Va 1 [.int .i64 0], Bx 2, Cr 3 s.cb, Rd s.l s.rb] (.tup [])
   [Va 1 (cTs (rTs s).1), Bx 2, Cr 3 (rTs s).2.cb, Rd (rTs s).2.l (rTs s).2.rb] := by
 refine callG Tryz.func128 low128 (by simp [c128]) ?_
 simp only [c128]
 unfold rTs
 have g1 := rqM_le s
 have h1 : CallG Tryz.prog 87 [.ptr 0 0 0 1, .ptr 2 0 0 1] [Cr 1 s.cb, Rd s.l s.rb, Va 1 [.int .i64 0]] (.tup []) [Cr 1 (rqM s).2.cb, Rd (rqM s).2.l (rqM s).2.rb, Va 1 [.int .i64 (rqM s).1]] := minutes_r s.l s.rb s.cb 1 [.int .i64 0] 0 rfl (by omega) (by omega)
 generalize rqM s = q1 at h1 g1 ⊢
 obtain ⟨v1, s1⟩ := q1
 dsimp only at h1 g1 ⊢
 have hc : cTs (v1 : Int) = [.int .i64 v1] := rfl
 rw [hc]
 refine wk [87] [] exYR4 ?_
 exact rtw [0, 1, 2, 3] exYR4
theorem rowTs_r (s : Rs) (sz : Nat) (R : List D) (j most : Nat) (hR : R[j]? = some (.list (some true) true [])) (hz : R.length = sz) (hm : most < 1000000) (hl : s.l.length ≤ 1099511627776) :
  CallG Tryz.prog 127 [.ptr 0 0 0 1, .ptr 2 0 j 1, .int .i64 most, .fn 128 [.ptr 3 0 0 1]] [Cr 1 s.cb, Rd s.l s.rb, Va sz R, Bx 0] (.tup [])
   [Cr 1 (rRow rTs most s).2.cb, Rd (rRow rTs most s).2.l (rRow rTs most s).2.rb, Va sz (R.set j (L (row1 .i64 (rRow rTs most s).1))), Bx 0] :=
 rowI_r (kk := .i64) Tryz.func127 low127 (by decide) (by decide) rTs_le elTs_r s sz R j most hR hz hm hl
def rVo (s : Rs) : (Int × Int) × Rs := ((((rqN 4294967295 s).1 : Int), ((rqN 40 (rqN 4294967295 s).2).1 : Int)), (rqN 40 (rqN 4294967295 s).2).2)
theorem rVo_le (s : Rs) : (rVo s).2.l.length ≤ s.l.length := Nat.le_trans ((rqN_le _ (by omega) _).1) ((rqN_le _ (by omega) _).1)
theorem elVo_r (s : Rs) (hl : s.l.length ≤ 1099511627776) :
  CallG Tryz.prog 130 [.ptr 0 0 0 1, .ptr 1 0 0 1] [Va 2 [.int .u32 0, .int .i64 0], Bx 2, Cr 3 s.cb, Rd s.l s.rb] (.tup [])
   [Va 2 (cVo (rVo s).1), Bx 2, Cr 3 (rVo s).2.cb, Rd (rVo s).2.l (rVo s).2.rb] := by
 refine callG Tryz.func130 low130 (by simp [c130]) ?_
 simp only [c130]
 unfold rVo
 have g1 := (rqN_le 4294967295 (by omega) s).1
 have h1 : CallG Tryz.prog 94 [.ptr 0 0 0 1, .ptr 2 0 0 1] [Cr 1 s.cb, Rd s.l s.rb, Va 2 [.int .u32 0, .int .i64 0]] (.tup []) [Cr 1 (rqN 4294967295 s).2.cb, Rd (rqN 4294967295 s).2.l (rqN 4294967295 s).2.rb, Va 2 [.int .u32 (rqN 4294967295 s).1, .int .i64 0]] := name_r s.l s.rb s.cb 2 [.int .u32 0, .int .i64 0] 0 rfl (by omega) (by omega)
 generalize rqN 4294967295 s = q1 at h1 g1 ⊢
 obtain ⟨v1, s1⟩ := q1
 dsimp only at h1 g1 ⊢
 have g2 := (rqN_le 40 (by omega) s1).1
 have h2 : CallG Tryz.prog 131 [.ptr 0 0 0 1, .ptr 2 0 1 1, .int .u64 40] [Cr 1 s1.cb, Rd s1.l s1.rb, Va 2 [.int .u32 v1, .int .i64 0]] (.tup []) [Cr 1 (rqN 40 s1).2.cb, Rd (rqN 40 s1).2.l (rqN 40 s1).2.rb, Va 2 [.int .u32 v1, .int .i64 (rqN 40 s1).1]] := numI_r s1.l s1.rb s1.cb 2 [.int .u32 v1, .int .i64 0] 1 40 rfl (by omega) (by omega) (by omega)
 generalize rqN 40 s1 = q2 at h2 g2 ⊢
 obtain ⟨v2, s2⟩ := q2
 dsimp only at h2 g2 ⊢
 have hc : cVo ((v1 : Int), (v2 : Int)) = [.int .u32 v1, .int .i64 v2] := rfl
 rw [hc]
 refine wk [94, 131] [] exYR4 ?_
 exact rtw [0, 1, 2, 3] exYR4
theorem rowVo_r (s : Rs) (sz : Nat) (R : List D) (j most : Nat) (hR : R[j]? = some (.list (some true) true [])) (hz : R.length = sz) (hm : most < 1000000) (hl : s.l.length ≤ 1099511627776) :
  CallG Tryz.prog 129 [.ptr 0 0 0 1, .ptr 2 0 j 1, .int .i64 most, .fn 130 [.ptr 3 0 0 1]] [Cr 1 s.cb, Rd s.l s.rb, Va sz R, Bx 0] (.tup [])
   [Cr 1 (rRow rVo most s).2.cb, Rd (rRow rVo most s).2.l (rRow rVo most s).2.rb, Va sz (R.set j (L (row2 .u32 .i64 (rRow rVo most s).1))), Bx 0] :=
 rowS_r (rw_ := cVo) Tryz.func129 low129 (by decide) (by decide) (by decide) rfl (fun _ => rfl) rfl rfl (fun _ => rfl) (fun _ => rfl) (fun _ => rfl) rVo_le elVo_r s sz R j most hR hz hm hl
def rDn (s : Rs) : (Int × Int × Int) × Rs := ((((rqN 4294967295 s).1 : Int), ((rqN 18446744073709551615 (rqN 4294967295 s).2).1 : Int), ((rqN 18446744073709551615 (rqN 18446744073709551615 (rqN 4294967295 s).2).2).1 : Int)), (rqN 18446744073709551615 (rqN 18446744073709551615 (rqN 4294967295 s).2).2).2)
theorem rDn_le (s : Rs) : (rDn s).2.l.length ≤ s.l.length := Nat.le_trans (Nat.le_trans ((rqN_le _ (by omega) _).1) ((rqN_le _ (by omega) _).1)) ((rqN_le _ (by omega) _).1)
theorem elDn_r (s : Rs) (hl : s.l.length ≤ 1099511627776) :
  CallG Tryz.prog 93 [.ptr 0 0 0 1, .ptr 1 0 0 1] [Va 3 [.int .u32 0, .int .u64 0, .int .u64 0], Bx 2, Cr 3 s.cb, Rd s.l s.rb] (.tup [])
   [Va 3 (cDn (rDn s).1), Bx 2, Cr 3 (rDn s).2.cb, Rd (rDn s).2.l (rDn s).2.rb] := by
 refine callG Tryz.func93 low93 (by simp [c93]) ?_
 simp only [c93]
 unfold rDn
 have g1 := (rqN_le 4294967295 (by omega) s).1
 have h1 : CallG Tryz.prog 94 [.ptr 0 0 0 1, .ptr 2 0 0 1] [Cr 1 s.cb, Rd s.l s.rb, Va 3 [.int .u32 0, .int .u64 0, .int .u64 0]] (.tup []) [Cr 1 (rqN 4294967295 s).2.cb, Rd (rqN 4294967295 s).2.l (rqN 4294967295 s).2.rb, Va 3 [.int .u32 (rqN 4294967295 s).1, .int .u64 0, .int .u64 0]] := name_r s.l s.rb s.cb 3 [.int .u32 0, .int .u64 0, .int .u64 0] 0 rfl (by omega) (by omega)
 generalize rqN 4294967295 s = q1 at h1 g1 ⊢
 obtain ⟨v1, s1⟩ := q1
 dsimp only at h1 g1 ⊢
 have g2 := (rqN_le 18446744073709551615 (by omega) s1).1
 have h2 : CallG Tryz.prog 95 [.ptr 0 0 0 1, .ptr 2 0 1 1, .int .u64 18446744073709551615] [Cr 1 s1.cb, Rd s1.l s1.rb, Va 3 [.int .u32 v1, .int .u64 0, .int .u64 0]] (.tup []) [Cr 1 (rqN 18446744073709551615 s1).2.cb, Rd (rqN 18446744073709551615 s1).2.l (rqN 18446744073709551615 s1).2.rb, Va 3 [.int .u32 v1, .int .u64 (rqN 18446744073709551615 s1).1, .int .u64 0]] := numQ_r s1.l s1.rb s1.cb 3 [.int .u32 v1, .int .u64 0, .int .u64 0] 1 18446744073709551615 rfl (by omega) (by omega) (by omega)
 generalize rqN 18446744073709551615 s1 = q2 at h2 g2 ⊢
 obtain ⟨v2, s2⟩ := q2
 dsimp only at h2 g2 ⊢
 have g3 := (rqN_le 18446744073709551615 (by omega) s2).1
 have h3 : CallG Tryz.prog 95 [.ptr 0 0 0 1, .ptr 2 0 2 1, .int .u64 18446744073709551615] [Cr 1 s2.cb, Rd s2.l s2.rb, Va 3 [.int .u32 v1, .int .u64 v2, .int .u64 0]] (.tup []) [Cr 1 (rqN 18446744073709551615 s2).2.cb, Rd (rqN 18446744073709551615 s2).2.l (rqN 18446744073709551615 s2).2.rb, Va 3 [.int .u32 v1, .int .u64 v2, .int .u64 (rqN 18446744073709551615 s2).1]] := numQ_r s2.l s2.rb s2.cb 3 [.int .u32 v1, .int .u64 v2, .int .u64 0] 2 18446744073709551615 rfl (by omega) (by omega) (by omega)
 generalize rqN 18446744073709551615 s2 = q3 at h3 g3 ⊢
 obtain ⟨v3, s3⟩ := q3
 dsimp only at h3 g3 ⊢
 have hc : cDn ((v1 : Int), (v2 : Int), (v3 : Int)) = [.int .u32 v1, .int .u64 v2, .int .u64 v3] := rfl
 rw [hc]
 refine wk [94, 95] [] exYR4 ?_
 exact rtw [0, 1, 2, 3] exYR4
theorem rowDn_r (s : Rs) (sz : Nat) (R : List D) (j most : Nat) (hR : R[j]? = some (.list (some true) true [])) (hz : R.length = sz) (hm : most < 1000000) (hl : s.l.length ≤ 1099511627776) :
  CallG Tryz.prog 92 [.ptr 0 0 0 1, .ptr 2 0 j 1, .int .i64 most, .fn 93 [.ptr 3 0 0 1]] [Cr 1 s.cb, Rd s.l s.rb, Va sz R, Bx 0] (.tup [])
   [Cr 1 (rRow rDn most s).2.cb, Rd (rRow rDn most s).2.l (rRow rDn most s).2.rb, Va sz (R.set j (L (rowQ (rRow rDn most s).1))), Bx 0] :=
 rowS_r (rw_ := cDn) Tryz.func92 low92 (by decide) (by decide) (by decide) rfl (fun _ => rfl) rfl rfl (fun _ => rfl) (fun _ => rfl) (fun _ => rfl) rDn_le elDn_r s sz R j most hR hz hm hl
end Go.Proofs.YtapennlmboabeaaGreat
