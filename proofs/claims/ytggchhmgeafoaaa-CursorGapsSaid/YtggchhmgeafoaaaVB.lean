import Derived.Test.YtggchhmgeafoaaaVA
import Derived.Test.YtggchhmgeafoaaaXX
import Derived.Test.YtggchhmgeafoaaaVi29
import Derived.Test.YtggchhmgeafoaaaVi33
set_option linter.unusedVariables false
set_option linter.unusedSimpArgs false
set_option linter.unnecessarySimpa false
namespace Go.Proofs.Ytggchhmgeafoaaa
open Go Go.Vi
theorem mxE (a b : Int) : (if b > a then b else a) = max a b := by split <;> omega
theorem mnE (a b : Int) : (if b < a then b else a) = min a b := by split <;> omega
abbrev Rg (l : List Sp) (d : Hd) : Ob := ⟨true, false, true, false, 12, [[.int .i64 0, .nilp, LS l, .list (some true) true [], .int .i64 0, .int .i64 0, .int .i64 0, .int .i64 0, .int .i64 d.h.1, .int .i64 d.h.2, .bool d.has, .int .i64 d.k]], some 0⟩
abbrev RgE (d : Hd) : Ob := ⟨true, false, true, false, 12, [[.int .i64 0, .nilp, .list none false [], .list (some true) true [], .int .i64 0, .int .i64 0, .int .i64 0, .int .i64 0, .int .i64 d.h.1, .int .i64 d.h.2, .bool d.has, .int .i64 d.k]], some 0⟩
abbrev ansN : D := .tup [.agg [.int .i64 0, .int .i64 0], .bool false]
abbrev ansY (s : Sp) : D := .tup [.agg [.int .i64 s.1, .int .i64 s.2], .bool true]
def ansO : Option Sp → D
 | none => ansN
 | some y => ansY y
theorem exVCG1 : type_of% @rowsS_len := @rowsS_len
theorem ofRowE_p (d : Hd) : CallG Try.prog 47 [.ptr 0 0 0 1] [RgE d] ansN [RgE d] := by
 refine callG Try.func47 low47 (by simp [c47]) ?_
 simp only [c47]
 have z0 : (((0 : Nat) : Int) == 0) = true := by simp
 repeat' ((first | refine Run_seq ?_ | refine Run_skip ?_ | refine Run_block ?_ | refine Run_blk ?_ | refine Run_exit rfl ?_ | refine Run_nil ?_ | refine Run_condK ?_ | refine Run_ops mixed ?_ | refine Run_opsX mixed ?_ | with_reducible refine PostV_open ?_ | with_reducible refine PostG_open ?_ | with_reducible refine PostQ_open ?_ | with_reducible refine ro_callV ?_ | with_reducible refine ro_callVX ?_ | simp (disch := omega) only [w64, wu64, wu32, wu16, wu8, Int.tdiv_eq_ediv_of_nonneg, Int.tmod_eq_emod_of_nonneg] | (with_reducible refine SliceK_own rfl rfl ?_ ?_; (focus ((try simp only [rowsS_len, reduceIte, Int.natCast_nonneg, Int.le_refl, List.length_append, List.length_map, Nat.sub_zero]) <;> ((repeat' (with_reducible refine And.intro ?_ ?_)) <;> first | exact trivial | assumption | (simp; done) | (simp only [List.length_map] at *; omega) | omega | (simp [D.cells, D.ok, D.one, D.pt, D.pt1]; done))))) | (refine GuardK_split (fun hc => ?_) (fun hc => ?_) <;> (try simp only [hc]) <;> (try simp at hc)) | (refine CondK_split (fun hc => ?_) (fun hc => ?_) <;> (try simp only [hc]) <;> (try simp at hc)) | (with_reducible refine And.intro ?_ ?_; (focus ((repeat' (with_reducible refine And.intro ?_ ?_)) <;> first | exact trivial | assumption | (simp; done) | (simp only [List.length_map] at *; omega) | omega | (simp [D.cells, D.ok, D.one, D.pt, D.pt1]; done)))) | (with_reducible intro x hx) | omega) <;> (try simp only [rowsS_len, z0, ro_nil, oo_def, om_def, ol_def, oa_def, on_def, og_def, gm_def, gl_def, ga_def, kc_def, kx_def, gk_def, kk_def, kb_def, pf_def, pt_def, ro_mov, ro_mkfn, ro_pick, ro_build, ro_slit, SlitK_t, SlitK_f, SlitK_x2, ro_chk, ro_bin, ro_eq, ro_un, ro_conv, ro_same, ro_b2s, ro_faddr, ro_fld, ro_idx, ro_ext, ro_len, ro_mx, ro_mn, ro_slice, SliceK_str, SliceK_list, ro_slice3, ro_load, LoadK_elt, LoadK_ptr, LoadO_some, LoadR_some, LoadR_map, ro_box, ro_alloc, ro_store, StoreK_ptr, StoreO_some, StoreR_some, ro_iaddr, IaddrK_list, IaddrK_own, IaddrR_some, IaddrR_map, ro_app, ro_appz, newsD_list, newsD_str, newsD_own, newsO_some, newsC_list, newsC_str, newsC_own, newsCO_some, AppN_some, AppZ_int, AppS_nil, AppS_own, AppO_acc, ro_cap, CapK_own, CapO, ro_ovl, OvlK_own, OvlO_some, ro_copy, CopyK_own, CopyO_some, ro_clear, ClearK_own, ClearO_some, ClearK_nil, ro_mks, MksK_int, winD_all, viewS_list, viewS_own', viewO_some, eqO_ptr, eqO_bool, eqO_func, eqO_row, eqO_list, eqO_own, eqOo_some, rx_nil, rx_cons, keepK_nil, keepK_cons, keepE_nil, keepE_cons, keepN_nil, keepN_cons, D.names, D.namesL, acc_real, acc_nl, acc_pure, acc_fz, acc_sz, acc_rows, acc_spare, ro_guard, GuardK_tt, GuardK_no, GuardK_ff, GuardK_tf, GuardK_ft, CondK_t, CondK_f, contP_some, lk_nil, lk_hit, lk_miss, Nat.reduceBEq, put_some, put_none, ev_t, ev_c, argEnv, reduceIte, Nat.reduceEqDiff, Nat.reduceAdd, Nat.reduceSub, Nat.reduceMul, Nat.reduceLT, Nat.reduceLeDiff, reduceCtorEq, binD, binInt, binStr, eqD, eqCell, eqCells, eqN, boolD, okD, aggD, unD, pickD, chkD, convD, sameD, strD, faddrD, fldD, idxD, extD, lenD, mxD, mnD, sliceD, slice3D, bndD, loadD, fillD, splice, D.cells, D.ok, D.one, D.pt, D.pt1, D.pt0, D.norm1, D.norm, cond_true, cond_false, true_and, and_true, and_self, Bool.true_and, Bool.and_true, Bool.false_and, Bool.and_false, Bool.not_true, Bool.not_false, Bool.true_or, Bool.false_or, Bool.or_true, Bool.or_false, List.getElem?_cons_zero, List.getElem?_cons_succ, List.getElem?_nil, List.length_cons, List.length_nil, List.length_map, List.length_append, List.length_set, List.length_take, List.length_drop, List.length_replicate, List.take_succ_cons, List.take_zero, List.take_nil, List.drop_succ_cons, List.drop_zero, List.drop_nil, List.cons_append, List.nil_append, List.append_nil, List.map_cons, List.map_nil, List.all_cons, List.all_nil, List.set_cons_zero, List.set_cons_succ, List.isEmpty_cons, List.isEmpty_nil, List.forall_mem_cons, List.not_mem_nil, List.forall_mem_nil, false_imp_iff, implies_true, ne_eq, not_false_eq_true, Option.map_some, Option.map_none, Nat.zero_add, Nat.add_zero, Nat.sub_self, Int.toNat_natCast, Int.reduceToNat, Int.reduceLT, Int.reduceLE, Int.reduceEq, Int.reduceBEq, beq_self_eq_true, Int.reduceNeg, decide_true, decide_false, IntKind.bits, Nat.min_eq_left, Int.reducePow, Nat.reducePow, Int.fdiv_eq_ediv_of_nonneg, Nat.lt_irrefl, Int.le_refl, Nat.le_refl, Int.natCast_nonneg, Nat.lt_add_one, Nat.zero_lt_succ, view, view2, view1, view0, mapO, capsD_fn, D.sc, D.sc1, D.sc2, pull, pull2, pull1, pull0, idx_hit, idx_miss, idx_nil, sucO_some, sucO_none, gate, pullσ, pullOb, Go.Vi.freeze, Go.Vi.freeze1, capt, capt.captL, reachL, reachO, isin, List.flatten_cons, List.flatten_nil, merge, mset, renOb, fr, D.ren, D.renL, List.getD_cons_zero, List.getD_cons_succ, List.nodup_cons, List.nodup_nil, List.mem_cons, or_false, false_or, resK_nil, resK_tmp, resK_cell, ResC_ptr, ResO_some, ResR_some, ResL_some, ofRes, List.reverse_nil, Option.some.injEq, D.bool.injEq, D.int.injEq, D.str.injEq, D.agg.injEq, D.tup.injEq, D.list.injEq, D.ptr.injEq, D.own.injEq, List.cons.injEq, BndE_fn]))
 refine Run_ent (Ent_cellN (l := 0) (j := 0) (i := 2) rfl rfl rfl rfl rfl rfl (fun _ => rfl)) ?_
 refine wk [] [] @exVCG1 ?_
 exact rtw [0] @exVCG1
theorem ofRow_p (s : Sp) (l : List Sp) (d : Hd) (hl : l.length ≤ 400000000000) : CallG Try.prog 47 [.ptr 0 0 0 1] [Rg (s :: l) d] (ansY s) [Rg l d] := by
 refine callG Try.func47 low47 (by simp [c47]) ?_
 simp only [c47]
 have e : rowsS (s :: l) = [.int .i64 s.1, .int .i64 s.2] :: rowsS l := rfl
 have c1 : (((l.length + 1 : Nat) : Int) == 0) = false := by simp; omega
 have t1 : (rowsS l).take l.length = rowsS l := by rw [← rowsS_len (l := l), List.take_length]
 have w1 : (∀ (r : List D), r = [D.int .i64 s.1, D.int .i64 s.2] ∨ r ∈ rowsS l → r.length = 2) = True := eq_true fun r hr => by
  rcases hr with rfl | hr
  ·rfl
  ·obtain ⟨x, rfl⟩ := rowsS_mem hr; rfl
 have w2 : ((1 : Int) ≤ ((l.length + 1 : Nat) : Int)) = True := eq_true (by omega)
 refine wk [] [] (an @exVCG1 (an e (an c1 (an t1 (an w1 w2))))) ?_
 exact rtw [0] @exVCG1
theorem nextR_p (s : Sp) (l : List Sp) (d : Hd) (hl : l.length ≤ 400000000000) : CallG Try.prog 38 [.ptr 0 0 0 1] [Rg (s :: l) d] (ansY s) [Rg l d] := by
 refine callG Try.func38 low38 (by simp [c38]) ?_
 simp only [c38]
 have hr := ofRow_p s l d hl
 refine wk [47] [] @exVCG1 ?_
 exact rtw [0] @exVCG1
theorem nextRE_p (d : Hd) : CallG Try.prog 38 [.ptr 0 0 0 1] [RgE d] ansN [RgE d] := by
 refine callG Try.func38 low38 (by simp [c38]) ?_
 simp only [c38]
 have hr := ofRowE_p d
 refine wk [47] [] @exVCG1 ?_
 exact rtw [0] @exVCG1
theorem nextRN_p (d : Hd) : CallG Try.prog 38 [.ptr 0 0 0 1] [Rg [] d] ansN [Rg [] d] := nextRE_p d
theorem pkL_cons (x : Sp) (l : List Sp) (h : Sp) (k : Int) : RS.pk ⟨x :: l, ⟨h, false, k⟩⟩ = RS.pk ⟨l, Hd.take ⟨h, false, k⟩ x⟩ := by
 show pkL (x :: l) ⟨h, false, k⟩ = if (Hd.take ⟨h, false, k⟩ x).has then _ else pkL l _
 rw [pkL]
set_option maxHeartbeats 2000000 in
theorem peekR_p (s : RS) (hl : s.l.length ≤ 400000000000) : CallG Try.prog 24 [.ptr 0 0 0 1] [Rg s.l s.d] (ansO (rowStm.ans s.pk)) [Rg s.pk.l s.pk.d] := by
 refine callG Try.func24 low24 (by simp [c24]) ?_
 simp only [c24]
 have mE := mxE
 refine wk [] [] @exVCG1 ?_
 refine Run_loop (ι := {p : RS // p.pk = s.pk ∧ p.l.length ≤ s.l.length}) (fun p => ([(0, .ptr 0 0 0 1), (2, .ptr 1 0 0 1), (3, .bool false)], [Rg p.1.l p.1.d, ⟨true, false, true, false, 2, [[.int .i64 0, .int .i64 0]], some 0⟩])) (fun p => p.1.l.length + if p.1.d.has = true then 0 else 1) ⟨s, rfl, Nat.le_refl _⟩ ?_ ?_
 ·exact gcw [0, 1] @exVCG1
 rintro ⟨⟨l, ⟨h, b, k⟩⟩, hp1, hp2⟩ hk
 dsimp only at hp1 hp2 hk ⊢
 cases b with
 | true =>
  rw [← hp1]
  have e : RS.pk ⟨l, ⟨h, true, k⟩⟩ = ⟨l, ⟨h, true, k⟩⟩ := rfl
  have e2 : rowStm.ans ⟨l, ⟨h, true, k⟩⟩ = some h := rfl
  rw [e, e2]
  simp only [ansO]
  refine wk [] [] @exVCG1 ?_
  exact rtw [0] @exVCG1
 | false =>
  cases l with
  | nil =>
   rw [← hp1]
   have hr := nextRN_p ⟨h, false, k⟩
   have e : RS.pk ⟨[], ⟨h, false, k⟩⟩ = ⟨[], ⟨h, false, k⟩⟩ := rfl
   have e2 : rowStm.ans ⟨[], ⟨h, false, k⟩⟩ = none := rfl
   rw [e, e2]
   simp only [ansO]
   refine wk [38] [] @exVCG1 ?_
   exact rtw [0] @exVCG1
  | cons x l =>
   have hr := nextR_p x l ⟨h, false, k⟩ (by simp only [List.length_cons] at hp2; omega)
   have e := pkL_cons x l h k
   by_cases hc : max x.1 k < x.2
   ·have c1 : (max x.1 k < x.2) = True := by simpa using hc
    have et : Hd.take ⟨h, false, k⟩ x = ⟨(max x.1 k, x.2), true, k⟩ := by simp [Hd.take, hc]
    rw [et] at e
    refine wk [38] [] (an @exVCG1 (an mE c1)) ?_
    refine hk ⟨⟨l, ⟨(max x.1 k, x.2), true, k⟩⟩, by rw [← hp1, e], by simp only [List.length_cons] at hp2; dsimp only; omega⟩ _ _ (by simp <;> omega) ?_
    dsimp only
    exact gcw [0, 1] @exVCG1
   ·have c1 : (max x.1 k < x.2) = False := by simpa using hc
    have et : Hd.take ⟨h, false, k⟩ x = ⟨(max x.1 k, x.2), false, k⟩ := by simp [Hd.take, hc]
    rw [et] at e
    refine wk [38] [] (an @exVCG1 (an mE c1)) ?_
    refine hk ⟨⟨l, ⟨(max x.1 k, x.2), false, k⟩⟩, by rw [← hp1, e], by simp only [List.length_cons] at hp2; dsimp only; omega⟩ _ _ (by simp <;> omega) ?_
    dsimp only
    exact gcw [0, 1] @exVCG1
theorem skipR_p (l : List Sp) (d : Hd) (m : Int) : CallG Try.prog 16 [.ptr 0 0 0 1, .int .i64 m] [Rg l d] (.tup []) [Rg l (d.skip m)] := by
 refine callG Try.func16 low16 (by simp [c16]) ?_
 obtain ⟨h, b, k⟩ := d
 simp only [c16]
 unfold Hd.skip
 have mE := mxE
 dsimp only
 by_cases hm : m ≤ k
 ·have c1 : (m ≤ k) = True := by simpa using hm
  rw [if_pos hm]
  refine wk [] [] (an @exVCG1 c1) ?_
  exact rtw [0] @exVCG1
 ·have c1 : (m ≤ k) = False := by simpa using hm
  rw [if_neg hm]
  cases b with
  | true =>
   simp only [if_true, Bool.true_and]
   refine wk [] [] (an @exVCG1 (an c1 mE)) ?_
   exact rtw [0] @exVCG1
  | false =>
   simp only [Bool.false_eq_true, if_false, Bool.false_and]
   refine wk [] [] (an @exVCG1 (an c1 mE)) ?_
   exact rtw [0] @exVCG1
end Go.Proofs.Ytggchhmgeafoaaa

namespace Go.Proofs.Ytggchhmgeafoaaa
open Go Go.Vi
abbrev Gg (b : Nat) (w1 w2 : Int) (d : Hd) : Ob := ⟨true, false, false, false, 12, [[.int .i64 3, .nilp, .list (some true) true [], .own b 0 1 1 1 none, .int .i64 w1, .int .i64 w2, .int .i64 0, .int .i64 0, .int .i64 d.h.1, .int .i64 d.h.2, .bool d.has, .int .i64 d.k]], some 0⟩
abbrev Bo (r : Nat) : Ob := ⟨true, false, false, false, 1, [[.ptr r 0 0 1]], some 0⟩
theorem skipB_R (t : RS) (m : Int) : CallG Try.prog 16 [.ptr 0 0 0 1, .int .i64 m] [Rg t.l t.d] (.tup []) [Rg (rowStm.sk m t).l (rowStm.sk m t).d] := skipR_p t.l t.d m
theorem peekB_R (t : RS) (ht : t.l.length ≤ 400000000000) : CallG Try.prog 24 [.ptr 0 0 0 1] [Rg t.l t.d] (ansO (rowStm.ans (rowStm.pk t))) [Rg (rowStm.pk t).l (rowStm.pk t).d] := peekR_p t ht
theorem keepR_s (m : Int) (t : RS) (h : t.l.length ≤ 400000000000) : (rowStm.sk m t).l.length ≤ 400000000000 := h
theorem keepR_p (t : RS) (h : t.l.length ≤ 400000000000) : (rowStm.pk t).l.length ≤ 400000000000 := Nat.le_trans (RS.pk_len t) h
theorem exVCG2 : type_of% @rowsS_len := @rowsS_len
set_option maxHeartbeats 8000000 in
theorem ofG_p (b : Int) (d : Hd) (n0 : Nat) (a0 : Int) (t0 : RS) (ho0 : rowStm.ok t0) (hl0 : (t0).l.length ≤ 400000000000) (hn0 : (cutS a0 (rowStm.rem t0)).length < n0) :
  CallG Try.prog 50 [.ptr 0 0 0 1] [Gg 1 a0 b d, Bo 2, Rg (t0).l (t0).d] (ansO (gnx rowStm n0 a0 b t0).1) [Gg 1 (gnx rowStm n0 a0 b t0).2.1 b d, Bo 2, Rg ((gnx rowStm n0 a0 b t0).2.2).l ((gnx rowStm n0 a0 b t0).2.2).d] := by
 refine callG Try.func50 low50 (by simp [c50]) ?_
 simp only [c50]
 refine wk [] [] @exVCG2 ?_
 refine Run_loop (ι := {p : Nat × Int × RS // gnx rowStm p.1 p.2.1 b p.2.2 = gnx rowStm n0 a0 b t0 ∧ rowStm.ok p.2.2 ∧ (p.2.2).l.length ≤ 400000000000 ∧ (cutS p.2.1 (rowStm.rem p.2.2)).length < p.1}) (fun p => ([(0, .ptr 0 0 0 1), (2, .ptr 3 0 0 1), (3, .bool false), (4, .ptr 2 0 0 1)], [Gg 1 p.1.2.1 b d, Bo 2, Rg (p.1.2.2).l (p.1.2.2).d, ⟨true, false, true, false, 2, [[.int .i64 0, .int .i64 0]], some 0⟩])) (fun p => p.1.1) ⟨(n0, a0, t0), rfl, ho0, hl0, hn0⟩ ?_ ?_
 ·exact gcw [0, 1, 2, 3] @exVCG2
 rintro ⟨⟨n, a, t⟩, hp1, hp2, hp3, hp4⟩ hk
 dsimp only at hp1 hp2 hp3 hp4 hk ⊢
 obtain ⟨n, rfl⟩ : ∃ m, n = m + 1 := ⟨n - 1, by omega⟩
 by_cases hab : a < b
 case neg =>
  have c1 : (a < b) = False := by simpa using hab
  have e : gnx rowStm (n + 1) a b t = (none, a, t) := by unfold gnx; rw [if_neg hab]
  rw [← hp1, e]
  simp only [ansO]
  refine wk [] [] (an @exVCG2 c1) ?_
  exact rtw [0, 1, 2] @exVCG2
 have c1 : (a < b) = True := by simpa using hab
 obtain ⟨so1, so2⟩ := rowStm.sk_ok t a hp2
 have sl1 := keepR_s a t hp3
 have hs := skipB_R t a
 have hg0 : gnx rowStm (n + 1) a b t = (match rowStm.ans (rowStm.pk (rowStm.sk a t)) with
   | none => (some (a, b), b, rowStm.pk (rowStm.sk a t))
   | some x => if b ≤ x.1 then (some (a, b), b, rowStm.pk (rowStm.sk a t)) else if a < x.1 then (some (a, x.1), x.2, rowStm.pk (rowStm.sk a t)) else gnx rowStm n x.2 b (rowStm.pk (rowStm.sk a t))) := by
  rw [gnx, if_pos hab]
  rfl
 generalize rowStm.sk a t = t1 at so1 so2 sl1 hs hg0
 have pe := peekB_R t1 sl1
 obtain ⟨po1, po2, po3⟩ := rowStm.pk_ok t1 so1
 have sl2 := keepR_p t1 sl1
 generalize rowStm.pk t1 = t2 at pe po1 po2 po3 sl2 hg0
 rw [so2] at po2 po3
 have hcn := rowStm.can t hp2
 cases hx : rowStm.ans t2 with
 | none =>
  rw [hx] at pe hg0
  simp only [ansO] at pe
  dsimp only at hg0
  rw [← hp1, hg0]
  simp only [ansO]
  refine wk [16, 24] [] (an @exVCG2 c1) ?_
  exact rtw [0, 1, 2] @exVCG2
 | some x =>
  rw [hx] at pe hg0
  simp only [ansO] at pe
  dsimp only at hg0
  by_cases hb : b ≤ x.1
  ·have c2 : (x.1 ≥ b) = True := by simpa using hb
   rw [if_pos hb] at hg0
   rw [← hp1, hg0]
   simp only [ansO]
   refine wk [16, 24] [] (an @exVCG2 (an c1 c2)) ?_
   exact rtw [0, 1, 2] @exVCG2
  ·have c2 : (x.1 ≥ b) = False := by simpa using hb
   rw [if_neg hb] at hg0
   by_cases hax : a < x.1
   ·have c3 : (a < x.1) = True := by simpa using hax
    rw [if_pos hax] at hg0
    rw [← hp1, hg0]
    simp only [ansO]
    refine wk [16, 24] [] (an @exVCG2 (an c1 (an c2 c3))) ?_
    exact rtw [0, 1, 2] @exVCG2
   ·have c3 : (a < x.1) = False := by simpa using hax
    rw [if_neg hax] at hg0
    have hlen : (cutS x.2 (rowStm.rem t2)).length < n := by
     rw [hx] at po3
     rw [po2]
     cases hl : cutS a (rowStm.rem t) with
     | nil => rw [hl] at po3; cases po3
     | cons y l' =>
      rw [hl] at po3
      obtain rfl : x = y := by simpa using po3
      have := cutS_len x.2 l'
      rw [hl, List.length_cons] at hp4
      rw [cutS_cons, if_neg (show ¬ (max x.1 x.2 < x.2) by omega)]
      omega
    refine wk [16, 24] [] (an @exVCG2 (an c1 (an c2 c3))) ?_
    refine hk ⟨(n, x.2, t2), by rw [← hp1, hg0], po1, sl2, hlen⟩ _ _ (by simp) ?_
    dsimp only
    exact gcw [0, 1, 2, 3] @exVCG2
theorem nextG_p (g : GS RS) (ho : rowStm.ok g.t) (hl : (g.t).l.length ≤ 400000000000) :
  CallG Try.prog 38 [.ptr 0 0 0 1] [Gg 1 g.a g.b g.d, Bo 2, Rg (g.t).l (g.t).d] (ansO (g.nx0 rowStm).1) [Gg 1 (g.nx0 rowStm).2.1 g.b g.d, Bo 2, Rg ((g.nx0 rowStm).2.2).l ((g.nx0 rowStm).2.2).d] := by
 refine callG Try.func38 low38 (by simp [c38]) ?_
 simp only [c38]
 have hr := ofG_p g.b g.d ((rowStm.rem g.t).length + 1) g.a g.t ho hl (by have := cutS_len g.a (rowStm.rem g.t); omega)
 obtain ⟨a, b, t, d⟩ := g
 unfold GS.nx0
 dsimp only at hr ⊢
 generalize gnx rowStm ((rowStm.rem t).length + 1) a b t = r at hr ⊢
 obtain ⟨x, a', t'⟩ := r
 dsimp only at hr ⊢
 cases x with
 | none =>
  simp only [ansO] at hr ⊢
  refine wk [50] [] @exVCG2 ?_
  exact rtw [0, 1, 2] @exVCG2
 | some y =>
  simp only [ansO] at hr ⊢
  refine wk [50] [] @exVCG2 ?_
  exact rtw [0, 1, 2] @exVCG2
theorem ansG_n {g : GS RS} (h : g.d.has = false) : (gapStm rowStm).ans g = none := by
 show (if g.d.has = true then _ else _) = _
 rw [h]; rfl
theorem ansG_y {g : GS RS} (h : g.d.has = true) : (gapStm rowStm).ans g = some g.d.h := by
 show (if g.d.has = true then _ else _) = _
 rw [h]; rfl
set_option maxHeartbeats 8000000 in
theorem peekG_p (g0 : GS RS) (ho0 : (gapStm rowStm).ok g0) (hl0 : (g0.t).l.length ≤ 400000000000) :
  CallG Try.prog 24 [.ptr 0 0 0 1] [Gg 1 g0.a g0.b g0.d, Bo 2, Rg (g0.t).l (g0.t).d] (ansO ((gapStm rowStm).ans ((gapStm rowStm).pk g0))) [Gg 1 ((gapStm rowStm).pk g0).a ((gapStm rowStm).pk g0).b ((gapStm rowStm).pk g0).d, Bo 2, Rg (((gapStm rowStm).pk g0).t).l (((gapStm rowStm).pk g0).t).d] := by
 refine callG Try.func24 low24 (by simp [c24]) ?_
 simp only [c24]
 have mE := mxE
 refine wk [] [] @exVCG2 ?_
 refine Run_loop (ι := {p : Nat × GS RS // gpk rowStm p.1 p.2 = (gapStm rowStm).pk g0 ∧ GS.ok rowStm p.2 ∧ (p.2.t).l.length ≤ 400000000000 ∧ p.2.b = g0.b ∧ (p.2.d.has = false → (p.2.l rowStm).length < p.1) ∧ 0 < p.1}) (fun p => ([(0, .ptr 0 0 0 1), (2, .ptr 3 0 0 1), (3, .bool false)], [Gg 1 p.1.2.a g0.b p.1.2.d, Bo 2, Rg (p.1.2.t).l (p.1.2.t).d, ⟨true, false, true, false, 2, [[.int .i64 0, .int .i64 0]], some 0⟩])) (fun p => p.1.1) ⟨((g0.l rowStm).length + 1, g0), rfl, ho0, hl0, rfl, fun _ => Nat.lt_succ_self _, Nat.succ_pos _⟩ ?_ ?_
 ·exact gcw [0, 1, 2, 3] @exVCG2
 rintro ⟨⟨n, a, b, t, h, has, k⟩, hp1, ⟨hp2, hp2'⟩, hp3, hpb, hp4, hp5⟩ hk
 dsimp only at hp1 hp2 hp2' hp3 hpb hp4 hp5 hk ⊢
 obtain ⟨n, rfl⟩ : ∃ m, n = m + 1 := ⟨n - 1, by omega⟩
 cases has with
 | true =>
  have e : gpk rowStm (n + 1) ⟨a, b, t, h, true, k⟩ = ⟨a, b, t, h, true, k⟩ := by unfold gpk; rfl
  rw [← hp1, e, ansG_y rfl]
  dsimp only
  rw [hpb]
  simp only [ansO]
  refine wk [] [] @exVCG2 ?_
  exact rtw [0, 1, 2] @exVCG2
 | false =>
  have hr := nextG_p ⟨a, b, t, h, false, k⟩ hp2 hp3
  obtain ⟨a1, a2, a3⟩ := nx0_ok rowStm (g := ⟨a, b, t, h, false, k⟩) hp2
  have e : gpk rowStm (n + 1) ⟨a, b, t, h, false, k⟩ = (match (GS.nx0 rowStm ⟨a, b, t, h, false, k⟩).1 with
   | none => ⟨(GS.nx0 rowStm ⟨a, b, t, h, false, k⟩).2.1, b, (GS.nx0 rowStm ⟨a, b, t, h, false, k⟩).2.2, h, false, k⟩
   | some x => gpk rowStm n ⟨(GS.nx0 rowStm ⟨a, b, t, h, false, k⟩).2.1, b, (GS.nx0 rowStm ⟨a, b, t, h, false, k⟩).2.2, Hd.take ⟨h, false, k⟩ x⟩) := by rw [gpk]; rfl
  have hl' := hp4 rfl
  have kp : ((GS.nx0 rowStm ⟨a, b, t, h, false, k⟩).2.2).l.length ≤ 400000000000 := gnx_keep rowStm (fun t => (t).l.length ≤ 400000000000) (fun m t h => keepR_s m t h) (fun t h => keepR_p t h) _ _ _ _ hp3
  generalize GS.nx0 rowStm ⟨a, b, t, h, false, k⟩ = r at hr a1 a2 a3 e kp
  obtain ⟨x, a', t'⟩ := r
  dsimp only at hr a1 a2 a3 e kp
  subst hpb
  cases x with
  | none =>
   dsimp only at e
   rw [← hp1, e, ansG_n rfl]
   simp only [ansO] at hr ⊢
   refine wk [38] [] @exVCG2 ?_
   exact rtw [0, 1, 2] @exVCG2
  | some y =>
   dsimp only at e
   simp only [ansO] at hr
   have hcan : Vi.Can (y :: gapR a' g0.b (rowStm.rem t')) := by
    have := (gapR_spec (lo := a) (hi := g0.b) (rowStm.can t hp2)).1
    have e2 : gapR a g0.b (rowStm.rem t) = y :: gapR a' g0.b (rowStm.rem t') := a2
    rw [e2] at this
    exact this
   obtain ⟨t1, _⟩ := Hd.take_ok (d := ⟨h, false, k⟩) (x := y) rfl hcan
   rw [a2] at hl'
   have hln : (gapR a' g0.b (rowStm.rem t')).length < n := by
    simp only [Option.toList_some, List.singleton_append, List.length_cons] at hl'
    omega
   by_cases hc : max y.1 k < y.2
   ·have c1 : (max y.1 k < y.2) = True := by simpa using hc
    have et : Hd.take ⟨h, false, k⟩ y = ⟨(max y.1 k, y.2), true, k⟩ := by simp [Hd.take, hc]
    rw [et] at e t1
    refine wk [38] [] (an @exVCG2 (an mE c1)) ?_
    refine hk ⟨(n, ⟨a', g0.b, t', ⟨(max y.1 k, y.2), true, k⟩⟩), by rw [← hp1, e], ⟨a1, t1⟩, kp, rfl, fun _ => hln, by omega⟩ _ _ (by simp) ?_
    dsimp only
    exact gcw [0, 1, 2, 3] @exVCG2
   ·have c1 : (max y.1 k < y.2) = False := by simpa using hc
    have et : Hd.take ⟨h, false, k⟩ y = ⟨(max y.1 k, y.2), false, k⟩ := by simp [Hd.take, hc]
    rw [et] at e t1
    refine wk [38] [] (an @exVCG2 (an mE c1)) ?_
    refine hk ⟨(n, ⟨a', g0.b, t', ⟨(max y.1 k, y.2), false, k⟩⟩), by rw [← hp1, e], ⟨a1, t1⟩, kp, rfl, fun _ => hln, by omega⟩ _ _ (by simp) ?_
    dsimp only
    exact gcw [0, 1, 2, 3] @exVCG2
theorem skipG_p (g : GS RS) (m : Int) : CallG Try.prog 16 [.ptr 0 0 0 1, .int .i64 m] [Gg 1 g.a g.b g.d, Bo 2, Rg (g.t).l (g.t).d] (.tup []) [Gg 1 ((gapStm rowStm).sk m g).a ((gapStm rowStm).sk m g).b ((gapStm rowStm).sk m g).d, Bo 2, Rg (((gapStm rowStm).sk m g).t).l (((gapStm rowStm).sk m g).t).d] := by
 show CallG Try.prog 16 [.ptr 0 0 0 1, .int .i64 m] [Gg 1 g.a g.b g.d, Bo 2, Rg (g.t).l (g.t).d] (.tup []) [Gg 1 g.a g.b (g.d.skip m), Bo 2, Rg (g.t).l (g.t).d]
 refine callG Try.func16 low16 (by simp [c16]) ?_
 obtain ⟨a, b, t, h, has, k⟩ := g
 simp only [c16]
 unfold Hd.skip
 have mE := mxE
 dsimp only
 by_cases hm : m ≤ k
 ·have c1 : (m ≤ k) = True := by simpa using hm
  rw [if_pos hm]
  refine wk [] [] (an @exVCG2 c1) ?_
  exact rtw [0, 1, 2] @exVCG2
 ·have c1 : (m ≤ k) = False := by simpa using hm
  rw [if_neg hm]
  cases has with
  | true =>
   simp only [if_true, Bool.true_and]
   refine wk [] [] (an @exVCG2 (an c1 mE)) ?_
   exact rtw [0, 1, 2] @exVCG2
  | false =>
   simp only [Bool.false_eq_true, if_false, Bool.false_and]
   refine wk [] [] (an @exVCG2 (an c1 mE)) ?_
   exact rtw [0, 1, 2] @exVCG2
theorem keepG_s (m : Int) (g : GS RS) (h : (g.t).l.length ≤ 400000000000) : (((gapStm rowStm).sk m g).t).l.length ≤ 400000000000 := h
theorem keepG_p (g : GS RS) (h : (g.t).l.length ≤ 400000000000) : (((gapStm rowStm).pk g).t).l.length ≤ 400000000000 := gpk_keep rowStm (fun t => (t).l.length ≤ 400000000000) (fun m t h => keepR_s m t h) (fun t h => keepR_p t h) _ _ h
end Go.Proofs.Ytggchhmgeafoaaa

namespace Go.Proofs.Ytggchhmgeafoaaa
open Go Go.Vi
theorem exVCG3 : type_of% @rowsS_len := @rowsS_len
set_option maxHeartbeats 8000000 in
theorem ofH_p (b : Int) (d : Hd) (n0 : Nat) (a0 : Int) (t0 : (GS RS)) (ho0 : (gapStm rowStm).ok t0) (hl0 : (t0).t.l.length ≤ 400000000000) (hn0 : (cutS a0 ((gapStm rowStm).rem t0)).length < n0) :
  CallG Try.prog 50 [.ptr 0 0 0 1] [Gg 1 a0 b d, Bo 2, Gg 3 (t0).a (t0).b (t0).d, Bo 4, Rg (t0).t.l (t0).t.d] (ansO (gnx (gapStm rowStm) n0 a0 b t0).1) [Gg 1 (gnx (gapStm rowStm) n0 a0 b t0).2.1 b d, Bo 2, Gg 3 ((gnx (gapStm rowStm) n0 a0 b t0).2.2).a ((gnx (gapStm rowStm) n0 a0 b t0).2.2).b ((gnx (gapStm rowStm) n0 a0 b t0).2.2).d, Bo 4, Rg ((gnx (gapStm rowStm) n0 a0 b t0).2.2).t.l ((gnx (gapStm rowStm) n0 a0 b t0).2.2).t.d] := by
 refine callG Try.func50 low50 (by simp [c50]) ?_
 simp only [c50]
 refine wk [] [] @exVCG3 ?_
 refine Run_loop (ι := {p : Nat × Int × (GS RS) // gnx (gapStm rowStm) p.1 p.2.1 b p.2.2 = gnx (gapStm rowStm) n0 a0 b t0 ∧ (gapStm rowStm).ok p.2.2 ∧ (p.2.2).t.l.length ≤ 400000000000 ∧ (cutS p.2.1 ((gapStm rowStm).rem p.2.2)).length < p.1}) (fun p => ([(0, .ptr 0 0 0 1), (2, .ptr 5 0 0 1), (3, .bool false), (4, .ptr 2 0 0 1)], [Gg 1 p.1.2.1 b d, Bo 2, Gg 3 (p.1.2.2).a (p.1.2.2).b (p.1.2.2).d, Bo 4, Rg (p.1.2.2).t.l (p.1.2.2).t.d, ⟨true, false, true, false, 2, [[.int .i64 0, .int .i64 0]], some 0⟩])) (fun p => p.1.1) ⟨(n0, a0, t0), rfl, ho0, hl0, hn0⟩ ?_ ?_
 ·exact gcw [0, 1, 2, 3, 4, 5] @exVCG3
 rintro ⟨⟨n, a, t⟩, hp1, hp2, hp3, hp4⟩ hk
 dsimp only at hp1 hp2 hp3 hp4 hk ⊢
 obtain ⟨n, rfl⟩ : ∃ m, n = m + 1 := ⟨n - 1, by omega⟩
 by_cases hab : a < b
 case neg =>
  have c1 : (a < b) = False := by simpa using hab
  have e : gnx (gapStm rowStm) (n + 1) a b t = (none, a, t) := by unfold gnx; rw [if_neg hab]
  rw [← hp1, e]
  simp only [ansO]
  refine wk [] [] (an @exVCG3 c1) ?_
  exact rtw [0, 1, 2, 3, 4] @exVCG3
 have c1 : (a < b) = True := by simpa using hab
 obtain ⟨so1, so2⟩ := (gapStm rowStm).sk_ok t a hp2
 have sl1 := keepG_s a t hp3
 have hs := skipG_p t a
 have hg0 : gnx (gapStm rowStm) (n + 1) a b t = (match (gapStm rowStm).ans ((gapStm rowStm).pk ((gapStm rowStm).sk a t)) with
   | none => (some (a, b), b, (gapStm rowStm).pk ((gapStm rowStm).sk a t))
   | some x => if b ≤ x.1 then (some (a, b), b, (gapStm rowStm).pk ((gapStm rowStm).sk a t)) else if a < x.1 then (some (a, x.1), x.2, (gapStm rowStm).pk ((gapStm rowStm).sk a t)) else gnx (gapStm rowStm) n x.2 b ((gapStm rowStm).pk ((gapStm rowStm).sk a t))) := by
  rw [gnx, if_pos hab]
  rfl
 generalize (gapStm rowStm).sk a t = t1 at so1 so2 sl1 hs hg0
 have pe := peekG_p t1 so1 sl1
 obtain ⟨po1, po2, po3⟩ := (gapStm rowStm).pk_ok t1 so1
 have sl2 := keepG_p t1 sl1
 generalize (gapStm rowStm).pk t1 = t2 at pe po1 po2 po3 sl2 hg0
 rw [so2] at po2 po3
 have hcn := (gapStm rowStm).can t hp2
 cases hx : (gapStm rowStm).ans t2 with
 | none =>
  rw [hx] at pe hg0
  simp only [ansO] at pe
  dsimp only at hg0
  rw [← hp1, hg0]
  simp only [ansO]
  refine wk [16, 24] [] (an @exVCG3 c1) ?_
  exact rtw [0, 1, 2, 3, 4] @exVCG3
 | some x =>
  rw [hx] at pe hg0
  simp only [ansO] at pe
  dsimp only at hg0
  by_cases hb : b ≤ x.1
  ·have c2 : (x.1 ≥ b) = True := by simpa using hb
   rw [if_pos hb] at hg0
   rw [← hp1, hg0]
   simp only [ansO]
   refine wk [16, 24] [] (an @exVCG3 (an c1 c2)) ?_
   exact rtw [0, 1, 2, 3, 4] @exVCG3
  ·have c2 : (x.1 ≥ b) = False := by simpa using hb
   rw [if_neg hb] at hg0
   by_cases hax : a < x.1
   ·have c3 : (a < x.1) = True := by simpa using hax
    rw [if_pos hax] at hg0
    rw [← hp1, hg0]
    simp only [ansO]
    refine wk [16, 24] [] (an @exVCG3 (an c1 (an c2 c3))) ?_
    exact rtw [0, 1, 2, 3, 4] @exVCG3
   ·have c3 : (a < x.1) = False := by simpa using hax
    rw [if_neg hax] at hg0
    have hlen : (cutS x.2 ((gapStm rowStm).rem t2)).length < n := by
     rw [hx] at po3
     rw [po2]
     cases hl : cutS a ((gapStm rowStm).rem t) with
     | nil => rw [hl] at po3; cases po3
     | cons y l' =>
      rw [hl] at po3
      obtain rfl : x = y := by simpa using po3
      have := cutS_len x.2 l'
      rw [hl, List.length_cons] at hp4
      rw [cutS_cons, if_neg (show ¬ (max x.1 x.2 < x.2) by omega)]
      omega
    refine wk [16, 24] [] (an @exVCG3 (an c1 (an c2 c3))) ?_
    refine hk ⟨(n, x.2, t2), by rw [← hp1, hg0], po1, sl2, hlen⟩ _ _ (by simp) ?_
    dsimp only
    exact gcw [0, 1, 2, 3, 4, 5] @exVCG3
theorem nextH_p (g : GS (GS RS)) (ho : (gapStm rowStm).ok g.t) (hl : (g.t).t.l.length ≤ 400000000000) :
  CallG Try.prog 38 [.ptr 0 0 0 1] [Gg 1 g.a g.b g.d, Bo 2, Gg 3 (g.t).a (g.t).b (g.t).d, Bo 4, Rg (g.t).t.l (g.t).t.d] (ansO (g.nx0 (gapStm rowStm)).1) [Gg 1 (g.nx0 (gapStm rowStm)).2.1 g.b g.d, Bo 2, Gg 3 ((g.nx0 (gapStm rowStm)).2.2).a ((g.nx0 (gapStm rowStm)).2.2).b ((g.nx0 (gapStm rowStm)).2.2).d, Bo 4, Rg ((g.nx0 (gapStm rowStm)).2.2).t.l ((g.nx0 (gapStm rowStm)).2.2).t.d] := by
 refine callG Try.func38 low38 (by simp [c38]) ?_
 simp only [c38]
 have hr := ofH_p g.b g.d (((gapStm rowStm).rem g.t).length + 1) g.a g.t ho hl (by have := cutS_len g.a ((gapStm rowStm).rem g.t); omega)
 obtain ⟨a, b, t, d⟩ := g
 unfold GS.nx0
 dsimp only at hr ⊢
 generalize gnx (gapStm rowStm) (((gapStm rowStm).rem t).length + 1) a b t = r at hr ⊢
 obtain ⟨x, a', t'⟩ := r
 dsimp only at hr ⊢
 cases x with
 | none =>
  simp only [ansO] at hr ⊢
  refine wk [50] [] @exVCG3 ?_
  exact rtw [0, 1, 2, 3, 4] @exVCG3
 | some y =>
  simp only [ansO] at hr ⊢
  refine wk [50] [] @exVCG3 ?_
  exact rtw [0, 1, 2, 3, 4] @exVCG3
theorem ansH_n {g : GS (GS RS)} (h : g.d.has = false) : (gapStm (gapStm rowStm)).ans g = none := by
 show (if g.d.has = true then _ else _) = _
 rw [h]; rfl
theorem ansH_y {g : GS (GS RS)} (h : g.d.has = true) : (gapStm (gapStm rowStm)).ans g = some g.d.h := by
 show (if g.d.has = true then _ else _) = _
 rw [h]; rfl
set_option maxHeartbeats 8000000 in
theorem peekH_p (g0 : GS (GS RS)) (ho0 : (gapStm (gapStm rowStm)).ok g0) (hl0 : (g0.t).t.l.length ≤ 400000000000) :
  CallG Try.prog 24 [.ptr 0 0 0 1] [Gg 1 g0.a g0.b g0.d, Bo 2, Gg 3 (g0.t).a (g0.t).b (g0.t).d, Bo 4, Rg (g0.t).t.l (g0.t).t.d] (ansO ((gapStm (gapStm rowStm)).ans ((gapStm (gapStm rowStm)).pk g0))) [Gg 1 ((gapStm (gapStm rowStm)).pk g0).a ((gapStm (gapStm rowStm)).pk g0).b ((gapStm (gapStm rowStm)).pk g0).d, Bo 2, Gg 3 (((gapStm (gapStm rowStm)).pk g0).t).a (((gapStm (gapStm rowStm)).pk g0).t).b (((gapStm (gapStm rowStm)).pk g0).t).d, Bo 4, Rg (((gapStm (gapStm rowStm)).pk g0).t).t.l (((gapStm (gapStm rowStm)).pk g0).t).t.d] := by
 refine callG Try.func24 low24 (by simp [c24]) ?_
 simp only [c24]
 have mE := mxE
 refine wk [] [] @exVCG3 ?_
 refine Run_loop (ι := {p : Nat × GS (GS RS) // gpk (gapStm rowStm) p.1 p.2 = (gapStm (gapStm rowStm)).pk g0 ∧ GS.ok (gapStm rowStm) p.2 ∧ (p.2.t).t.l.length ≤ 400000000000 ∧ p.2.b = g0.b ∧ (p.2.d.has = false → (p.2.l (gapStm rowStm)).length < p.1) ∧ 0 < p.1}) (fun p => ([(0, .ptr 0 0 0 1), (2, .ptr 5 0 0 1), (3, .bool false)], [Gg 1 p.1.2.a g0.b p.1.2.d, Bo 2, Gg 3 (p.1.2.t).a (p.1.2.t).b (p.1.2.t).d, Bo 4, Rg (p.1.2.t).t.l (p.1.2.t).t.d, ⟨true, false, true, false, 2, [[.int .i64 0, .int .i64 0]], some 0⟩])) (fun p => p.1.1) ⟨((g0.l (gapStm rowStm)).length + 1, g0), rfl, ho0, hl0, rfl, fun _ => Nat.lt_succ_self _, Nat.succ_pos _⟩ ?_ ?_
 ·exact gcw [0, 1, 2, 3, 4, 5] @exVCG3
 rintro ⟨⟨n, a, b, t, h, has, k⟩, hp1, ⟨hp2, hp2'⟩, hp3, hpb, hp4, hp5⟩ hk
 dsimp only at hp1 hp2 hp2' hp3 hpb hp4 hp5 hk ⊢
 obtain ⟨n, rfl⟩ : ∃ m, n = m + 1 := ⟨n - 1, by omega⟩
 cases has with
 | true =>
  have e : gpk (gapStm rowStm) (n + 1) ⟨a, b, t, h, true, k⟩ = ⟨a, b, t, h, true, k⟩ := by unfold gpk; rfl
  rw [← hp1, e, ansH_y rfl]
  dsimp only
  rw [hpb]
  simp only [ansO]
  refine wk [] [] @exVCG3 ?_
  exact rtw [0, 1, 2, 3, 4] @exVCG3
 | false =>
  have hr := nextH_p ⟨a, b, t, h, false, k⟩ hp2 hp3
  obtain ⟨a1, a2, a3⟩ := nx0_ok (gapStm rowStm) (g := ⟨a, b, t, h, false, k⟩) hp2
  have e : gpk (gapStm rowStm) (n + 1) ⟨a, b, t, h, false, k⟩ = (match (GS.nx0 (gapStm rowStm) ⟨a, b, t, h, false, k⟩).1 with
   | none => ⟨(GS.nx0 (gapStm rowStm) ⟨a, b, t, h, false, k⟩).2.1, b, (GS.nx0 (gapStm rowStm) ⟨a, b, t, h, false, k⟩).2.2, h, false, k⟩
   | some x => gpk (gapStm rowStm) n ⟨(GS.nx0 (gapStm rowStm) ⟨a, b, t, h, false, k⟩).2.1, b, (GS.nx0 (gapStm rowStm) ⟨a, b, t, h, false, k⟩).2.2, Hd.take ⟨h, false, k⟩ x⟩) := by rw [gpk]; rfl
  have hl' := hp4 rfl
  have kp : ((GS.nx0 (gapStm rowStm) ⟨a, b, t, h, false, k⟩).2.2).t.l.length ≤ 400000000000 := gnx_keep (gapStm rowStm) (fun t => (t).t.l.length ≤ 400000000000) (fun m t h => keepG_s m t h) (fun t h => keepG_p t h) _ _ _ _ hp3
  generalize GS.nx0 (gapStm rowStm) ⟨a, b, t, h, false, k⟩ = r at hr a1 a2 a3 e kp
  obtain ⟨x, a', t'⟩ := r
  dsimp only at hr a1 a2 a3 e kp
  subst hpb
  cases x with
  | none =>
   dsimp only at e
   rw [← hp1, e, ansH_n rfl]
   simp only [ansO] at hr ⊢
   refine wk [38] [] @exVCG3 ?_
   exact rtw [0, 1, 2, 3, 4] @exVCG3
  | some y =>
   dsimp only at e
   simp only [ansO] at hr
   have hcan : Vi.Can (y :: gapR a' g0.b ((gapStm rowStm).rem t')) := by
    have := (gapR_spec (lo := a) (hi := g0.b) ((gapStm rowStm).can t hp2)).1
    have e2 : gapR a g0.b ((gapStm rowStm).rem t) = y :: gapR a' g0.b ((gapStm rowStm).rem t') := a2
    rw [e2] at this
    exact this
   obtain ⟨t1, _⟩ := Hd.take_ok (d := ⟨h, false, k⟩) (x := y) rfl hcan
   rw [a2] at hl'
   have hln : (gapR a' g0.b ((gapStm rowStm).rem t')).length < n := by
    simp only [Option.toList_some, List.singleton_append, List.length_cons] at hl'
    omega
   by_cases hc : max y.1 k < y.2
   ·have c1 : (max y.1 k < y.2) = True := by simpa using hc
    have et : Hd.take ⟨h, false, k⟩ y = ⟨(max y.1 k, y.2), true, k⟩ := by simp [Hd.take, hc]
    rw [et] at e t1
    refine wk [38] [] (an @exVCG3 (an mE c1)) ?_
    refine hk ⟨(n, ⟨a', g0.b, t', ⟨(max y.1 k, y.2), true, k⟩⟩), by rw [← hp1, e], ⟨a1, t1⟩, kp, rfl, fun _ => hln, by omega⟩ _ _ (by simp) ?_
    dsimp only
    exact gcw [0, 1, 2, 3, 4, 5] @exVCG3
   ·have c1 : (max y.1 k < y.2) = False := by simpa using hc
    have et : Hd.take ⟨h, false, k⟩ y = ⟨(max y.1 k, y.2), false, k⟩ := by simp [Hd.take, hc]
    rw [et] at e t1
    refine wk [38] [] (an @exVCG3 (an mE c1)) ?_
    refine hk ⟨(n, ⟨a', g0.b, t', ⟨(max y.1 k, y.2), false, k⟩⟩), by rw [← hp1, e], ⟨a1, t1⟩, kp, rfl, fun _ => hln, by omega⟩ _ _ (by simp) ?_
    dsimp only
    exact gcw [0, 1, 2, 3, 4, 5] @exVCG3
theorem keepH_p (g : GS (GS RS)) (h : (g.t).t.l.length ≤ 400000000000) : (((gapStm (gapStm rowStm)).pk g).t).t.l.length ≤ 400000000000 := gpk_keep (gapStm rowStm) (fun t => (t).t.l.length ≤ 400000000000) (fun m t h => keepG_s m t h) (fun t h => keepG_p t h) _ _ h
end Go.Proofs.Ytggchhmgeafoaaa
