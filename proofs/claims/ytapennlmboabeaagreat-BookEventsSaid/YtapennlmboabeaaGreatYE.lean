import Derived.Test.YtapennlmboabeaaGreatYD
import Derived.Test.YtapennlmboabeaaGreatVi33
set_option linter.unusedVariables false
set_option linter.unusedSimpArgs false
set_option linter.unnecessarySimpa false
namespace Go.Proofs.YtapennlmboabeaaGreat
open Go Go.Vi
theorem er : type_of% (an @ab (an @ac (an @ae (an @ah (an @aj (an @ak @ai)))))) := (an @ab (an @ac (an @ae (an @ah (an @aj (an @ak @ai))))))
theorem mX (n : Int) : aA Tryz.prog 82 [.int .i64 n] (.bool (gj n)) := by
 refine bl Tryz.func82 low82 (by simp [c82]) ?_
 simp only [c82]
 exact lC [] [] (an er @gj.eq_1)
theorem sO (l : List Int) (hl : l.length ≤ 140737488351232) : aA Tryz.prog 84 [L (ar .i64 l)] (.bool (jw l)) := by
 refine bl Tryz.func84 low84 (by simp [c84]) ?_
 simp only [c84]
 refine wk [] [] er ?_
 refine av (ι := {i : Nat // i ≤ l.length ∧ (l.take i).all gj = true ∧ (l.take i).Pairwise fun a b => a < b}) (fun i => ([(0, L (ar .i64 l)), (5, .int .i64 l.length), (6, .int .i64 i.1)], [])) (fun i => l.length - i.1) ⟨0, by simp⟩ ?_ ?_
 ·exact fx [] er
 rintro ⟨i, hi, ha, hp⟩ hk
 dsimp only at hk ⊢
 by_cases hlt : i < l.length
 ·have c2 : ((i : Int) < (l.length : Int)) = True := by simp; omega
  obtain ⟨x, hx⟩ : ∃ x, l[i]? = some x := ⟨_, List.getElem?_eq_getElem hlt⟩
  have rx := eE (k := .i64) hx
  have st := mX x
  by_cases hs : gj x = true
  ·rw [hs] at st
   cases i with
   | zero =>
    refine wk [] [] (an er (an c2 rx)) ?_
    refine hk ⟨1, by omega, gx ha hx hs, by rw [List.take_add_one, hx]; simp⟩ _ _ (by dsimp only; omega) ?_
    dsimp only
    exact fx [] er
   | succ i =>
    obtain ⟨y, hy⟩ : ∃ y, l[i]? = some y := ⟨_, List.getElem?_eq_getElem (by omega)⟩
    have ry := eE (k := .i64) hy
    have c7 : (((i + 1 : Nat) : Int) > 0) = True := by rw [eq_iff_iff]; exact ⟨fun _ => trivial, fun _ => by omega⟩
    have c8 : (((i + 1 : Nat) : Int) - 1) = (i : Int) := by omega
    by_cases hyx : y < x
    ·have c9 : (y ≥ x) = False := by simp; omega
     refine wk [] [] (an er (an c2 (an c7 (an c8 (an c9 (an rx ry)))))) ?_
     refine hk ⟨i + 1 + 1, by omega, gx ha hx hs, j7 (R := fun a b : Int => a < b) (fun _ _ _ => Int.lt_trans) hp hy hx hyx⟩ _ _ (by dsimp only; omega) ?_
     dsimp only
     exact fx [] er
    ·have c9 : (y ≥ x) = True := by simp; omega
     have e : jw l = false := by
      have : jg l = false := by simpa [jg] using px hy hx hyx
      simp [jw, this]
     rw [e]
     exact dz [] [] (an er (an c2 (an c7 (an c8 (an c9 (an rx ry))))))
  ·have hs' : gj x = false := by simpa using hs
   rw [hs'] at st
   have e : jw l = false := by simp only [jw, kd hx hs', Bool.false_and]
   rw [e]
   exact dz [] [] (an er (an c2 rx))
 ·have c2 : ((i : Int) < (l.length : Int)) = False := by simp; omega
  obtain rfl : i = l.length := by omega
  rw [List.take_length] at ha hp
  have hr : jg l = true := by simpa [jg] using hp
  exact lC [] [] (an er (an c2 @jw.eq_1))
set_option maxHeartbeats 4000000 in
theorem mz (l : List Int) (most : Int) (below : Bool) (hm : 0 ≤ most) (hm' : most ≤ 1000) (hl : l.length ≤ 140737488351232) : aA Tryz.prog 118 [L (ar .i64 l), .int .i64 most, .bool below] (.bool (iT most below l)) := by
 refine bl Tryz.func118 low118 (by simp [c118]) ?_
 simp only [c118]
 refine wk [] [] er ?_
 refine av (ι := {i : Nat // i ≤ l.length ∧ (l.take i).all (pj most below) = true ∧ (l.take i).Pairwise fun a b => a < b}) (fun i => ([(0, L (ar .i64 l)), (1, .int .i64 most), (2, .bool below), (9, .int .i64 l.length), (10, .int .i64 i.1)], [])) (fun i => l.length - i.1) ⟨0, by simp⟩ ?_ ?_
 ·exact fx [] er
 rintro ⟨i, hi, ha, hp⟩ hk
 dsimp only at hk ⊢
 by_cases hlt : i < l.length
 ·have c2 : ((i : Int) < (l.length : Int)) = True := by simp; omega
  obtain ⟨x, hx⟩ : ∃ x, l[i]? = some x := ⟨_, List.getElem?_eq_getElem hlt⟩
  have rx := eE (k := .i64) hx
  by_cases hs : pj most below x = true
  ·have hs' := hs
   simp only [pj, Bool.and_eq_true, Bool.or_eq_true, decide_eq_true_eq] at hs'
   obtain ⟨⟨n1, n2, n3⟩, n4⟩ := hs'
   have d1 : (x == 0) = false := by simpa using n1
   have d2 : (x > most) = False := by simp; omega
   have d3 : (x < -most) = False := by simp; omega
   have d4 : (!below && decide (x < 0)) = false := by
    cases below with
    | true => rfl
    | false => simp at n4 ⊢; omega
   have d5 : below = false → (x < 0) = False := fun h => by subst h; simp at d4 ⊢; omega
   cases i with
   | zero =>
    cases below with
    | true =>
     refine wk [] [] (an er (an c2 (an d1 (an d2 (an d3 rx))))) ?_
     refine hk ⟨1, by omega, gx ha hx hs, by rw [List.take_add_one, hx]; simp⟩ _ _ (by dsimp only; omega) ?_
     dsimp only
     exact fx [] er
    | false =>
     have d6 := d5 rfl
     refine wk [] [] (an er (an c2 (an d1 (an d2 (an d3 (an d6 rx)))))) ?_
     refine hk ⟨1, by omega, gx ha hx hs, by rw [List.take_add_one, hx]; simp⟩ _ _ (by dsimp only; omega) ?_
     dsimp only
     exact fx [] er
   | succ i =>
    obtain ⟨y, hy⟩ : ∃ y, l[i]? = some y := ⟨_, List.getElem?_eq_getElem (by omega)⟩
    have ry := eE (k := .i64) hy
    have c7 : (((i + 1 : Nat) : Int) > 0) = True := by rw [eq_iff_iff]; exact ⟨fun _ => trivial, fun _ => by omega⟩
    have c8 : (((i + 1 : Nat) : Int) - 1) = (i : Int) := by omega
    by_cases hyx : y < x
    ·have c9 : (y ≥ x) = False := by simp; omega
     cases below with
     | true =>
      refine wk [] [] (an er (an c2 (an c7 (an c8 (an c9 (an d1 (an d2 (an d3 (an rx ry))))))))) ?_
      refine hk ⟨i + 1 + 1, by omega, gx ha hx hs, j7 (R := fun a b : Int => a < b) (fun _ _ _ => Int.lt_trans) hp hy hx hyx⟩ _ _ (by dsimp only; omega) ?_
      dsimp only
      exact fx [] er
     | false =>
      have d6 := d5 rfl
      refine wk [] [] (an er (an c2 (an c7 (an c8 (an c9 (an d1 (an d2 (an d3 (an d6 (an rx ry)))))))))) ?_
      refine hk ⟨i + 1 + 1, by omega, gx ha hx hs, j7 (R := fun a b : Int => a < b) (fun _ _ _ => Int.lt_trans) hp hy hx hyx⟩ _ _ (by dsimp only; omega) ?_
      dsimp only
      exact fx [] er
    ·have c9 : (y ≥ x) = True := by simp; omega
     have e : iT most below l = false := by
      have : jg l = false := by simpa [jg] using px hy hx hyx
      simp [iT, this]
     rw [e]
     cases below with
     | true =>
      exact dz [] [] (an er (an c2 (an c7 (an c8 (an c9 (an d1 (an d2 (an d3 (an rx ry)))))))))
     | false =>
      have d6 := d5 rfl
      exact dz [] [] (an er (an c2 (an c7 (an c8 (an c9 (an d1 (an d2 (an d3 (an d6 (an rx ry))))))))))
  ·have hs' : pj most below x = false := by simpa using hs
   have e : iT most below l = false := by simp only [iT, kd hx hs', Bool.false_and]
   rw [e]
   by_cases n2 : x > most
   ·have d2 : (x > most) = True := by simpa using n2
    exact dz [] [] (an er (an c2 (an d2 rx)))
   have d2 : (x > most) = False := by simpa using n2
   by_cases n3 : x < -most
   ·have d3 : (x < -most) = True := by simpa using n3
    exact dz [] [] (an er (an c2 (an d2 (an d3 rx))))
   have d3 : (x < -most) = False := by simpa using n3
   by_cases n1 : x = 0
   ·have d1 : (x == 0) = true := by simpa using n1
    exact dz [] [] (an er (an c2 (an d1 (an d2 (an d3 rx)))))
   have d1 : (x == 0) = false := by simpa using n1
   have h5 : below = false ∧ x < 0 := by
    have : decide (x ≠ 0 ∧ x ≤ most ∧ -most ≤ x) = true := by simp; omega
    rw [pj, this, Bool.true_and] at hs'
    simpa using hs'
   have d4 : (x < 0) = True := by simpa using h5.2
   rw [h5.1]
   exact dz [] [] (an er (an c2 (an d1 (an d2 (an d3 (an d4 rx))))))
 ·have c2 : ((i : Int) < (l.length : Int)) = False := by simp; omega
  obtain rfl : i = l.length := by omega
  rw [List.take_length] at ha hp
  have hr : jg l = true := by simpa [jg] using hp
  have e : iT most below l = true := by unfold iT; rw [ha, hr]; rfl
  rw [e]
  exact dz [] [] (an er c2)
set_option maxHeartbeats 8000000 in
theorem zo (r : Ru) (h1 : r.bm.length ≤ 140737488351232) (hl : r.bd.length ≤ 140737488351232) (hf : 1 ≤ r.freq ∧ r.freq ≤ 4) : aA Tryz.prog 119 [.agg r.cells] (.bool (js r)) := by
 refine bl Tryz.func119 low119 (by simp [c119]) ?_
 simp only [c119, Ru.cells]
 repeat' ((first | refine dV ?_ | refine cY ?_ | refine ci ?_ | refine dS ?_ | refine cW rfl ?_ | refine fP ?_ | refine dT ?_ | refine cj ?_ | refine dU mixed ?_ | refine cX mixed ?_ | with_reducible refine bp ?_ | with_reducible refine bn ?_ | with_reducible refine bo ?_ | with_reducible refine da ?_ | with_reducible refine ck ?_ | simp (disch := omega) only [kL, il, iM, iL, lD, Int.tdiv_eq_ediv_of_nonneg, Int.tmod_eq_emod_of_nonneg] | (with_reducible refine bq rfl rfl ?_ ?_; (focus ((try simp only [ab, ac, ae, ah, aj, ak, ai, reduceIte, Int.natCast_nonneg, Int.le_refl, List.length_append, List.length_map, Nat.sub_zero]) <;> ((repeat' (with_reducible refine And.intro ?_ ?_)) <;> first | exact trivial | assumption | (simp; done) | (simp only [List.length_map] at *; omega) | omega | (simp [D.cells, D.ok, D.one, D.pt, D.pt1]; done))))) | (refine ax (fun hc => ?_) (fun hc => ?_) <;> (try simp only [hc]) <;> (try simp at hc)) | (refine aN (fun hc => ?_) (fun hc => ?_) <;> (try simp only [hc]) <;> (try simp at hc)) | (with_reducible refine And.intro ?_ ?_; (focus ((repeat' (with_reducible refine And.intro ?_ ?_)) <;> first | exact trivial | assumption | (simp; done) | (simp only [List.length_map] at *; omega) | omega | (simp [D.cells, D.ok, D.one, D.pt, D.pt1]; done)))) | (with_reducible intro x hx) | omega) <;> (try simp only [ab, ac, ae, ah, aj, ak, ai, ft, eT, eQ, eP, eN, eS, eO, eI, eH, eF, eK, eM, eG, eL, eJ, eU, eV, fq, dN, dO, cL, dQ, dF, dE, fe, eY, gr, gw, dK, dP, eX, cO, fg, fh, ff, fk, gu, gt, cR, aX, aG, cf, dM, bL, bM, aW, aB, bN, eZ, cK, cS, aY, aH, aI, cQ, aF, aU, aw, aV, eW, dJ, bg, bZ, bY, bh, bf, bX, bW, aJ, bE, cy, cw, cx, cv, fc, cz, im, fu, cB, bO, dL, bF, aT, cM, aS, aE, aR, fm, cA, aM, aq, ao, am, dH, cD, cE, dI, cF, dG, bS, fv, dR, bU, bc, bT, ba, bV, be, D.names, D.namesL, aO, dg, aK, df, dh, aL, ay, cP, bK, bI, bG, bJ, bH, dD, dC, aZ, dj, di, cg, Nat.reduceBEq, cH, cG, iF, iE, dq, reduceIte, Nat.reduceEqDiff, Nat.reduceAdd, Nat.reduceSub, Nat.reduceMul, Nat.reduceLT, Nat.reduceLeDiff, reduceCtorEq, ia, em, eo, jA, dY, cT, kM, gf, kR, io, ky, gh, ip, gg, gi, iy, eu, ir, iu, iq, iv, kQ, kP, ee, dp, gb, fE, fN, splice, D.cells, D.ok, D.one, D.pt, D.pt1, D.pt0, D.norm1, D.norm, cond_true, cond_false, true_and, and_true, and_self, Bool.true_and, Bool.and_true, Bool.false_and, Bool.and_false, Bool.not_true, Bool.not_false, Bool.true_or, Bool.false_or, Bool.or_true, Bool.or_false, List.getElem?_cons_zero, List.getElem?_cons_succ, List.getElem?_nil, List.length_cons, List.length_nil, List.length_map, List.length_append, List.length_set, List.length_take, List.length_drop, List.length_replicate, List.take_succ_cons, List.take_zero, List.take_nil, List.drop_succ_cons, List.drop_zero, List.drop_nil, List.cons_append, List.nil_append, List.append_nil, List.map_cons, List.map_nil, List.all_cons, List.all_nil, List.set_cons_zero, List.set_cons_succ, List.isEmpty_cons, List.isEmpty_nil, List.forall_mem_cons, List.not_mem_nil, List.forall_mem_nil, false_imp_iff, implies_true, ne_eq, not_false_eq_true, Option.map_some, Option.map_none, Nat.zero_add, Nat.add_zero, Nat.sub_self, Int.toNat_natCast, Int.reduceToNat, Int.reduceLT, Int.reduceLE, Int.reduceEq, Int.reduceBEq, beq_self_eq_true, Int.reduceNeg, decide_true, decide_false, IntKind.bits, Nat.min_eq_left, Int.reducePow, Nat.reducePow, Int.fdiv_eq_ediv_of_nonneg, Nat.lt_irrefl, Int.le_refl, Nat.le_refl, Int.natCast_nonneg, Nat.lt_add_one, Nat.zero_lt_succ, fJ, dX, dW, du, cV, aQ, D.sc, D.sc1, D.sc2, dZ, ek, cr, dm, cm, bk, cn, aD, aC, gA, ct, c0, Go.Vi.freeze, Go.Vi.bu, bv, bv.captL, au, dk, gC, List.flatten_cons, List.flatten_nil, dv, fM, dl, fr, D.ren, D.renL, List.getD_cons_zero, List.getD_cons_succ, List.nodup_cons, List.nodup_nil, List.mem_cons, or_false, false_or, cI, cJ, cd, cC, bQ, bR, bP, eA, List.reverse_nil, Option.some.injEq, D.bool.injEq, D.int.injEq, D.str.injEq, D.agg.injEq, D.tup.injEq, D.list.injEq, D.ptr.injEq, D.own.injEq, List.cons.injEq, dB]))
 refine av (ι := {i : Nat // i ≤ r.bd.length ∧ (r.bd.take i).all (m6 (lS r)) = true ∧ (r.bd.take i).Pairwise tm}) (fun i => ([(1, .ptr 0 0 0 1), (7, .int .i64 r.bd.length), (8, .int .i64 i.1)], [⟨true, false, true, false, 9, [r.cells], some 0⟩])) (fun i => r.bd.length - i.1) ⟨0, by simp⟩ ?_ ?_
 ·simp only [Ru.cells]
  refine qW [0] (by rfl) (by simp) (by simp [ab, ac, ae, ah, aj, ak, ai, i3, pU, uL, Ob.mk.injEq, true_or, or_true, imp_self, List.reverse_nil, dj, di, cg, aO, dg, aK, df, dh, aL, ay, D.pt, D.pt1, D.pt0, D.norm1, D.norm, D.one, aq, ao, am, aM, dZ, ek, cr, dm, cm, bk, cn, aD, aC, gA, ct, c0, Go.Vi.freeze, Go.Vi.bu, bv, bv.captL, au, dk, gC, List.flatten_cons, List.flatten_nil, dv, fM, dl, fr, D.ren, D.renL, List.getD_cons_zero, List.getD_cons_succ, List.nodup_cons, List.nodup_nil, List.mem_cons, or_false, false_or, fJ, dX, dW, du, cV, aQ, D.sc, D.sc1, D.sc2]) (by simp [ab, ac, ae, ah, aj, ak, ai, dj, di, cg, aO, dg, aK, df, dh, aL, ay, D.pt, D.pt1, D.pt0, D.norm1, D.norm, D.one, aq, ao, am, aM, dZ, ek, cr, dm, cm, bk, cn, aD, aC, gA, ct, c0, Go.Vi.freeze, Go.Vi.bu, bv, bv.captL, au, dk, gC, List.flatten_cons, List.flatten_nil, dv, fM, dl, fr, D.ren, D.renL, List.getD_cons_zero, List.getD_cons_succ, List.nodup_cons, List.nodup_nil, List.mem_cons, or_false, false_or, fJ, dX, dW, du, cV, aQ, D.sc, D.sc1, D.sc2])
 rintro ⟨i, hi, ha, hp⟩ hk
 dsimp only [Ru.cells] at hk ⊢
 by_cases hlt : i < r.bd.length
 ·have c2 : ((i : Int) < (r.bd.length : Int)) = True := by simp; omega
  obtain ⟨x, hx⟩ : ∃ x, r.bd[i]? = some x := ⟨_, List.getElem?_eq_getElem hlt⟩
  have rx := ew (k := .i64) (m := .i64) hx
  by_cases n1 : 0 ≤ x.2 ∧ x.2 ≤ 6 ∧ -5 ≤ x.1 ∧ x.1 ≤ 5
  ·have e1 : (x.2 < 0) = False := by simp; omega
   have e2 : (x.2 > 6) = False := by simp; omega
   have e3 : (x.1 < -5) = False := by simp; omega
   have e4 : (x.1 > 5) = False := by simp; omega
   by_cases hs : m6 (lS r) x = true
   ·have hn : x.1 = 0 ∨ r.freq = 3 ∨ (r.freq = 4 ∧ 0 < r.bm.length) := by
     simp only [m6, lS, Bool.and_eq_true, Bool.or_eq_true, decide_eq_true_eq] at hs
     rcases hs.2 with h | h
     ·exact .inr h
     ·exact .inl h
    cases i with
    | zero =>
     repeat' ((first | refine dV ?_ | refine cY ?_ | refine ci ?_ | refine dS ?_ | refine cW rfl ?_ | refine fP ?_ | refine dT ?_ | refine cj ?_ | refine dU mixed ?_ | refine cX mixed ?_ | with_reducible refine bp ?_ | with_reducible refine bn ?_ | with_reducible refine bo ?_ | with_reducible refine da ?_ | with_reducible refine ck ?_ | simp (disch := omega) only [kL, il, iM, iL, lD, Int.tdiv_eq_ediv_of_nonneg, Int.tmod_eq_emod_of_nonneg] | (with_reducible refine bq rfl rfl ?_ ?_; (focus ((try simp only [ab, ac, ae, ah, aj, ak, ai, reduceIte, Int.natCast_nonneg, Int.le_refl, List.length_append, List.length_map, Nat.sub_zero]) <;> ((repeat' (with_reducible refine And.intro ?_ ?_)) <;> first | exact trivial | assumption | (simp; done) | (simp only [List.length_map] at *; omega) | omega | (simp [D.cells, D.ok, D.one, D.pt, D.pt1]; done))))) | (refine ax (fun hc => ?_) (fun hc => ?_) <;> (try simp only [hc]) <;> (try simp at hc)) | (refine aN (fun hc => ?_) (fun hc => ?_) <;> (try simp only [hc]) <;> (try simp at hc)) | (with_reducible refine And.intro ?_ ?_; (focus ((repeat' (with_reducible refine And.intro ?_ ?_)) <;> first | exact trivial | assumption | (simp; done) | (simp only [List.length_map] at *; omega) | omega | (simp [D.cells, D.ok, D.one, D.pt, D.pt1]; done)))) | (with_reducible intro x hx) | omega) <;> (try simp only [ab, ac, ae, ah, aj, ak, ai, c2, e1, e2, e3, e4, rx, aB, aw, ft, eT, eQ, eP, eN, eS, eO, eI, eH, eF, eK, eM, eG, eL, eJ, eU, eV, fq, dN, dO, cL, dQ, dF, dE, fe, eY, gr, gw, dK, dP, eX, cO, fg, fh, ff, fk, gu, gt, cR, aX, aG, cf, dM, bL, bM, aW, aB, bN, eZ, cK, cS, aY, aH, aI, cQ, aF, aU, aw, aV, eW, dJ, bg, bZ, bY, bh, bf, bX, bW, aJ, bE, cy, cw, cx, cv, fc, cz, im, fu, cB, bO, dL, bF, aT, cM, aS, aE, aR, fm, cA, aM, aq, ao, am, dH, cD, cE, dI, cF, dG, bS, fv, dR, bU, bc, bT, ba, bV, be, D.names, D.namesL, aO, dg, aK, df, dh, aL, ay, cP, bK, bI, bG, bJ, bH, dD, dC, aZ, dj, di, cg, Nat.reduceBEq, cH, cG, iF, iE, dq, reduceIte, Nat.reduceEqDiff, Nat.reduceAdd, Nat.reduceSub, Nat.reduceMul, Nat.reduceLT, Nat.reduceLeDiff, reduceCtorEq, ia, em, eo, jA, dY, cT, kM, gf, kR, io, ky, gh, ip, gg, gi, iy, eu, ir, iu, iq, iv, kQ, kP, ee, dp, gb, fE, fN, splice, D.cells, D.ok, D.one, D.pt, D.pt1, D.pt0, D.norm1, D.norm, cond_true, cond_false, true_and, and_true, and_self, Bool.true_and, Bool.and_true, Bool.false_and, Bool.and_false, Bool.not_true, Bool.not_false, Bool.true_or, Bool.false_or, Bool.or_true, Bool.or_false, List.getElem?_cons_zero, List.getElem?_cons_succ, List.getElem?_nil, List.length_cons, List.length_nil, List.length_map, List.length_append, List.length_set, List.length_take, List.length_drop, List.length_replicate, List.take_succ_cons, List.take_zero, List.take_nil, List.drop_succ_cons, List.drop_zero, List.drop_nil, List.cons_append, List.nil_append, List.append_nil, List.map_cons, List.map_nil, List.all_cons, List.all_nil, List.set_cons_zero, List.set_cons_succ, List.isEmpty_cons, List.isEmpty_nil, List.forall_mem_cons, List.not_mem_nil, List.forall_mem_nil, false_imp_iff, implies_true, ne_eq, not_false_eq_true, Option.map_some, Option.map_none, Nat.zero_add, Nat.add_zero, Nat.sub_self, Int.toNat_natCast, Int.reduceToNat, Int.reduceLT, Int.reduceLE, Int.reduceEq, Int.reduceBEq, beq_self_eq_true, Int.reduceNeg, decide_true, decide_false, IntKind.bits, Nat.min_eq_left, Int.reducePow, Nat.reducePow, Int.fdiv_eq_ediv_of_nonneg, Nat.lt_irrefl, Int.le_refl, Nat.le_refl, Int.natCast_nonneg, Nat.lt_add_one, Nat.zero_lt_succ, fJ, dX, dW, du, cV, aQ, D.sc, D.sc1, D.sc2, dZ, ek, cr, dm, cm, bk, cn, aD, aC, gA, ct, c0, Go.Vi.freeze, Go.Vi.bu, bv, bv.captL, au, dk, gC, List.flatten_cons, List.flatten_nil, dv, fM, dl, fr, D.ren, D.renL, List.getD_cons_zero, List.getD_cons_succ, List.nodup_cons, List.nodup_nil, List.mem_cons, or_false, false_or, cI, cJ, cd, cC, bQ, bR, bP, eA, List.reverse_nil, Option.some.injEq, D.bool.injEq, D.int.injEq, D.str.injEq, D.agg.injEq, D.tup.injEq, D.list.injEq, D.ptr.injEq, D.own.injEq, List.cons.injEq, dB]))
     all_goals first
      | (exfalso; omega)
      | (exfalso; simp only [← List.length_eq_zero_iff] at *; omega)
      | (refine hk ⟨1, by omega, gx ha hx hs, by rw [List.take_add_one, hx]; simp⟩ _ _ (by dsimp only; omega) ?_
         dsimp only [Ru.cells]
         refine qW [0] (by rfl) (by simp) (by simp [ab, ac, ae, ah, aj, ak, ai, i3, pU, uL, Ob.mk.injEq, true_or, or_true, imp_self, List.reverse_nil, dj, di, cg, aO, dg, aK, df, dh, aL, ay, D.pt, D.pt1, D.pt0, D.norm1, D.norm, D.one, aq, ao, am, aM, dZ, ek, cr, dm, cm, bk, cn, aD, aC, gA, ct, c0, Go.Vi.freeze, Go.Vi.bu, bv, bv.captL, au, dk, gC, List.flatten_cons, List.flatten_nil, dv, fM, dl, fr, D.ren, D.renL, List.getD_cons_zero, List.getD_cons_succ, List.nodup_cons, List.nodup_nil, List.mem_cons, or_false, false_or, fJ, dX, dW, du, cV, aQ, D.sc, D.sc1, D.sc2]) (by simp [ab, ac, ae, ah, aj, ak, ai, dj, di, cg, aO, dg, aK, df, dh, aL, ay, D.pt, D.pt1, D.pt0, D.norm1, D.norm, D.one, aq, ao, am, aM, dZ, ek, cr, dm, cm, bk, cn, aD, aC, gA, ct, c0, Go.Vi.freeze, Go.Vi.bu, bv, bv.captL, au, dk, gC, List.flatten_cons, List.flatten_nil, dv, fM, dl, fr, D.ren, D.renL, List.getD_cons_zero, List.getD_cons_succ, List.nodup_cons, List.nodup_nil, List.mem_cons, or_false, false_or, fJ, dX, dW, du, cV, aQ, D.sc, D.sc1, D.sc2]))
    | succ i =>
     obtain ⟨y, hy⟩ : ∃ y, r.bd[i]? = some y := ⟨_, List.getElem?_eq_getElem (by omega)⟩
     have ry := ew (k := .i64) (m := .i64) hy
     have c7 : (((i + 1 : Nat) : Int) > 0) = True := by rw [eq_iff_iff]; exact ⟨fun _ => trivial, fun _ => by omega⟩
     have c8 : (((i + 1 : Nat) : Int) - 1) = (i : Int) := by omega
     by_cases hyx : tm y x
     ·have hst := j7 qy hp hy hx hyx
      unfold tm at hyx
      repeat' ((first | refine dV ?_ | refine cY ?_ | refine ci ?_ | refine dS ?_ | refine cW rfl ?_ | refine fP ?_ | refine dT ?_ | refine cj ?_ | refine dU mixed ?_ | refine cX mixed ?_ | with_reducible refine bp ?_ | with_reducible refine bn ?_ | with_reducible refine bo ?_ | with_reducible refine da ?_ | with_reducible refine ck ?_ | simp (disch := omega) only [kL, il, iM, iL, lD, Int.tdiv_eq_ediv_of_nonneg, Int.tmod_eq_emod_of_nonneg] | (with_reducible refine bq rfl rfl ?_ ?_; (focus ((try simp only [ab, ac, ae, ah, aj, ak, ai, reduceIte, Int.natCast_nonneg, Int.le_refl, List.length_append, List.length_map, Nat.sub_zero]) <;> ((repeat' (with_reducible refine And.intro ?_ ?_)) <;> first | exact trivial | assumption | (simp; done) | (simp only [List.length_map] at *; omega) | omega | (simp [D.cells, D.ok, D.one, D.pt, D.pt1]; done))))) | (refine ax (fun hc => ?_) (fun hc => ?_) <;> (try simp only [hc]) <;> (try simp at hc)) | (refine aN (fun hc => ?_) (fun hc => ?_) <;> (try simp only [hc]) <;> (try simp at hc)) | (with_reducible refine And.intro ?_ ?_; (focus ((repeat' (with_reducible refine And.intro ?_ ?_)) <;> first | exact trivial | assumption | (simp; done) | (simp only [List.length_map] at *; omega) | omega | (simp [D.cells, D.ok, D.one, D.pt, D.pt1]; done)))) | (with_reducible intro x hx) | omega) <;> (try simp only [ab, ac, ae, ah, aj, ak, ai, c2, c7, c8, e1, e2, e3, e4, rx, ry, aB, aw, ft, eT, eQ, eP, eN, eS, eO, eI, eH, eF, eK, eM, eG, eL, eJ, eU, eV, fq, dN, dO, cL, dQ, dF, dE, fe, eY, gr, gw, dK, dP, eX, cO, fg, fh, ff, fk, gu, gt, cR, aX, aG, cf, dM, bL, bM, aW, aB, bN, eZ, cK, cS, aY, aH, aI, cQ, aF, aU, aw, aV, eW, dJ, bg, bZ, bY, bh, bf, bX, bW, aJ, bE, cy, cw, cx, cv, fc, cz, im, fu, cB, bO, dL, bF, aT, cM, aS, aE, aR, fm, cA, aM, aq, ao, am, dH, cD, cE, dI, cF, dG, bS, fv, dR, bU, bc, bT, ba, bV, be, D.names, D.namesL, aO, dg, aK, df, dh, aL, ay, cP, bK, bI, bG, bJ, bH, dD, dC, aZ, dj, di, cg, Nat.reduceBEq, cH, cG, iF, iE, dq, reduceIte, Nat.reduceEqDiff, Nat.reduceAdd, Nat.reduceSub, Nat.reduceMul, Nat.reduceLT, Nat.reduceLeDiff, reduceCtorEq, ia, em, eo, jA, dY, cT, kM, gf, kR, io, ky, gh, ip, gg, gi, iy, eu, ir, iu, iq, iv, kQ, kP, ee, dp, gb, fE, fN, splice, D.cells, D.ok, D.one, D.pt, D.pt1, D.pt0, D.norm1, D.norm, cond_true, cond_false, true_and, and_true, and_self, Bool.true_and, Bool.and_true, Bool.false_and, Bool.and_false, Bool.not_true, Bool.not_false, Bool.true_or, Bool.false_or, Bool.or_true, Bool.or_false, List.getElem?_cons_zero, List.getElem?_cons_succ, List.getElem?_nil, List.length_cons, List.length_nil, List.length_map, List.length_append, List.length_set, List.length_take, List.length_drop, List.length_replicate, List.take_succ_cons, List.take_zero, List.take_nil, List.drop_succ_cons, List.drop_zero, List.drop_nil, List.cons_append, List.nil_append, List.append_nil, List.map_cons, List.map_nil, List.all_cons, List.all_nil, List.set_cons_zero, List.set_cons_succ, List.isEmpty_cons, List.isEmpty_nil, List.forall_mem_cons, List.not_mem_nil, List.forall_mem_nil, false_imp_iff, implies_true, ne_eq, not_false_eq_true, Option.map_some, Option.map_none, Nat.zero_add, Nat.add_zero, Nat.sub_self, Int.toNat_natCast, Int.reduceToNat, Int.reduceLT, Int.reduceLE, Int.reduceEq, Int.reduceBEq, beq_self_eq_true, Int.reduceNeg, decide_true, decide_false, IntKind.bits, Nat.min_eq_left, Int.reducePow, Nat.reducePow, Int.fdiv_eq_ediv_of_nonneg, Nat.lt_irrefl, Int.le_refl, Nat.le_refl, Int.natCast_nonneg, Nat.lt_add_one, Nat.zero_lt_succ, fJ, dX, dW, du, cV, aQ, D.sc, D.sc1, D.sc2, dZ, ek, cr, dm, cm, bk, cn, aD, aC, gA, ct, c0, Go.Vi.freeze, Go.Vi.bu, bv, bv.captL, au, dk, gC, List.flatten_cons, List.flatten_nil, dv, fM, dl, fr, D.ren, D.renL, List.getD_cons_zero, List.getD_cons_succ, List.nodup_cons, List.nodup_nil, List.mem_cons, or_false, false_or, cI, cJ, cd, cC, bQ, bR, bP, eA, List.reverse_nil, Option.some.injEq, D.bool.injEq, D.int.injEq, D.str.injEq, D.agg.injEq, D.tup.injEq, D.list.injEq, D.ptr.injEq, D.own.injEq, List.cons.injEq, dB]))
      all_goals first
       | (exfalso; omega)
       | (exfalso; simp only [← List.length_eq_zero_iff] at *; omega)
       | (refine hk ⟨i + 1 + 1, by omega, gx ha hx hs, hst⟩ _ _ (by dsimp only; omega) ?_
          dsimp only [Ru.cells]
          refine qW [0] (by rfl) (by simp) (by simp [ab, ac, ae, ah, aj, ak, ai, i3, pU, uL, Ob.mk.injEq, true_or, or_true, imp_self, List.reverse_nil, dj, di, cg, aO, dg, aK, df, dh, aL, ay, D.pt, D.pt1, D.pt0, D.norm1, D.norm, D.one, aq, ao, am, aM, dZ, ek, cr, dm, cm, bk, cn, aD, aC, gA, ct, c0, Go.Vi.freeze, Go.Vi.bu, bv, bv.captL, au, dk, gC, List.flatten_cons, List.flatten_nil, dv, fM, dl, fr, D.ren, D.renL, List.getD_cons_zero, List.getD_cons_succ, List.nodup_cons, List.nodup_nil, List.mem_cons, or_false, false_or, fJ, dX, dW, du, cV, aQ, D.sc, D.sc1, D.sc2]) (by simp [ab, ac, ae, ah, aj, ak, ai, dj, di, cg, aO, dg, aK, df, dh, aL, ay, D.pt, D.pt1, D.pt0, D.norm1, D.norm, D.one, aq, ao, am, aM, dZ, ek, cr, dm, cm, bk, cn, aD, aC, gA, ct, c0, Go.Vi.freeze, Go.Vi.bu, bv, bv.captL, au, dk, gC, List.flatten_cons, List.flatten_nil, dv, fM, dl, fr, D.ren, D.renL, List.getD_cons_zero, List.getD_cons_succ, List.nodup_cons, List.nodup_nil, List.mem_cons, or_false, false_or, fJ, dX, dW, du, cV, aQ, D.sc, D.sc1, D.sc2]))
     ·have e : js r = false := by
       have : pY r.bd = false := by simpa [pY] using px hy hx hyx
       simp [js, this]
      rw [e]
      unfold tm at hyx
      repeat' ((first | refine dV ?_ | refine cY ?_ | refine ci ?_ | refine dS ?_ | refine cW rfl ?_ | refine fP ?_ | refine dT ?_ | refine cj ?_ | refine dU mixed ?_ | refine cX mixed ?_ | with_reducible refine bp ?_ | with_reducible refine bn ?_ | with_reducible refine bo ?_ | with_reducible refine da ?_ | with_reducible refine ck ?_ | simp (disch := omega) only [kL, il, iM, iL, lD, Int.tdiv_eq_ediv_of_nonneg, Int.tmod_eq_emod_of_nonneg] | (with_reducible refine bq rfl rfl ?_ ?_; (focus ((try simp only [ab, ac, ae, ah, aj, ak, ai, reduceIte, Int.natCast_nonneg, Int.le_refl, List.length_append, List.length_map, Nat.sub_zero]) <;> ((repeat' (with_reducible refine And.intro ?_ ?_)) <;> first | exact trivial | assumption | (simp; done) | (simp only [List.length_map] at *; omega) | omega | (simp [D.cells, D.ok, D.one, D.pt, D.pt1]; done))))) | (refine ax (fun hc => ?_) (fun hc => ?_) <;> (try simp only [hc]) <;> (try simp at hc)) | (refine aN (fun hc => ?_) (fun hc => ?_) <;> (try simp only [hc]) <;> (try simp at hc)) | (with_reducible refine And.intro ?_ ?_; (focus ((repeat' (with_reducible refine And.intro ?_ ?_)) <;> first | exact trivial | assumption | (simp; done) | (simp only [List.length_map] at *; omega) | omega | (simp [D.cells, D.ok, D.one, D.pt, D.pt1]; done)))) | (with_reducible intro x hx) | omega) <;> (try simp only [ab, ac, ae, ah, aj, ak, ai, c2, c7, c8, e1, e2, e3, e4, rx, ry, aB, aw, ft, eT, eQ, eP, eN, eS, eO, eI, eH, eF, eK, eM, eG, eL, eJ, eU, eV, fq, dN, dO, cL, dQ, dF, dE, fe, eY, gr, gw, dK, dP, eX, cO, fg, fh, ff, fk, gu, gt, cR, aX, aG, cf, dM, bL, bM, aW, aB, bN, eZ, cK, cS, aY, aH, aI, cQ, aF, aU, aw, aV, eW, dJ, bg, bZ, bY, bh, bf, bX, bW, aJ, bE, cy, cw, cx, cv, fc, cz, im, fu, cB, bO, dL, bF, aT, cM, aS, aE, aR, fm, cA, aM, aq, ao, am, dH, cD, cE, dI, cF, dG, bS, fv, dR, bU, bc, bT, ba, bV, be, D.names, D.namesL, aO, dg, aK, df, dh, aL, ay, cP, bK, bI, bG, bJ, bH, dD, dC, aZ, dj, di, cg, Nat.reduceBEq, cH, cG, iF, iE, dq, reduceIte, Nat.reduceEqDiff, Nat.reduceAdd, Nat.reduceSub, Nat.reduceMul, Nat.reduceLT, Nat.reduceLeDiff, reduceCtorEq, ia, em, eo, jA, dY, cT, kM, gf, kR, io, ky, gh, ip, gg, gi, iy, eu, ir, iu, iq, iv, kQ, kP, ee, dp, gb, fE, fN, splice, D.cells, D.ok, D.one, D.pt, D.pt1, D.pt0, D.norm1, D.norm, cond_true, cond_false, true_and, and_true, and_self, Bool.true_and, Bool.and_true, Bool.false_and, Bool.and_false, Bool.not_true, Bool.not_false, Bool.true_or, Bool.false_or, Bool.or_true, Bool.or_false, List.getElem?_cons_zero, List.getElem?_cons_succ, List.getElem?_nil, List.length_cons, List.length_nil, List.length_map, List.length_append, List.length_set, List.length_take, List.length_drop, List.length_replicate, List.take_succ_cons, List.take_zero, List.take_nil, List.drop_succ_cons, List.drop_zero, List.drop_nil, List.cons_append, List.nil_append, List.append_nil, List.map_cons, List.map_nil, List.all_cons, List.all_nil, List.set_cons_zero, List.set_cons_succ, List.isEmpty_cons, List.isEmpty_nil, List.forall_mem_cons, List.not_mem_nil, List.forall_mem_nil, false_imp_iff, implies_true, ne_eq, not_false_eq_true, Option.map_some, Option.map_none, Nat.zero_add, Nat.add_zero, Nat.sub_self, Int.toNat_natCast, Int.reduceToNat, Int.reduceLT, Int.reduceLE, Int.reduceEq, Int.reduceBEq, beq_self_eq_true, Int.reduceNeg, decide_true, decide_false, IntKind.bits, Nat.min_eq_left, Int.reducePow, Nat.reducePow, Int.fdiv_eq_ediv_of_nonneg, Nat.lt_irrefl, Int.le_refl, Nat.le_refl, Int.natCast_nonneg, Nat.lt_add_one, Nat.zero_lt_succ, fJ, dX, dW, du, cV, aQ, D.sc, D.sc1, D.sc2, dZ, ek, cr, dm, cm, bk, cn, aD, aC, gA, ct, c0, Go.Vi.freeze, Go.Vi.bu, bv, bv.captL, au, dk, gC, List.flatten_cons, List.flatten_nil, dv, fM, dl, fr, D.ren, D.renL, List.getD_cons_zero, List.getD_cons_succ, List.nodup_cons, List.nodup_nil, List.mem_cons, or_false, false_or, cI, cJ, cd, cC, bQ, bR, bP, eA, List.reverse_nil, Option.some.injEq, D.bool.injEq, D.int.injEq, D.str.injEq, D.agg.injEq, D.tup.injEq, D.list.injEq, D.ptr.injEq, D.own.injEq, List.cons.injEq, dB]))
      all_goals first
       | (exfalso; omega)
       | (exfalso; simp only [← List.length_eq_zero_iff] at *; omega)
       | rfl
   ·have hs' : m6 (lS r) x = false := by simpa using hs
    have e : js r = false := by simp only [js, kd hx hs', Bool.false_and]
    rw [e]
    have h5 : lS r = false ∧ ¬ x.1 = 0 := by
     have : decide (0 ≤ x.2 ∧ x.2 ≤ 6 ∧ -5 ≤ x.1 ∧ x.1 ≤ 5) = true := by simpa using n1
     rw [m6, this, Bool.true_and] at hs'
     simpa using hs'
    have e5 : (x.1 == 0) = false := by simpa using h5.2
    have h6 : ¬ r.freq = 3 ∧ ¬ (r.freq = 4 ∧ 0 < r.bm.length) := by
     have := h5.1
     simp only [lS, decide_eq_false_iff_not, not_or] at this
     exact this
    by_cases h3 : r.freq < 3
    ·have k2 : (r.freq < 3) = True := by simpa using h3
     exact dz [] [] (an er (an c2 (an e1 (an e2 (an e3 (an e4 (an e5 (an k2 rx))))))))
    ·have k2 : (r.freq < 3) = False := by simpa using h3
     have k3 : (r.freq == 4) = true := by simp; omega
     have k5 : ((r.bm.length : Int) == 0) = true := by
      have := h6.2
      have h4 : r.freq = 4 := by omega
      have : r.bm.length = 0 := by
       have := fun hh => h6.2 ⟨h4, hh⟩
       omega
      simp [List.length_eq_zero_iff.1 this]
     exact dz [] [] (an er (an c2 (an e1 (an e2 (an e3 (an e4 (an e5 (an k2 (an k3 (an k5 rx))))))))))
  ·have hs' : m6 (lS r) x = false := by
    simp only [m6, decide_eq_false n1, Bool.false_and]
   have e : js r = false := by simp only [js, kd hx hs', Bool.false_and]
   rw [e]
   by_cases m1 : x.2 < 0
   ·have e1 : (x.2 < 0) = True := by simpa using m1
    exact dz [] [] (an er (an c2 (an e1 rx)))
   have e1 : (x.2 < 0) = False := by simpa using m1
   by_cases m2 : x.2 > 6
   ·have e2 : (x.2 > 6) = True := by simpa using m2
    exact dz [] [] (an er (an c2 (an e1 (an e2 rx))))
   have e2 : (x.2 > 6) = False := by simpa using m2
   by_cases m3 : x.1 < -5
   ·have e3 : (x.1 < -5) = True := by simpa using m3
    exact dz [] [] (an er (an c2 (an e1 (an e2 (an e3 rx)))))
   have e3 : (x.1 < -5) = False := by simpa using m3
   have e4 : (x.1 > 5) = True := by simp; omega
   exact dz [] [] (an er (an c2 (an e1 (an e2 (an e3 (an e4 rx))))))
 ·have c2 : ((i : Int) < (r.bd.length : Int)) = False := by simp; omega
  obtain rfl : i = r.bd.length := by omega
  rw [List.take_length] at ha hp
  have e : js r = true := by
   unfold js pY; rw [ha, decide_eq_true hp]; rfl
  rw [e]
  exact dz [] [] (an er c2)
set_option maxHeartbeats 8000000 in
theorem uo (r : Ru) (hf : r.fits) : aA Tryz.prog 83 [.agg r.cells] (.bool (ph r)) := by
 obtain ⟨f1, f2, f3, f4⟩ := hf
 refine bl Tryz.func83 low83 (by simp [c83]) ?_
 by_cases hr : 1 ≤ r.freq ∧ r.freq ≤ 4
 ·have h2 := mz r.bm 12 false (by omega) (by omega) f1
  have h3 := mz r.bmd 31 true (by omega) (by omega) f2
  have h4 := zo r f1 f3 hr
  have h5 := mz r.bsp 366 true (by omega) (by omega) f4
  unfold ph sr
  generalize iT 12 false r.bm = x2 at h2 ⊢
  generalize iT 31 true r.bmd = x3 at h3 ⊢
  generalize js r = x4 at h4 ⊢
  generalize iT 366 true r.bsp = x5 at h5 ⊢
  simp only [c83, Ru.cells] at h4 ⊢
  obtain ⟨hr1, hr2⟩ := hr
  have g1 : (r.freq < 1) = False := by simp; omega
  have g2 : (r.freq > 4) = False := by simp; omega
  by_cases hi : r.interval < 1
  ·have g3 : (r.interval < 1) = True := by simpa using hi
   have e : decide (1 ≤ r.freq ∧ r.freq ≤ 4 ∧ 1 ≤ r.interval ∧ r.interval ≤ 999) = false := by simp; omega
   rw [e, Bool.false_and]
   exact dz [] [] (an er (an g1 (an g2 g3)))
  have g3 : (r.interval < 1) = False := by simpa using hi
  by_cases hi2 : r.interval > 999
  ·have g4 : (r.interval > 999) = True := by simpa using hi2
   have e : decide (1 ≤ r.freq ∧ r.freq ≤ 4 ∧ 1 ≤ r.interval ∧ r.interval ≤ 999) = false := by simp; omega
   rw [e, Bool.false_and]
   exact dz [] [] (an er (an g1 (an g2 (an g3 g4))))
  have g4 : (r.interval > 999) = False := by simpa using hi2
  have e0 : decide (1 ≤ r.freq ∧ r.freq ≤ 4 ∧ 1 ≤ r.interval ∧ r.interval ≤ 999) = true := by simp; omega
  rw [e0, Bool.true_and]
  repeat' ((first | refine dV ?_ | refine cY ?_ | refine ci ?_ | refine dS ?_ | refine cW rfl ?_ | refine fP ?_ | refine dT ?_ | refine cj ?_ | refine dU mixed ?_ | refine cX mixed ?_ | with_reducible refine bp ?_ | with_reducible refine bn ?_ | with_reducible refine bo ?_ | with_reducible refine da ?_ | with_reducible refine ck ?_ | refine az (h2) ?_ ?_ | refine az (h3) ?_ ?_ | refine az (h4) ?_ ?_ | refine az (h5) ?_ ?_ | simp (disch := omega) only [kL, il, iM, iL, lD, Int.tdiv_eq_ediv_of_nonneg, Int.tmod_eq_emod_of_nonneg] | (with_reducible refine bq rfl rfl ?_ ?_; (focus ((try simp only [ab, ac, ae, ah, aj, ak, ai, reduceIte, Int.natCast_nonneg, Int.le_refl, List.length_append, List.length_map, Nat.sub_zero]) <;> ((repeat' (with_reducible refine And.intro ?_ ?_)) <;> first | exact trivial | assumption | (simp; done) | (simp only [List.length_map] at *; omega) | omega | (simp [D.cells, D.ok, D.one, D.pt, D.pt1]; done))))) | (refine ax (fun hc => ?_) (fun hc => ?_) <;> (try simp only [hc]) <;> (try simp at hc)) | (refine aN (fun hc => ?_) (fun hc => ?_) <;> (try simp only [hc]) <;> (try simp at hc)) | (with_reducible refine And.intro ?_ ?_; (focus ((repeat' (with_reducible refine And.intro ?_ ?_)) <;> first | exact trivial | assumption | (simp; done) | (simp only [List.length_map] at *; omega) | omega | (simp [D.cells, D.ok, D.one, D.pt, D.pt1]; done)))) | (with_reducible intro x hx) | omega) <;> (try simp only [ab, ac, ae, ah, aj, ak, ai, g1, g2, g3, g4, ft, eT, eQ, eP, eN, eS, eO, eI, eH, eF, eK, eM, eG, eL, eJ, eU, eV, fq, dN, dO, cL, dQ, dF, dE, fe, eY, gr, gw, dK, dP, eX, cO, fg, fh, ff, fk, gu, gt, cR, aX, aG, cf, dM, bL, bM, aW, aB, bN, eZ, cK, cS, aY, aH, aI, cQ, aF, aU, aw, aV, eW, dJ, bg, bZ, bY, bh, bf, bX, bW, aJ, bE, cy, cw, cx, cv, fc, cz, im, fu, cB, bO, dL, bF, aT, cM, aS, aE, aR, fm, cA, aM, aq, ao, am, dH, cD, cE, dI, cF, dG, bS, fv, dR, bU, bc, bT, ba, bV, be, D.names, D.namesL, aO, dg, aK, df, dh, aL, ay, cP, bK, bI, bG, bJ, bH, dD, dC, aZ, dj, di, cg, Nat.reduceBEq, cH, cG, iF, iE, dq, reduceIte, Nat.reduceEqDiff, Nat.reduceAdd, Nat.reduceSub, Nat.reduceMul, Nat.reduceLT, Nat.reduceLeDiff, reduceCtorEq, ia, em, eo, jA, dY, cT, kM, gf, kR, io, ky, gh, ip, gg, gi, iy, eu, ir, iu, iq, iv, kQ, kP, ee, dp, gb, fE, fN, splice, D.cells, D.ok, D.one, D.pt, D.pt1, D.pt0, D.norm1, D.norm, cond_true, cond_false, true_and, and_true, and_self, Bool.true_and, Bool.and_true, Bool.false_and, Bool.and_false, Bool.not_true, Bool.not_false, Bool.true_or, Bool.false_or, Bool.or_true, Bool.or_false, List.getElem?_cons_zero, List.getElem?_cons_succ, List.getElem?_nil, List.length_cons, List.length_nil, List.length_map, List.length_append, List.length_set, List.length_take, List.length_drop, List.length_replicate, List.take_succ_cons, List.take_zero, List.take_nil, List.drop_succ_cons, List.drop_zero, List.drop_nil, List.cons_append, List.nil_append, List.append_nil, List.map_cons, List.map_nil, List.all_cons, List.all_nil, List.set_cons_zero, List.set_cons_succ, List.isEmpty_cons, List.isEmpty_nil, List.forall_mem_cons, List.not_mem_nil, List.forall_mem_nil, false_imp_iff, implies_true, ne_eq, not_false_eq_true, Option.map_some, Option.map_none, Nat.zero_add, Nat.add_zero, Nat.sub_self, Int.toNat_natCast, Int.reduceToNat, Int.reduceLT, Int.reduceLE, Int.reduceEq, Int.reduceBEq, beq_self_eq_true, Int.reduceNeg, decide_true, decide_false, IntKind.bits, Nat.min_eq_left, Int.reducePow, Nat.reducePow, Int.fdiv_eq_ediv_of_nonneg, Nat.lt_irrefl, Int.le_refl, Nat.le_refl, Int.natCast_nonneg, Nat.lt_add_one, Nat.zero_lt_succ, fJ, dX, dW, du, cV, aQ, D.sc, D.sc1, D.sc2, dZ, ek, cr, dm, cm, bk, cn, aD, aC, gA, ct, c0, Go.Vi.freeze, Go.Vi.bu, bv, bv.captL, au, dk, gC, List.flatten_cons, List.flatten_nil, dv, fM, dl, fr, D.ren, D.renL, List.getD_cons_zero, List.getD_cons_succ, List.nodup_cons, List.nodup_nil, List.mem_cons, or_false, false_or, cI, cJ, cd, cC, bQ, bR, bP, eA, List.reverse_nil, Option.some.injEq, D.bool.injEq, D.int.injEq, D.str.injEq, D.agg.injEq, D.tup.injEq, D.list.injEq, D.ptr.injEq, D.own.injEq, List.cons.injEq, dB]))
  all_goals (rw [Bool.eq_iff_iff]; simp [*]; first | done | omega | (simp_all; done) | (simp_all; omega) | (intros; exfalso; simp_all; done) | (intros; left; simp_all; omega))
 ·have e : ph r = false := by
   have : decide (1 ≤ r.freq ∧ r.freq ≤ 4 ∧ 1 ≤ r.interval ∧ r.interval ≤ 999) = false := by simp; omega
   unfold ph
   rw [this, Bool.false_and]
  rw [e]
  simp only [c83, Ru.cells]
  by_cases h1 : r.freq < 1
  ·have g1 : (r.freq < 1) = True := by simpa using h1
   exact dz [] [] (an er g1)
  ·have g1 : (r.freq < 1) = False := by simpa using h1
   have g2 : (r.freq > 4) = True := by simp; omega
   exact dz [] [] (an er (an g1 g2))
end Go.Proofs.YtapennlmboabeaaGreat

namespace Go.Proofs.YtapennlmboabeaaGreat
open Go Go.Vi
theorem fA : type_of% (an @ab (an @ac (an @ae (an @ah (an @aj (an @ak @ai)))))) := (an @ab (an @ac (an @ae (an @ah (an @aj (an @ak @ai))))))
set_option maxHeartbeats 4000000 in
theorem xW (e : Ev) (hf : e.fits) : aA Tryz.prog 49 [.agg e.cells] (.bool (jU e)) := by
 obtain ⟨f0, f1, f2, f3⟩ := hf
 refine bl Tryz.func49 low49 (by simp [c49]) ?_
 have h1 := mX e.start
 have h2 := uo e.rule f0
 have h3 := sO e.ex f1
 have h4 := sO e.plus f2
 have h6 := sU e.rule yw f0 (by simp [Ru.fits, yw])
 by_cases hs : gj e.start = true
 case neg =>
  have hs' : gj e.start = false := by simpa using hs
  have e0 : jU e = false := by simp [jU, hs']
  rw [e0]
  rw [hs'] at h1
  simp only [c49, Ev.cells]
  exact dz [] [] fA
 rw [hs] at h1
 by_cases hl1 : e.long < 1
 ·have c1 : (e.long < 1) = True := by simpa using hl1
  have e0 : jU e = false := by
   have : decide (1 ≤ e.long ∧ e.long ≤ 10080) = false := by simp; omega
   simp only [jU, this, Bool.false_and, Bool.and_false]
  rw [e0]
  simp only [c49, Ev.cells]
  exact dz [] [] (an fA c1)
 have c1 : (e.long < 1) = False := by simpa using hl1
 by_cases hl2 : e.long > 10080
 ·have c2 : (e.long > 10080) = True := by simpa using hl2
  have e0 : jU e = false := by
   have : decide (1 ≤ e.long ∧ e.long ≤ 10080) = false := by simp; omega
   simp only [jU, this, Bool.false_and, Bool.and_false]
  rw [e0]
  simp only [c49, Ev.cells]
  exact dz [] [] (an fA (an c1 c2))
 have c2 : (e.long > 10080) = False := by simpa using hl2
 have hd : decide (1 ≤ e.long ∧ e.long ≤ 10080) = true := by simp; omega
 by_cases ha : e.again = true
 case neg =>
  have ha' : e.again = false := by simpa using ha
  have e0 : jU e = (decide (e.rule = yw) && decide (e.ex.length + e.plus.length + e.ch.length = 0)) := by simp [jU, hs, hd, ha']
  rw [e0]
  generalize decide (e.rule = yw) = x6 at h6 ⊢
  simp only [c49, Ev.cells, Ru.cells, yw, ar, bz, List.map_nil] at h6 ⊢
  rw [ha']
  exact lC [] [] (an fA (an c1 c2))
 have e0 : jU e = (!e.world && (ph e.rule && (jw e.ex && (jw e.plus && wC e.ch)))) := by simp [jU, hs, hd, ha]
 rw [e0]
 by_cases hw : e.world = true
 ·simp only [c49, Ev.cells]
  rw [hw, ha]
  exact dz [] [] (an fA (an c1 c2))
 have hw' : e.world = false := by simpa using hw
 by_cases hr : ph e.rule = true
 case neg =>
  have hr' : ph e.rule = false := by simpa using hr
  rw [hr'] at h2 ⊢
  simp only [c49, Ev.cells, Ru.cells, Bool.false_and, Bool.and_false] at h2 ⊢
  rw [hw', ha]
  exact dz [] [] (an fA (an c1 c2))
 rw [hr] at h2 ⊢
 by_cases hx : jw e.ex = true
 case neg =>
  have hx' : jw e.ex = false := by simpa using hx
  rw [hx'] at h3 ⊢
  simp only [c49, Ev.cells, Ru.cells, Bool.false_and, Bool.and_false] at h2 ⊢
  rw [hw', ha]
  exact dz [] [] (an fA (an c1 c2))
 rw [hx] at h3 ⊢
 by_cases hp : jw e.plus = true
 case neg =>
  have hp' : jw e.plus = false := by simpa using hp
  rw [hp'] at h4 ⊢
  simp only [c49, Ev.cells, Ru.cells, Bool.false_and, Bool.and_false] at h2 ⊢
  rw [hw', ha]
  exact dz [] [] (an fA (an c1 c2))
 rw [hp] at h4 ⊢
 rw [hw']
 simp only [Bool.not_false, Bool.true_and]
 by_cases hc : 50 < e.ch.length
 ·have c3 : ((e.ch.length : Int) > 50) = True := by simp; omega
  have e1 : wC e.ch = false := by
   have : ¬ (e.ch.map fun c => c.1).length ≤ 50 := by simp; omega
   simp only [wC, jw, decide_eq_false this, Bool.and_false]
  rw [e1]
  simp only [c49, Ev.cells, Ru.cells] at h2 ⊢
  rw [hw', ha]
  exact dz [] [] (an fA (an c1 (an c2 c3)))
 have c3 : ((e.ch.length : Int) > 50) = False := by simp; omega
 have hcl : decide ((e.ch.map fun c => c.1).length ≤ 50) = true := by simp; omega
 have e1 : wC e.ch = (e.ch.all lP && ((e.ch.map fun c => c.1).all gj && jg (e.ch.map fun c => c.1))) := by simp only [wC, jw, hcl, Bool.and_true]
 rw [e1]
 obtain ⟨l, hl⟩ : ∃ l, l = e.ch := ⟨_, rfl⟩
 simp only [c49, Ev.cells, Ru.cells] at h2 ⊢
 rw [hw', ha]
 refine wk [] [] (an fA (an c1 (an c2 c3))) ?_
 refine av (ι := {i : Nat // i ≤ e.ch.length ∧ (e.ch.take i).all lP = true ∧ ((e.ch.take i).map fun c => c.1).all gj = true ∧ ((e.ch.take i).map fun c => c.1).Pairwise fun a b => a < b}) (fun i => ([(1, .ptr 0 0 0 1), (72, .int .i64 e.ch.length), (73, .int .i64 i.1)], [⟨true, false, true, false, 16, [[.int .i64 e.start, .int .i64 e.long, .bool false, .bool true, .int .i64 e.rule.freq, .int .i64 e.rule.interval, .int .i64 e.rule.count, .int .i64 e.rule.til, L (ar .i64 e.rule.bm), L (ar .i64 e.rule.bmd), L (bz .i64 .i64 e.rule.bd), L (ar .i64 e.rule.bsp), .int .i64 e.rule.start, L (ar .i64 e.ex), L (ar .i64 e.plus), L (ed e.ch)]], some 0⟩])) (fun i => e.ch.length - i.1) ⟨0, by simp⟩ ?_ ?_
 ·exact fx [0] fA
 rintro ⟨i, hi, ha1, ha2, ha3⟩ hk
 dsimp only at hk ⊢
 by_cases hlt : i < e.ch.length
 ·have c4 : ((i : Int) < (e.ch.length : Int)) = True := by simp; omega
  obtain ⟨x, hx⟩ : ∃ x, e.ch[i]? = some x := ⟨_, List.getElem?_eq_getElem hlt⟩
  have rx := iK hx
  have sa := mX x.1
  have ss := mX x.2.1
  have htk : (e.ch.take (i + 1)).map (fun c => c.1) = (e.ch.take i).map (fun c => c.1) ++ [x.1] := by rw [List.take_add_one, hx]; simp
  have hmx : (e.ch.map fun c => c.1)[i]? = some x.1 := by simp [hx]
  by_cases q1 : gj x.1 = true
  case neg =>
   have q1' : gj x.1 = false := by simpa using q1
   have en : (e.ch.all lP && ((e.ch.map fun c => c.1).all gj && jg (e.ch.map fun c => c.1))) = false := by rw [kd hmx q1', Bool.false_and, Bool.and_false]
   rw [en]
   rw [q1'] at sa
   exact dz [] [] (an fA (an c4 rx))
  rw [q1] at sa
  by_cases q2 : lP x = true
  case neg =>
   have q2' : lP x = false := by simpa using q2
   have en : (e.ch.all lP && ((e.ch.map fun c => c.1).all gj && jg (e.ch.map fun c => c.1))) = false := by rw [kd hx q2', Bool.false_and]
   rw [en]
   by_cases q3 : gj x.2.1 = true
   case neg =>
    have q3' : gj x.2.1 = false := by simpa using q3
    rw [q3'] at ss
    exact dz [] [] (an fA (an c4 rx))
   rw [q3] at ss
   by_cases q4 : x.2.2 < 0
   ·have d1 : (x.2.2 < 0) = True := by simpa using q4
    exact dz [] [] (an fA (an c4 (an rx d1)))
   have d1 : (x.2.2 < 0) = False := by simpa using q4
   have d2 : (x.2.2 > 10080) = True := by
    simp only [lP, q3, Bool.true_and, decide_eq_false_iff_not] at q2'
    simp; omega
   exact dz [] [] (an fA (an c4 (an rx (an d1 d2))))
  have q2' := q2
  simp only [lP, Bool.and_eq_true, decide_eq_true_eq] at q2'
  obtain ⟨q3, q4, q5⟩ := q2'
  rw [q3] at ss
  have d1 : (x.2.2 < 0) = False := by simp; omega
  have d2 : (x.2.2 > 10080) = False := by simp; omega
  cases i with
  | zero =>
   refine wk [] [] (an fA (an c4 (an rx (an d1 d2)))) ?_
   refine hk ⟨1, by omega, gx ha1 hx q2, by rw [htk]; simp [q1], by rw [htk]; simp⟩ _ _ (by dsimp only; omega) ?_
   dsimp only
   exact fx [0] fA
  | succ i =>
   obtain ⟨y, hy⟩ : ∃ y, e.ch[i]? = some y := ⟨_, List.getElem?_eq_getElem (by omega)⟩
   have ry := iK hy
   have hmy : (e.ch.map fun c => c.1)[i]? = some y.1 := by simp [hy]
   have c7 : (((i + 1 : Nat) : Int) > 0) = True := by rw [eq_iff_iff]; exact ⟨fun _ => trivial, fun _ => by omega⟩
   have c8 : (((i + 1 : Nat) : Int) - 1) = (i : Int) := by omega
   by_cases hyx : y.1 < x.1
   ·have c9 : (y.1 ≥ x.1) = False := by simp; omega
    refine wk [] [] (an fA (an c4 (an c7 (an c8 (an c9 (an d1 (an d2 (an rx ry)))))))) ?_
    refine hk ⟨i + 1 + 1, by omega, gx ha1 hx q2, by rw [htk, List.all_append, ha2]; simp [q1], ?_⟩ _ _ (by dsimp only; omega) ?_
    ·rw [List.map_take] at ha3 ⊢
     exact j7 (R := fun a b : Int => a < b) (fun _ _ _ => Int.lt_trans) ha3 hmy hmx hyx
    dsimp only
    exact fx [0] fA
   ·have c9 : (y.1 ≥ x.1) = True := by simp; omega
    have en : (e.ch.all lP && ((e.ch.map fun c => c.1).all gj && jg (e.ch.map fun c => c.1))) = false := by
     have : jg (e.ch.map fun c => c.1) = false := by simpa [jg] using px (R := fun a b : Int => a < b) hmy hmx hyx
     rw [this, Bool.and_false, Bool.and_false]
    rw [en]
    exact dz [] [] (an fA (an c4 (an c7 (an c8 (an c9 (an d1 (an d2 (an rx ry))))))))
 ·have c4 : ((i : Int) < (e.ch.length : Int)) = False := by simp; omega
  obtain rfl : i = e.ch.length := by omega
  rw [List.take_length] at ha1 ha2 ha3
  have hr2 : jg (e.ch.map fun c => c.1) = true := by simpa [jg] using ha3
  rw [ha1, ha2, hr2]
  exact dz [] [] (an fA c4)
def gP (l : List En) (id : Int) (behind : Bool) : List En := if behind then l.filter fun x => decide (id < x.id) else l.filter fun x => decide (x.id < id)
theorem xA {l : List En} {i : Nat} {x : En} (id : Int) (b : Bool) (h : l[i]? = some x) : gP (l.take (i + 1)) id b = gP (l.take i) id b ++ if (if b then id < x.id else x.id < id) then [x] else [] := by
 have : l.take (i + 1) = l.take i ++ [x] := by rw [List.take_add_one, h]; rfl
 rw [this]
 unfold gP
 cases b
 ·simp only [Bool.false_eq_true, if_false, List.filter_append]
  congr 1
  by_cases hx : x.id < id <;> simp [hx]
 ·simp only [if_true, List.filter_append]
  congr 1
  by_cases hx : id < x.id <;> simp [hx]
set_option maxHeartbeats 4000000 in
theorem mQ (l : List En) (id : Int) (b : Bool) (tg : Bool) (nl : Option Bool) (hl : l.length ≤ 400000000000) : aa Tryz.prog 50 [.list nl tg (bA l), .int .u32 id, .bool b] [] (.own 0 0 (gP l id b).length (gP l id b).length 17 none) [bw false 17 true (bA (gP l id b))] := by
 refine aP Tryz.func50 low50 (by simp [c50]) ?_
 simp only [c50]
 refine wk [] [] fA ?_
 refine gn (qV (t := 7) (b := false) 17 true (by decide) rfl) ?_
 refine av (ι := {i : Nat // i ≤ l.length}) (fun i => ([(0, .list nl tg (bA l)), (1, .int .u32 id), (2, .bool b), (7, .own 0 0 (gP (l.take i.1) id b).length (gP (l.take i.1) id b).length 17 none), (11, .int .i64 l.length), (12, .int .i64 i.1)], [bw false 17 true (bA (gP (l.take i.1) id b))])) (fun i => l.length - i.1) ⟨0, by simp⟩ ?_ ?_
 ·have : gP (l.take 0) id b = [] := by cases b <;> simp [gP]
  dsimp only
  rw [this]
  simp only [vU, List.length_nil]
  exact fx [0] fA
 rintro ⟨i, hi⟩ hk
 dsimp only at hk ⊢
 by_cases hlt : i < l.length
 ·have c1 : ((i : Int) < (l.length : Int)) = True := by simp; omega
  obtain ⟨x, hx⟩ : ∃ x, l[i]? = some x := ⟨_, List.getElem?_eq_getElem hlt⟩
  have hr := gK hx
  have ht := xA id b hx
  have hle : (gP (l.take i) id b).length ≤ 400000000000 := by
   have : (gP (l.take i) id b).length ≤ (l.take i).length := by unfold gP; split <;> exact List.length_filter_le ..
   rw [List.length_take] at this
   omega
  have hsn : ∀ F : List En, bA F ++ [x.row] = bA (F ++ [x]) := fun F => by simp [bA]
  generalize gP (l.take i) id b = F at ht hle ⊢
  have hsF := hsn F
  simp only [En.row] at hsF
  by_cases h1 : x.id = id
  ·have c2 : (x.id == id) = true := by simpa using h1
   have e : (if (if b = true then id < x.id else x.id < id) then [x] else []) = [] := by
    rw [h1]; cases b <;> simp
   rw [e, List.append_nil] at ht
   refine wk [] [] (an fA (an c1 (an c2 (an hr @En.row.eq_1)))) ?_
   refine hk ⟨i + 1, by omega⟩ _ _ (by dsimp only; omega) ?_
   dsimp only
   rw [ht]
   exact fx [0] fA
  ·have c2 : (x.id == id) = false := by simpa using h1
   by_cases h2 : x.id > id
   ·have c3 : (x.id > id) = True := by simpa using h2
    cases b with
    | true =>
     have e : (if (if true = true then id < x.id else x.id < id) then [x] else []) = [x] := by simp; omega
     rw [e] at ht
     refine wk [] [] (an fA (an c1 (an c2 (an c3 (an hr (an hsF @En.row.eq_1)))))) ?_
     refine hk ⟨i + 1, by omega⟩ _ _ (by dsimp only; omega) ?_
     dsimp only
     rw [ht]
     simp only [List.length_append, List.length_cons, List.length_nil]
     exact fx [0] fA
    | false =>
     have e : (if (if false = true then id < x.id else x.id < id) then [x] else []) = [] := by simp; omega
     rw [e, List.append_nil] at ht
     refine wk [] [] (an fA (an c1 (an c2 (an c3 (an hr @En.row.eq_1))))) ?_
     refine hk ⟨i + 1, by omega⟩ _ _ (by dsimp only; omega) ?_
     dsimp only
     rw [ht]
     exact fx [0] fA
   ·have c3 : (x.id > id) = False := by simpa using h2
    cases b with
    | false =>
     have e : (if (if false = true then id < x.id else x.id < id) then [x] else []) = [x] := by simp; omega
     rw [e] at ht
     refine wk [] [] (an fA (an c1 (an c2 (an c3 (an hr (an hsF @En.row.eq_1)))))) ?_
     refine hk ⟨i + 1, by omega⟩ _ _ (by dsimp only; omega) ?_
     dsimp only
     rw [ht]
     simp only [List.length_append, List.length_cons, List.length_nil]
     exact fx [0] fA
    | true =>
     have e : (if (if true = true then id < x.id else x.id < id) then [x] else []) = [] := by simp; omega
     rw [e, List.append_nil] at ht
     refine wk [] [] (an fA (an c1 (an c2 (an c3 (an hr @En.row.eq_1))))) ?_
     refine hk ⟨i + 1, by omega⟩ _ _ (by dsimp only; omega) ?_
     dsimp only
     rw [ht]
     exact fx [0] fA
 ·have c1 : ((i : Int) < (l.length : Int)) = False := by simp; omega
  obtain rfl : i = l.length := by omega
  rw [List.take_length]
  refine wk [] [] (an fA c1) ?_
  exact fH [0] fA
end Go.Proofs.YtapennlmboabeaaGreat

namespace Go.Proofs.YtapennlmboabeaaGreat
open Go Go.Vi
def Rr (t : Int) (us : List Us) (ps : List Po) (ds : List Dn) (v e : Int) : D := .agg [.int .i64 t, L (dA us), L (fF ps), L (hH ds), .int .u64 v, .int .i64 e]
theorem zk (l : List En) (id : Int) (e : Ev) : gP l id false ++ [⟨id, e⟩] ++ gP l id true = jF l id e := by simp [gP, jF]
theorem zj (l : List En) (id : Int) : gP l id false ++ gP l id true = j1 l id := by simp [gP, j1]
section
variable (t : Int) (us : List Us) (ps : List Po) (ds : List Dn) (user id : Int)
theorem jB : type_of% (an @ab (an @ac (an @ae (an @ah (an @aj (an @ak @ai)))))) := (an @ab (an @ac (an @ae (an @ah (an @aj (an @ak @ai))))))
set_option maxHeartbeats 4000000 in
theorem mo (hl : us.length ≤ 140737488351232) (hle : ∀ u ∈ us, u.evs.length ≤ 140737488351232) :
  aA Tryz.prog 25 [St t us ps ds, .int .u32 user, .int .u32 id] (mh us user id) := by
 have fp := nt t us ps ds user hl
 unfold kD at fp
 unfold mh
 have hw : ((fB us user).getD zU).evs.length ≤ 140737488351232 := by
  cases h : fB us user with
  | none => simp [zU]
  | some u => exact hle u (gq h).1
 generalize (fB us user).getD zU = u at fp hw ⊢
 generalize (fB us user).isSome = b at fp
 refine bl Tryz.func25 low25 (by simp [c25]) ?_
 simp only [c25, St, Us.row] at fp ⊢
 refine wk [] [] jB ?_
 refine av (ι := {i : Nat // i ≤ u.evs.length ∧ fK u.evs id = fK (u.evs.drop i) id}) (fun i => ([(2, .int .u32 id), (6, .ptr 0 0 0 1), (8, .ptr 1 0 0 1), (19, .int .i64 u.evs.length), (20, .int .i64 i.1)], [⟨true, false, true, false, 16, [[.int .i64 0, .int .i64 0, .bool false, .bool false, .int .i64 0, .int .i64 0, .int .i64 0, .int .i64 0, .list (some true) true [], .list (some true) true [], .list (some true) true [], .list (some true) true [], .int .i64 0, .list (some true) true [], .list (some true) true [], .list (some true) true []]], some 0⟩, ⟨true, false, true, false, 9, [u.row], some 0⟩])) (fun i => u.evs.length - i.1) ⟨0, by simp, by simp⟩ ?_ ?_
 ·simp only [Us.row]
  exact fx [1, 2] jB
 rintro ⟨i, hi, hf⟩ hk
 dsimp only [Us.row] at hk ⊢
 by_cases hlt : i < u.evs.length
 ·have c1 : ((i : Int) < (u.evs.length : Int)) = True := by simp; omega
  obtain ⟨x, hx⟩ : ∃ x, u.evs[i]? = some x := ⟨_, List.getElem?_eq_getElem hlt⟩
  have hr := gK hx
  have hdr : u.evs.drop i = x :: u.evs.drop (i + 1) := by
   rw [List.getElem?_eq_getElem hlt] at hx; cases hx; exact List.drop_eq_getElem_cons hlt
  by_cases hc : x.id = id
  ·have c2 : (x.id == id) = true := by simpa using hc
   have e : fK u.evs id = some x := by rw [hf, hdr]; simp [fK, c2]
   rw [e]
   simp only [Option.map_some, Option.getD_some, Option.isSome_some, Ev.cells]
   exact dz [] [] (an jB (an c1 (an hr (an c2 @En.row.eq_1))))
  ·have c2 : (x.id == id) = false := by simpa using hc
   refine wk [] [] (an jB (an c1 (an hr (an c2 @En.row.eq_1)))) ?_
   refine hk ⟨i + 1, by omega, ?_⟩ _ _ (by dsimp only; omega) ?_
   ·rw [hf, hdr]; simp [fK, c2]
   dsimp only [Us.row]
   exact fx [0, 1] jB
 ·have c1 : ((i : Int) < (u.evs.length : Int)) = False := by simp; omega
  have e : fK u.evs id = none := by rw [hf, List.drop_eq_nil_of_le (by omega)]; rfl
  rw [e]
  simp only [Option.map_none, Option.getD_none, Option.isSome_none, zE, Ev.cells, ar, bz, ed, List.map_nil]
  exact dz [] [] (an jB c1)
set_option maxHeartbeats 4000000 in
theorem sN (n : Nat) (hw : wB us n) (hn : n ≤ 1000000) :
  aA Tryz.prog 23 [St t us ps ds, .int .u32 user, .int .u32 id] (match fB us user with
   | none => Rr t us ps ds 0 4
   | some u => if (fK u.evs id).isSome = true then Rr t (us.map (rep (oi u id))) ps ds (IntKind.u64.wrap (u.ver + 1)) 0 else Rr t us ps ds 0 4) := by
 obtain ⟨w1, w2, w3⟩ := hw
 have fp := nt t us ps ds user (by omega)
 have ep := mo t us ps ds user id (by omega) (fun u hu => by have := (w3 u hu).2.2; omega)
 unfold kD at fp
 unfold mh at ep
 refine bl Tryz.func23 low23 (by simp [c23]) ?_
 cases hu : fB us user with
 | none =>
  rw [hu] at fp ep
  have hz : fK zU.evs id = none := rfl
  have hz' : (fK [] id) = none := rfl
  simp only [Option.getD_none, Option.isSome_none, hz, hz', Option.map_none, zE, zU, Us.row, Ev.cells] at fp ep
  simp only [c23, St, Rr] at fp ep ⊢
  exact dz [] [] jB
 | some u =>
  rw [hu] at fp ep
  obtain ⟨uf, us1, ul⟩ := w3 u (gq hu).1
  simp only [Option.getD_some, Option.isSome_some] at fp ep
  dsimp only
  by_cases hq : (fK u.evs id).isSome = true
  ·rw [if_pos hq]
   rw [hq] at ep
   have o1 := mQ u.evs id false false none (by omega)
   have o2 := mQ u.evs id true false none (by omega)
   have hid := sA hu
   have wr := qM t us ps ds (oi u id) (by omega)
   rw [qS (u := oi u id) w2 ⟨u, (gq hu).1, rfl⟩] at wr
   generalize us.map (rep (oi u id)) = us' at wr ⊢
   have ho := zj u.evs id
   have hl1 : (gP u.evs id false).length ≤ 1000000 := by
    have : (gP u.evs id false).length ≤ u.evs.length := by unfold gP; exact List.length_filter_le ..
    omega
   have hl2 : (gP u.evs id true).length ≤ 1000000 := by
    have : (gP u.evs id true).length ≤ u.evs.length := by unfold gP; exact List.length_filter_le ..
    omega
   simp only [oi] at wr
   rw [← ho] at wr
   have ha : bA (gP u.evs id false) ++ bA (gP u.evs id true) = bA (gP u.evs id false ++ gP u.evs id true) := by simp [bA]
   generalize gP u.evs id false = F at o1 wr hl1 ha
   generalize gP u.evs id true = H at o2 wr hl2 ha
   generalize ((fK u.evs id).map En.ev).getD zE = ev at ep
   simp only [c23, St, Rr, Us.row, Ev.cells] at fp ep wr ⊢
   have w2 := wr.toG rfl rfl
   have hsz : (∀ r ∈ bA H, r.length = 17) = True := eq_true (jZ H)
   repeat' ((first | refine dV ?_ | refine cY ?_ | refine ci ?_ | refine dS ?_ | refine cW rfl ?_ | refine fP ?_ | refine dT ?_ | refine cj ?_ | refine dU mixed ?_ | refine cX mixed ?_ | with_reducible refine bp ?_ | with_reducible refine bn ?_ | with_reducible refine bo ?_ | with_reducible refine gX (f := .c (.fn 50 [])) ?_ | with_reducible refine gB (f := .c (.fn 50 [])) ?_ | with_reducible refine iJ (f := .c (.fn 33 [])) (z := [4]) (q := []) ?_ | with_reducible refine hZ (f := .c (.fn 33 [])) (z := [4]) (q := []) ?_ | with_reducible refine da ?_ | with_reducible refine ck ?_ | refine az (fp) ?_ ?_ | refine az (ep) ?_ ?_ | with_reducible refine db (o1) (by simp) ?_ | with_reducible refine db (o2) (by simp) ?_ | with_reducible refine db (w2) (by simp) ?_ | simp (disch := omega) only [kL, il, iM, iL, lD, Int.tdiv_eq_ediv_of_nonneg, Int.tmod_eq_emod_of_nonneg] | (with_reducible refine bq rfl rfl ?_ ?_; (focus ((try simp only [ab, ac, ae, ah, aj, ak, ai, reduceIte, Int.natCast_nonneg, Int.le_refl, List.length_append, List.length_map, Nat.sub_zero]) <;> ((repeat' (with_reducible refine And.intro ?_ ?_)) <;> first | exact trivial | assumption | (simp; done) | (simp only [List.length_map] at *; omega) | omega | (simp [D.cells, D.ok, D.one, D.pt, D.pt1]; done))))) | (refine ax (fun hc => ?_) (fun hc => ?_) <;> (try simp only [hc]) <;> (try simp at hc)) | (refine aN (fun hc => ?_) (fun hc => ?_) <;> (try simp only [hc]) <;> (try simp at hc)) | (with_reducible refine And.intro ?_ ?_; (focus ((repeat' (with_reducible refine And.intro ?_ ?_)) <;> first | exact trivial | assumption | (simp; done) | (simp only [List.length_map] at *; omega) | omega | (simp [D.cells, D.ok, D.one, D.pt, D.pt1]; done)))) | (with_reducible intro x hx) | omega) <;> (try simp only [ab, ac, ae, ah, aj, ak, ai, ha, hsz, ft, eT, eQ, eP, eN, eS, eO, eI, eH, eF, eK, eM, eG, eL, eJ, eU, eV, fq, dN, dO, cL, dQ, dF, dE, fe, eY, gr, gw, dK, dP, eX, cO, fg, fh, ff, fk, gu, gt, cR, aX, aG, cf, dM, bL, bM, aW, aB, bN, eZ, cK, cS, aY, aH, aI, cQ, aF, aU, aw, aV, eW, dJ, bg, bZ, bY, bh, bf, bX, bW, aJ, bE, cy, cw, cx, cv, fc, cz, im, fu, cB, bO, dL, bF, aT, cM, aS, aE, aR, fm, cA, aM, aq, ao, am, dH, cD, cE, dI, cF, dG, bS, fv, dR, bU, bc, bT, ba, bV, be, D.names, D.namesL, aO, dg, aK, df, dh, aL, ay, cP, bK, bI, bG, bJ, bH, dD, dC, aZ, dj, di, cg, Nat.reduceBEq, cH, cG, iF, iE, dq, reduceIte, Nat.reduceEqDiff, Nat.reduceAdd, Nat.reduceSub, Nat.reduceMul, Nat.reduceLT, Nat.reduceLeDiff, reduceCtorEq, ia, em, eo, jA, dY, cT, kM, gf, kR, io, ky, gh, ip, gg, gi, iy, eu, ir, iu, iq, iv, kQ, kP, ee, dp, gb, fE, fN, splice, D.cells, D.ok, D.one, D.pt, D.pt1, D.pt0, D.norm1, D.norm, cond_true, cond_false, true_and, and_true, and_self, Bool.true_and, Bool.and_true, Bool.false_and, Bool.and_false, Bool.not_true, Bool.not_false, Bool.true_or, Bool.false_or, Bool.or_true, Bool.or_false, List.getElem?_cons_zero, List.getElem?_cons_succ, List.getElem?_nil, List.length_cons, List.length_nil, List.length_map, List.length_append, List.length_set, List.length_take, List.length_drop, List.length_replicate, List.take_succ_cons, List.take_zero, List.take_nil, List.drop_succ_cons, List.drop_zero, List.drop_nil, List.cons_append, List.nil_append, List.append_nil, List.map_cons, List.map_nil, List.all_cons, List.all_nil, List.set_cons_zero, List.set_cons_succ, List.isEmpty_cons, List.isEmpty_nil, List.forall_mem_cons, List.not_mem_nil, List.forall_mem_nil, false_imp_iff, implies_true, ne_eq, not_false_eq_true, Option.map_some, Option.map_none, Nat.zero_add, Nat.add_zero, Nat.sub_self, Int.toNat_natCast, Int.reduceToNat, Int.reduceLT, Int.reduceLE, Int.reduceEq, Int.reduceBEq, beq_self_eq_true, Int.reduceNeg, decide_true, decide_false, IntKind.bits, Nat.min_eq_left, Int.reducePow, Nat.reducePow, Int.fdiv_eq_ediv_of_nonneg, Nat.lt_irrefl, Int.le_refl, Nat.le_refl, Int.natCast_nonneg, Nat.lt_add_one, Nat.zero_lt_succ, fJ, dX, dW, du, cV, aQ, D.sc, D.sc1, D.sc2, dZ, ek, cr, dm, cm, bk, cn, aD, aC, gA, ct, c0, Go.Vi.freeze, Go.Vi.bu, bv, bv.captL, au, dk, gC, List.flatten_cons, List.flatten_nil, dv, fM, dl, fr, D.ren, D.renL, List.getD_cons_zero, List.getD_cons_succ, List.nodup_cons, List.nodup_nil, List.mem_cons, or_false, false_or, cI, cJ, cd, cC, bQ, bR, bP, eA, List.reverse_nil, Option.some.injEq, D.bool.injEq, D.int.injEq, D.str.injEq, D.agg.injEq, D.tup.injEq, D.list.injEq, D.ptr.injEq, D.own.injEq, List.cons.injEq, dB]))
   skip
  ·rw [if_neg hq]
   have hq' : (fK u.evs id).isSome = false := by simpa using hq
   rw [hq'] at ep
   generalize ((fK u.evs id).map En.ev).getD zE = ev at ep
   simp only [c23, St, Rr, Us.row, Ev.cells] at fp ep ⊢
   exact dz [] [] jB
set_option maxHeartbeats 8000000 in
theorem pX (e : Ev) (n : Nat) (hw : wB us n) (hn : n ≤ 1000000) (he : e.fits) :
  aA Tryz.prog 21 [St t us ps ds, .int .u32 user, .int .u32 id, .agg e.cells] (Rr t (pn us user id e).1 ps ds (pn us user id e).2.1 (pn us user id e).2.2) := by
 obtain ⟨w1, w2, w3⟩ := hw
 have fp := nt t us ps ds user (by omega)
 have ep := mo t us ps ds user id (by omega) (fun u hu => by have := (w3 u hu).2.2; omega)
 have me := xW e he
 unfold kD at fp
 unfold mh at ep
 refine bl Tryz.func21 low21 (by simp [c21]) ?_
 unfold pn
 cases hu : fB us user with
 | none =>
  rw [hu] at fp
  simp only [Option.getD_none, Option.isSome_none, zU, Us.row] at fp
  simp only [c21, St, Rr, Ev.cells] at fp ⊢
  exact dz [] [] jB
 | some u =>
  rw [hu] at fp ep
  obtain ⟨uf, us1, ul⟩ := w3 u (gq hu).1
  simp only [Option.getD_some, Option.isSome_some] at fp ep
  dsimp only
  generalize ((fK u.evs id).map En.ev).getD zE = ev at ep
  by_cases h0 : id = 0
  ·have c1 : (id == 0) = true := by simpa using h0
   rw [if_pos (.inl h0)]
   generalize (fK u.evs id).isSome = b at ep
   simp only [c21, St, Rr, Us.row, Ev.cells] at fp ep ⊢
   exact dz [] [] (an jB c1)
  have c1 : (id == 0) = false := by simpa using h0
  by_cases hm : jU e = false
  ·rw [if_pos (.inr hm)]
   rw [hm] at me
   generalize (fK u.evs id).isSome = b at ep
   simp only [c21, St, Rr, Us.row, Ev.cells] at fp ep me ⊢
   exact dz [] [] (an jB c1)
  have hm' : jU e = true := by simpa using hm
  rw [hm'] at me
  rw [if_neg (by rintro (h | h); exact h0 h; exact hm h)]
  by_cases hq : (fK u.evs id).isSome = false ∧ 64 ≤ u.evs.length
  ·rw [if_pos hq]
   have c2 : ((u.evs.length : Int) ≥ 64) = True := by simp; omega
   rw [hq.1] at ep
   simp only [c21, St, Rr, Us.row, Ev.cells] at fp ep me ⊢
   exact dz [] [] (an jB (an c1 c2))
  ·rw [if_neg hq]
   have o1 := mQ u.evs id false false none (by omega)
   have o2 := mQ u.evs id true false none (by omega)
   have hid := sA hu
   have wr := qM t us ps ds (pq u id e) (by omega)
   rw [qS (u := pq u id e) w2 ⟨u, (gq hu).1, rfl⟩] at wr
   generalize us.map (rep (pq u id e)) = us' at wr ⊢
   have ho := zk u.evs id e
   have hl1 : (gP u.evs id false).length ≤ 1000000 := by
    have : (gP u.evs id false).length ≤ u.evs.length := by unfold gP; exact List.length_filter_le ..
    omega
   have hl2 : (gP u.evs id true).length ≤ 1000000 := by
    have : (gP u.evs id true).length ≤ u.evs.length := by unfold gP; exact List.length_filter_le ..
    omega
   simp only [pq] at wr
   rw [← ho] at wr
   have hb : bA (gP u.evs id false) ++ [En.row ⟨id, e⟩] = bA (gP u.evs id false ++ [⟨id, e⟩]) := by simp [bA]
   have ha : bA (gP u.evs id false ++ [⟨id, e⟩]) ++ bA (gP u.evs id true) = bA (gP u.evs id false ++ [⟨id, e⟩] ++ gP u.evs id true) := by simp [bA]
   generalize gP u.evs id false = F at o1 wr hl1 ha hb
   generalize gP u.evs id true = H at o2 wr hl2 ha
   have hsz : (∀ r ∈ bA H, r.length = 17) = True := eq_true (jZ H)
   simp only [En.row] at hb
   have hcs : (fK u.evs id).isSome = true ∨ ((fK u.evs id).isSome = false ∧ u.evs.length < 64) := by
    cases hh : (fK u.evs id).isSome with
    | true => exact .inl rfl
    | false => exact .inr ⟨rfl, by
      have : ¬ 64 ≤ u.evs.length := fun h => hq ⟨hh, h⟩
      omega⟩
   rcases hcs with h1 | ⟨h1, h2⟩
   ·rw [h1] at ep
    simp only [c21, St, Rr, Us.row, Ev.cells] at fp ep me wr ⊢
    have w2 := wr.toG rfl rfl
    repeat' ((first | refine dV ?_ | refine cY ?_ | refine ci ?_ | refine dS ?_ | refine cW rfl ?_ | refine fP ?_ | refine dT ?_ | refine cj ?_ | refine dU mixed ?_ | refine cX mixed ?_ | with_reducible refine bp ?_ | with_reducible refine bn ?_ | with_reducible refine bo ?_ | with_reducible refine gX (f := .c (.fn 50 [])) ?_ | with_reducible refine gB (f := .c (.fn 50 [])) ?_ | with_reducible refine iJ (f := .c (.fn 33 [])) (z := [5]) (q := []) ?_ | with_reducible refine hZ (f := .c (.fn 33 [])) (z := [5]) (q := []) ?_ | with_reducible refine da ?_ | with_reducible refine ck ?_ | refine az (fp) ?_ ?_ | refine az (ep) ?_ ?_ | refine az (me) ?_ ?_ | with_reducible refine db (o1) (by simp) ?_ | with_reducible refine db (o2) (by simp) ?_ | with_reducible refine db (w2) (by simp) ?_ | simp (disch := omega) only [kL, il, iM, iL, lD, Int.tdiv_eq_ediv_of_nonneg, Int.tmod_eq_emod_of_nonneg] | (with_reducible refine bq rfl rfl ?_ ?_; (focus ((try simp only [ab, ac, ae, ah, aj, ak, ai, reduceIte, Int.natCast_nonneg, Int.le_refl, List.length_append, List.length_map, Nat.sub_zero]) <;> ((repeat' (with_reducible refine And.intro ?_ ?_)) <;> first | exact trivial | assumption | (simp; done) | (simp only [List.length_map] at *; omega) | omega | (simp [D.cells, D.ok, D.one, D.pt, D.pt1]; done))))) | (refine ax (fun hc => ?_) (fun hc => ?_) <;> (try simp only [hc]) <;> (try simp at hc)) | (refine aN (fun hc => ?_) (fun hc => ?_) <;> (try simp only [hc]) <;> (try simp at hc)) | (with_reducible refine And.intro ?_ ?_; (focus ((repeat' (with_reducible refine And.intro ?_ ?_)) <;> first | exact trivial | assumption | (simp; done) | (simp only [List.length_map] at *; omega) | omega | (simp [D.cells, D.ok, D.one, D.pt, D.pt1]; done)))) | (with_reducible intro x hx) | omega) <;> (try simp only [ab, ac, ae, ah, aj, ak, ai, c1, ha, hb, hsz, ft, eT, eQ, eP, eN, eS, eO, eI, eH, eF, eK, eM, eG, eL, eJ, eU, eV, fq, dN, dO, cL, dQ, dF, dE, fe, eY, gr, gw, dK, dP, eX, cO, fg, fh, ff, fk, gu, gt, cR, aX, aG, cf, dM, bL, bM, aW, aB, bN, eZ, cK, cS, aY, aH, aI, cQ, aF, aU, aw, aV, eW, dJ, bg, bZ, bY, bh, bf, bX, bW, aJ, bE, cy, cw, cx, cv, fc, cz, im, fu, cB, bO, dL, bF, aT, cM, aS, aE, aR, fm, cA, aM, aq, ao, am, dH, cD, cE, dI, cF, dG, bS, fv, dR, bU, bc, bT, ba, bV, be, D.names, D.namesL, aO, dg, aK, df, dh, aL, ay, cP, bK, bI, bG, bJ, bH, dD, dC, aZ, dj, di, cg, Nat.reduceBEq, cH, cG, iF, iE, dq, reduceIte, Nat.reduceEqDiff, Nat.reduceAdd, Nat.reduceSub, Nat.reduceMul, Nat.reduceLT, Nat.reduceLeDiff, reduceCtorEq, ia, em, eo, jA, dY, cT, kM, gf, kR, io, ky, gh, ip, gg, gi, iy, eu, ir, iu, iq, iv, kQ, kP, ee, dp, gb, fE, fN, splice, D.cells, D.ok, D.one, D.pt, D.pt1, D.pt0, D.norm1, D.norm, cond_true, cond_false, true_and, and_true, and_self, Bool.true_and, Bool.and_true, Bool.false_and, Bool.and_false, Bool.not_true, Bool.not_false, Bool.true_or, Bool.false_or, Bool.or_true, Bool.or_false, List.getElem?_cons_zero, List.getElem?_cons_succ, List.getElem?_nil, List.length_cons, List.length_nil, List.length_map, List.length_append, List.length_set, List.length_take, List.length_drop, List.length_replicate, List.take_succ_cons, List.take_zero, List.take_nil, List.drop_succ_cons, List.drop_zero, List.drop_nil, List.cons_append, List.nil_append, List.append_nil, List.map_cons, List.map_nil, List.all_cons, List.all_nil, List.set_cons_zero, List.set_cons_succ, List.isEmpty_cons, List.isEmpty_nil, List.forall_mem_cons, List.not_mem_nil, List.forall_mem_nil, false_imp_iff, implies_true, ne_eq, not_false_eq_true, Option.map_some, Option.map_none, Nat.zero_add, Nat.add_zero, Nat.sub_self, Int.toNat_natCast, Int.reduceToNat, Int.reduceLT, Int.reduceLE, Int.reduceEq, Int.reduceBEq, beq_self_eq_true, Int.reduceNeg, decide_true, decide_false, IntKind.bits, Nat.min_eq_left, Int.reducePow, Nat.reducePow, Int.fdiv_eq_ediv_of_nonneg, Nat.lt_irrefl, Int.le_refl, Nat.le_refl, Int.natCast_nonneg, Nat.lt_add_one, Nat.zero_lt_succ, fJ, dX, dW, du, cV, aQ, D.sc, D.sc1, D.sc2, dZ, ek, cr, dm, cm, bk, cn, aD, aC, gA, ct, c0, Go.Vi.freeze, Go.Vi.bu, bv, bv.captL, au, dk, gC, List.flatten_cons, List.flatten_nil, dv, fM, dl, fr, D.ren, D.renL, List.getD_cons_zero, List.getD_cons_succ, List.nodup_cons, List.nodup_nil, List.mem_cons, or_false, false_or, cI, cJ, cd, cC, bQ, bR, bP, eA, List.reverse_nil, Option.some.injEq, D.bool.injEq, D.int.injEq, D.str.injEq, D.agg.injEq, D.tup.injEq, D.list.injEq, D.ptr.injEq, D.own.injEq, List.cons.injEq, dB]))
    skip
   ·rw [h1] at ep
    have c2 : ((u.evs.length : Int) ≥ 64) = False := by simp; omega
    simp only [c21, St, Rr, Us.row, Ev.cells] at fp ep me wr ⊢
    have w2 := wr.toG rfl rfl
    repeat' ((first | refine dV ?_ | refine cY ?_ | refine ci ?_ | refine dS ?_ | refine cW rfl ?_ | refine fP ?_ | refine dT ?_ | refine cj ?_ | refine dU mixed ?_ | refine cX mixed ?_ | with_reducible refine bp ?_ | with_reducible refine bn ?_ | with_reducible refine bo ?_ | with_reducible refine gX (f := .c (.fn 50 [])) ?_ | with_reducible refine gB (f := .c (.fn 50 [])) ?_ | with_reducible refine iJ (f := .c (.fn 33 [])) (z := [5]) (q := []) ?_ | with_reducible refine hZ (f := .c (.fn 33 [])) (z := [5]) (q := []) ?_ | with_reducible refine da ?_ | with_reducible refine ck ?_ | refine az (fp) ?_ ?_ | refine az (ep) ?_ ?_ | refine az (me) ?_ ?_ | with_reducible refine db (o1) (by simp) ?_ | with_reducible refine db (o2) (by simp) ?_ | with_reducible refine db (w2) (by simp) ?_ | simp (disch := omega) only [kL, il, iM, iL, lD, Int.tdiv_eq_ediv_of_nonneg, Int.tmod_eq_emod_of_nonneg] | (with_reducible refine bq rfl rfl ?_ ?_; (focus ((try simp only [ab, ac, ae, ah, aj, ak, ai, reduceIte, Int.natCast_nonneg, Int.le_refl, List.length_append, List.length_map, Nat.sub_zero]) <;> ((repeat' (with_reducible refine And.intro ?_ ?_)) <;> first | exact trivial | assumption | (simp; done) | (simp only [List.length_map] at *; omega) | omega | (simp [D.cells, D.ok, D.one, D.pt, D.pt1]; done))))) | (refine ax (fun hc => ?_) (fun hc => ?_) <;> (try simp only [hc]) <;> (try simp at hc)) | (refine aN (fun hc => ?_) (fun hc => ?_) <;> (try simp only [hc]) <;> (try simp at hc)) | (with_reducible refine And.intro ?_ ?_; (focus ((repeat' (with_reducible refine And.intro ?_ ?_)) <;> first | exact trivial | assumption | (simp; done) | (simp only [List.length_map] at *; omega) | omega | (simp [D.cells, D.ok, D.one, D.pt, D.pt1]; done)))) | (with_reducible intro x hx) | omega) <;> (try simp only [ab, ac, ae, ah, aj, ak, ai, c1, c2, ha, hb, hsz, ft, eT, eQ, eP, eN, eS, eO, eI, eH, eF, eK, eM, eG, eL, eJ, eU, eV, fq, dN, dO, cL, dQ, dF, dE, fe, eY, gr, gw, dK, dP, eX, cO, fg, fh, ff, fk, gu, gt, cR, aX, aG, cf, dM, bL, bM, aW, aB, bN, eZ, cK, cS, aY, aH, aI, cQ, aF, aU, aw, aV, eW, dJ, bg, bZ, bY, bh, bf, bX, bW, aJ, bE, cy, cw, cx, cv, fc, cz, im, fu, cB, bO, dL, bF, aT, cM, aS, aE, aR, fm, cA, aM, aq, ao, am, dH, cD, cE, dI, cF, dG, bS, fv, dR, bU, bc, bT, ba, bV, be, D.names, D.namesL, aO, dg, aK, df, dh, aL, ay, cP, bK, bI, bG, bJ, bH, dD, dC, aZ, dj, di, cg, Nat.reduceBEq, cH, cG, iF, iE, dq, reduceIte, Nat.reduceEqDiff, Nat.reduceAdd, Nat.reduceSub, Nat.reduceMul, Nat.reduceLT, Nat.reduceLeDiff, reduceCtorEq, ia, em, eo, jA, dY, cT, kM, gf, kR, io, ky, gh, ip, gg, gi, iy, eu, ir, iu, iq, iv, kQ, kP, ee, dp, gb, fE, fN, splice, D.cells, D.ok, D.one, D.pt, D.pt1, D.pt0, D.norm1, D.norm, cond_true, cond_false, true_and, and_true, and_self, Bool.true_and, Bool.and_true, Bool.false_and, Bool.and_false, Bool.not_true, Bool.not_false, Bool.true_or, Bool.false_or, Bool.or_true, Bool.or_false, List.getElem?_cons_zero, List.getElem?_cons_succ, List.getElem?_nil, List.length_cons, List.length_nil, List.length_map, List.length_append, List.length_set, List.length_take, List.length_drop, List.length_replicate, List.take_succ_cons, List.take_zero, List.take_nil, List.drop_succ_cons, List.drop_zero, List.drop_nil, List.cons_append, List.nil_append, List.append_nil, List.map_cons, List.map_nil, List.all_cons, List.all_nil, List.set_cons_zero, List.set_cons_succ, List.isEmpty_cons, List.isEmpty_nil, List.forall_mem_cons, List.not_mem_nil, List.forall_mem_nil, false_imp_iff, implies_true, ne_eq, not_false_eq_true, Option.map_some, Option.map_none, Nat.zero_add, Nat.add_zero, Nat.sub_self, Int.toNat_natCast, Int.reduceToNat, Int.reduceLT, Int.reduceLE, Int.reduceEq, Int.reduceBEq, beq_self_eq_true, Int.reduceNeg, decide_true, decide_false, IntKind.bits, Nat.min_eq_left, Int.reducePow, Nat.reducePow, Int.fdiv_eq_ediv_of_nonneg, Nat.lt_irrefl, Int.le_refl, Nat.le_refl, Int.natCast_nonneg, Nat.lt_add_one, Nat.zero_lt_succ, fJ, dX, dW, du, cV, aQ, D.sc, D.sc1, D.sc2, dZ, ek, cr, dm, cm, bk, cn, aD, aC, gA, ct, c0, Go.Vi.freeze, Go.Vi.bu, bv, bv.captL, au, dk, gC, List.flatten_cons, List.flatten_nil, dv, fM, dl, fr, D.ren, D.renL, List.getD_cons_zero, List.getD_cons_succ, List.nodup_cons, List.nodup_nil, List.mem_cons, or_false, false_or, cI, cJ, cd, cC, bQ, bR, bP, eA, List.reverse_nil, Option.some.injEq, D.bool.injEq, D.int.injEq, D.str.injEq, D.agg.injEq, D.tup.injEq, D.list.injEq, D.ptr.injEq, D.own.injEq, List.cons.injEq, dB]))
    skip
end
end Go.Proofs.YtapennlmboabeaaGreat
