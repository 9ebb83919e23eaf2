import Derived.Test.YtapennlmboabeaaGreatYA
import Derived.Test.YtapennlmboabeaaGreatVi33
set_option linter.unusedVariables false
set_option linter.unusedSimpArgs false
set_option linter.unnecessarySimpa false
namespace Go.Proofs.YtapennlmboabeaaGreat
open Go Go.Vi
def ez (n : Nat) : List UInt8 := if h : n < 128 then [UInt8.ofNat n] else UInt8.ofNat (128 + n % 128) :: ez (n / 128)
theorem jn {n : Nat} (h : n < 128) : ez n = [UInt8.ofNat n] := by rw [ez, dif_pos h]
theorem ng {n : Nat} (h : 128 ≤ n) : ez n = UInt8.ofNat (128 + n % 128) :: ez (n / 128) := by rw [ez, dif_neg (by omega)]
theorem xy : ∀ (k n : Nat), n < 2 ^ (7 * (k + 1)) → (ez n).length ≤ k + 1
 | k, n, h => by
  by_cases h1 : n < 128
  ·rw [jn h1]; simp
  ·cases k with
   | zero => simp at h; omega
   | succ k =>
    rw [ng (by omega)]
    have := xy k (n / 128) (by
     rw [Nat.div_lt_iff_lt_mul (by decide)]
     have e : 2 ^ (7 * (k + 1 + 1)) = 2 ^ (7 * (k + 1)) * 128 := by rw [show 7 * (k + 1 + 1) = 7 * (k + 1) + 7 by omega, Nat.pow_add]
     omega)
    simp; omega
theorem ki {n : Nat} (h : n < 18446744073709551616) : (ez n).length ≤ 10 := xy 9 n (by
 have : 2 ^ (7 * (9 + 1)) = 1180591620717411303424 := by decide
 omega)
def r8 (l : List UInt8) : List (List D) := l.map fun b => [D.int .u8 (b.toNat : Int)]
theorem co {l : List UInt8} : (r8 l).length = l.length := by simp [r8]
abbrev Wr (k : Nat) : Ob := ⟨true, false, false, false, 1, [[.own 1 0 k k 1 none]], some 0⟩
theorem wu8m {n : Nat} : IntKind.u8.wrap (n : Int) = ((n % 256 : Nat) : Int) := by
 unfold IntKind.wrap
 simp [IntKind.bits, IntKind.signed]
theorem or128 (m : Nat) : nN .u8 (IntKind.u8.wrap (m : Int)) 128 = ((UInt8.ofNat (128 + m % 128)).toNat : Int) := by
 have key : ∀ x : Fin 256, nN .u8 ((x.1 : Nat) : Int) 128 = ((UInt8.ofNat (128 + x.1 % 128)).toNat : Int) := by decide +kernel
 rw [wu8m]
 have := key ⟨m % 256, Nat.mod_lt _ (by decide)⟩
 simp only at this
 rw [this]
 congr 4
 omega
theorem u6 : type_of% (an @Wr.eq_1 @co) := (an @Wr.eq_1 @co)
theorem kt (l : List UInt8) (n : Nat) (x : Int) (hx : x = n) (hn : n < 18446744073709551616) (hl : l.length ≤ 1099511627776) : aa Tryz.prog 134 [.ptr 0 0 0 1, .int .u64 x] [Wr l.length, bw true 1 true (r8 l)] (.tup []) [Wr (l ++ ez n).length, bw true 1 true (r8 (l ++ ez n))] := by
 subst hx
 refine aP Tryz.func134 low134 (by simp [c134]) ?_
 simp only [c134]
 refine wk [] [] u6 ?_
 refine av (ι := {p : List UInt8 × Nat // p.1 ++ ez p.2 = l ++ ez n ∧ p.2 < 18446744073709551616}) (fun i => ([(0, .ptr 0 0 0 1), (1, .int .u64 i.1.2)], [Wr i.1.1.length, bw true 1 true (r8 i.1.1)])) (fun i => i.1.2) ⟨(l, n), rfl, hn⟩ ?_ ?_
 ·simp only [Wr]
  exact fx [0, 1] u6
 rintro ⟨⟨p, m⟩, hp, hm⟩ hk
 dsimp only at hp hm hk ⊢
 have h10 := ki hn
 have hlen := congrArg List.length hp
 simp only [List.length_append] at hlen
 repeat' ((first | refine dV ?_ | refine cY ?_ | refine ci ?_ | refine dS ?_ | refine cW rfl ?_ | refine fP ?_ | refine dT ?_ | refine cj ?_ | refine dU mixed ?_ | refine cX mixed ?_ | with_reducible refine bp ?_ | with_reducible refine bn ?_ | with_reducible refine bo ?_ | with_reducible refine da ?_ | with_reducible refine ck ?_ | simp (disch := omega) only [kL, il, iM, iL, lD, Int.tdiv_eq_ediv_of_nonneg, Int.tmod_eq_emod_of_nonneg] | (with_reducible refine bq rfl rfl ?_ ?_; (focus ((try simp only [Wr, co, reduceIte, Int.natCast_nonneg, Int.le_refl, List.length_append, List.length_map, Nat.sub_zero]) <;> ((repeat' (with_reducible refine And.intro ?_ ?_)) <;> first | exact trivial | assumption | (simp; done) | (simp only [List.length_map] at *; omega) | omega | (simp [D.cells, D.ok, D.one, D.pt, D.pt1]; done))))) | (refine ax (fun hc => ?_) (fun hc => ?_) <;> (try simp only [hc]) <;> (try simp at hc)) | (refine aN (fun hc => ?_) (fun hc => ?_) <;> (try simp only [hc]) <;> (try simp at hc)) | (with_reducible refine And.intro ?_ ?_; (focus ((repeat' (with_reducible refine And.intro ?_ ?_)) <;> first | exact trivial | assumption | (simp; done) | (simp only [List.length_map] at *; omega) | omega | (simp [D.cells, D.ok, D.one, D.pt, D.pt1]; done)))) | (with_reducible intro x hx) | omega) <;> (try simp only [Wr, co, ft, eT, eQ, eP, eN, eS, eO, eI, eH, eF, eK, eM, eG, eL, eJ, eU, eV, fq, dN, dO, cL, dQ, dF, dE, fe, eY, gr, gw, dK, dP, eX, cO, fg, fh, ff, fk, gu, gt, cR, aX, aG, cf, dM, bL, bM, aW, aB, bN, eZ, cK, cS, aY, aH, aI, cQ, aF, aU, aw, aV, eW, dJ, bg, bZ, bY, bh, bf, bX, bW, aJ, bE, cy, cw, cx, cv, fc, cz, im, fu, cB, bO, dL, bF, aT, cM, aS, aE, aR, fm, cA, aM, aq, ao, am, dH, cD, cE, dI, cF, dG, bS, fv, dR, bU, bc, bT, ba, bV, be, D.names, D.namesL, aO, dg, aK, df, dh, aL, ay, cP, bK, bI, bG, bJ, bH, dD, dC, aZ, dj, di, cg, Nat.reduceBEq, cH, cG, iF, iE, dq, reduceIte, Nat.reduceEqDiff, Nat.reduceAdd, Nat.reduceSub, Nat.reduceMul, Nat.reduceLT, Nat.reduceLeDiff, reduceCtorEq, ia, em, eo, jA, dY, cT, kM, gf, kR, io, ky, gh, ip, gg, gi, iy, eu, ir, iu, iq, iv, kQ, kP, ee, dp, gb, fE, fN, splice, D.cells, D.ok, D.one, D.pt, D.pt1, D.pt0, D.norm1, D.norm, cond_true, cond_false, true_and, and_true, and_self, Bool.true_and, Bool.and_true, Bool.false_and, Bool.and_false, Bool.not_true, Bool.not_false, Bool.true_or, Bool.false_or, Bool.or_true, Bool.or_false, List.getElem?_cons_zero, List.getElem?_cons_succ, List.getElem?_nil, List.length_cons, List.length_nil, List.length_map, List.length_append, List.length_set, List.length_take, List.length_drop, List.length_replicate, List.take_succ_cons, List.take_zero, List.take_nil, List.drop_succ_cons, List.drop_zero, List.drop_nil, List.cons_append, List.nil_append, List.append_nil, List.map_cons, List.map_nil, List.all_cons, List.all_nil, List.set_cons_zero, List.set_cons_succ, List.isEmpty_cons, List.isEmpty_nil, List.forall_mem_cons, List.not_mem_nil, List.forall_mem_nil, false_imp_iff, implies_true, ne_eq, not_false_eq_true, Option.map_some, Option.map_none, Nat.zero_add, Nat.add_zero, Nat.sub_self, Int.toNat_natCast, Int.reduceToNat, Int.reduceLT, Int.reduceLE, Int.reduceEq, Int.reduceBEq, beq_self_eq_true, Int.reduceNeg, decide_true, decide_false, IntKind.bits, Nat.min_eq_left, Int.reducePow, Nat.reducePow, Int.fdiv_eq_ediv_of_nonneg, Nat.lt_irrefl, Int.le_refl, Nat.le_refl, Int.natCast_nonneg, Nat.lt_add_one, Nat.zero_lt_succ, fJ, dX, dW, du, cV, aQ, D.sc, D.sc1, D.sc2, dZ, ek, cr, dm, cm, bk, cn, aD, aC, gA, ct, c0, Go.Vi.freeze, Go.Vi.bu, bv, bv.captL, au, dk, gC, List.flatten_cons, List.flatten_nil, dv, fM, dl, fr, D.ren, D.renL, List.getD_cons_zero, List.getD_cons_succ, List.nodup_cons, List.nodup_nil, List.mem_cons, or_false, false_or, cI, cJ, cd, cC, bQ, bR, bP, eA, List.reverse_nil, Option.some.injEq, D.bool.injEq, D.int.injEq, D.str.injEq, D.agg.injEq, D.tup.injEq, D.list.injEq, D.ptr.injEq, D.own.injEq, List.cons.injEq, dB]))
 ·refine hk ⟨(p ++ [UInt8.ofNat (128 + m % 128)], m / 128), ?_, by dsimp only; omega⟩ _ _ (by dsimp only; omega) ?_
  ·dsimp only
   rw [ng (by omega)] at hp
   rw [← hp]; simp
  ·have e : r8 p ++ [[D.int IntKind.u8 (nN .u8 (IntKind.u8.wrap ↑m) 128)]] = r8 (p ++ [UInt8.ofNat (128 + m % 128)]) := by
    rw [or128]; simp [r8]
   simp only [e, Wr]
   exact fx [0, 1] u6
 ·have hms : m < 128 := by omega
  rw [jn hms] at hp hlen
  have e : r8 p ++ [[D.int IntKind.u8 ↑m]] = r8 (l ++ ez n) := by
   rw [← hp]
   simp [r8]; omega
  simp only [List.length_cons, List.length_nil] at hlen
  have e2 : p.length + 1 = l.length + (ez n).length := by omega
  simp only [e, e2]
  exact fH [0, 1] u6
end Go.Proofs.YtapennlmboabeaaGreat

namespace Go.Proofs.YtapennlmboabeaaGreat
open Go Go.Vi
theorem gH {l : List UInt8} : ∀ r, r ∈ r8 l → r.length = 1 := fun r hr => by
 obtain ⟨b, _, rfl⟩ := List.mem_map.1 hr
 rfl
theorem gR : r8 [] = [] := rfl
theorem nR : type_of% (an @Wr.eq_1 (an @co @gR)) := (an @Wr.eq_1 (an @co @gR))
theorem sJ : aa Tryz.prog 55 [] [] (.ptr 0 0 0 1) [Wr 0, bw true 1 true (r8 [])] := by
 refine aP Tryz.func55 low55 (by simp [c55]) ?_
 simp only [c55]
 repeat' ((first | refine dV ?_ | refine cY ?_ | refine ci ?_ | refine dS ?_ | refine cW rfl ?_ | refine dT ?_ | refine cj ?_ | refine dU mixed ?_ | refine cX mixed ?_ | with_reducible refine bp ?_ | with_reducible refine bn ?_ | with_reducible refine bo ?_ | with_reducible refine da ?_ | with_reducible refine ck ?_ | simp (disch := omega) only [kL, il, iM, iL, lD, Int.tdiv_eq_ediv_of_nonneg, Int.tmod_eq_emod_of_nonneg] | (with_reducible refine bq rfl rfl ?_ ?_; (focus ((try simp only [Wr, co, gR, reduceIte, Int.natCast_nonneg, Int.le_refl, List.length_append, List.length_map, Nat.sub_zero]) <;> ((repeat' (with_reducible refine And.intro ?_ ?_)) <;> first | exact trivial | assumption | (simp; done) | (simp only [List.length_map] at *; omega) | omega | (simp [D.cells, D.ok, D.one, D.pt, D.pt1]; done) | exact gH)))) | (refine ax (fun hc => ?_) (fun hc => ?_) <;> (try simp only [hc]) <;> (try simp at hc)) | (refine aN (fun hc => ?_) (fun hc => ?_) <;> (try simp only [hc]) <;> (try simp at hc)) | (with_reducible refine And.intro ?_ ?_; (focus ((repeat' (with_reducible refine And.intro ?_ ?_)) <;> first | exact trivial | assumption | (simp; done) | (simp only [List.length_map] at *; omega) | omega | (simp [D.cells, D.ok, D.one, D.pt, D.pt1]; done) | exact gH))) | (with_reducible intro x hx) | omega) <;> (try simp only [Wr, co, gR, ft, eT, eQ, eP, eN, eS, eO, eI, eH, eF, eK, eM, eG, eL, eJ, eU, eV, fq, dN, dO, cL, dQ, dF, dE, fe, eY, gr, gw, dK, dP, eX, cO, fg, fh, ff, fk, gu, gt, cR, aX, aG, cf, dM, bL, bM, aW, aB, bN, eZ, cK, cS, aY, aH, aI, cQ, aF, aU, aw, aV, eW, dJ, bg, bZ, bY, bh, bf, bX, bW, aJ, bE, cy, cw, cx, cv, fc, cz, im, fu, cB, bO, dL, bF, aT, cM, aS, aE, aR, fm, cA, aM, aq, ao, am, dH, cD, cE, dI, cF, dG, bS, fv, dR, bU, bc, bT, ba, bV, be, D.names, D.namesL, aO, dg, aK, df, dh, aL, ay, cP, bK, bI, bG, bJ, bH, dD, dC, aZ, dj, di, cg, Nat.reduceBEq, cH, cG, iF, iE, dq, reduceIte, Nat.reduceEqDiff, Nat.reduceAdd, Nat.reduceSub, Nat.reduceMul, Nat.reduceLT, Nat.reduceLeDiff, reduceCtorEq, ia, em, eo, jA, dY, cT, kM, gf, kR, io, ky, gh, ip, gg, gi, iy, eu, ir, iu, iq, iv, kQ, kP, ee, dp, gb, fE, fN, splice, D.cells, D.ok, D.one, D.pt, D.pt1, D.pt0, D.norm1, D.norm, cond_true, cond_false, true_and, and_true, and_self, Bool.true_and, Bool.and_true, Bool.false_and, Bool.and_false, Bool.not_true, Bool.not_false, Bool.true_or, Bool.false_or, Bool.or_true, Bool.or_false, List.getElem?_cons_zero, List.getElem?_cons_succ, List.getElem?_nil, List.length_cons, List.length_nil, List.length_map, List.length_append, List.length_set, List.length_take, List.length_drop, List.length_replicate, List.take_succ_cons, List.take_zero, List.take_nil, List.drop_succ_cons, List.drop_zero, List.drop_nil, List.cons_append, List.nil_append, List.append_nil, List.map_cons, List.map_nil, List.all_cons, List.all_nil, List.set_cons_zero, List.set_cons_succ, List.isEmpty_cons, List.isEmpty_nil, List.forall_mem_cons, List.not_mem_nil, List.forall_mem_nil, false_imp_iff, implies_true, ne_eq, not_false_eq_true, Option.map_some, Option.map_none, Nat.zero_add, Nat.add_zero, Nat.sub_self, Int.toNat_natCast, Int.reduceToNat, Int.reduceLT, Int.reduceLE, Int.reduceEq, Int.reduceBEq, beq_self_eq_true, Int.reduceNeg, decide_true, decide_false, IntKind.bits, Nat.min_eq_left, Int.reducePow, Nat.reducePow, Int.fdiv_eq_ediv_of_nonneg, Nat.lt_irrefl, Int.le_refl, Nat.le_refl, Int.natCast_nonneg, Nat.lt_add_one, Nat.zero_lt_succ, fJ, dX, dW, du, cV, aQ, D.sc, D.sc1, D.sc2, dZ, ek, cr, dm, cm, bk, cn, aD, aC, gA, ct, c0, Go.Vi.freeze, Go.Vi.bu, bv, bv.captL, au, dk, gC, List.flatten_cons, List.flatten_nil, dv, fM, dl, fr, D.ren, D.renL, List.getD_cons_zero, List.getD_cons_succ, List.nodup_cons, List.nodup_nil, List.mem_cons, or_false, false_or, cI, cJ, cd, cC, bQ, bR, bP, eA, List.reverse_nil, Option.some.injEq, D.bool.injEq, D.int.injEq, D.str.injEq, D.agg.injEq, D.tup.injEq, D.list.injEq, D.ptr.injEq, D.own.injEq, List.cons.injEq, dB]))
 refine gn (kU (l := 0) (j := 0) (i := 0) (b := true) 1 true (by decide) rfl rfl rfl rfl rfl) ?_
 refine wk [] [] nR ?_
 exact fH [0, 1] nR
theorem CK {l : List UInt8} (h : (r8 l).isEmpty = true) : l = [] := by simpa [r8] using h
theorem vp (l : List UInt8) (hl : l.length ≤ 1099511627776) : aa Tryz.prog 106 [.own 0 0 l.length l.length 1 none] [bw true 1 true (r8 l)] (.list none false (r8 l)) [bw true 1 true (r8 l)] := by
 refine aP Tryz.func106 low106 (by simp [c106]) ?_
 simp only [c106]
 repeat' ((first | refine dV ?_ | refine cY ?_ | refine ci ?_ | refine dS ?_ | refine cW rfl ?_ | refine fP ?_ | refine dT ?_ | refine cj ?_ | refine dU mixed ?_ | refine cX mixed ?_ | with_reducible refine bp ?_ | with_reducible refine bn ?_ | with_reducible refine bo ?_ | with_reducible refine da ?_ | with_reducible refine ck ?_ | simp (disch := omega) only [kL, il, iM, iL, lD, Int.tdiv_eq_ediv_of_nonneg, Int.tmod_eq_emod_of_nonneg] | (with_reducible refine bq rfl rfl ?_ ?_; (focus ((try simp only [Wr, co, gR, reduceIte, Int.natCast_nonneg, Int.le_refl, List.length_append, List.length_map, Nat.sub_zero]) <;> ((repeat' (with_reducible refine And.intro ?_ ?_)) <;> first | exact trivial | assumption | (simp; done) | (simp only [List.length_map] at *; omega) | omega | (simp [D.cells, D.ok, D.one, D.pt, D.pt1]; done) | exact gH)))) | (refine ax (fun hc => ?_) (fun hc => ?_) <;> (try simp only [hc]) <;> (try simp at hc)) | (refine aN (fun hc => ?_) (fun hc => ?_) <;> (try simp only [hc]) <;> (try simp at hc)) | (with_reducible refine And.intro ?_ ?_; (focus ((repeat' (with_reducible refine And.intro ?_ ?_)) <;> first | exact trivial | assumption | (simp; done) | (simp only [List.length_map] at *; omega) | omega | (simp [D.cells, D.ok, D.one, D.pt, D.pt1]; done) | exact gH))) | (with_reducible intro x hx) | omega) <;> (try simp only [Wr, co, gR, ft, eT, eQ, eP, eN, eS, eO, eI, eH, eF, eK, eM, eG, eL, eJ, eU, eV, fq, dN, dO, cL, dQ, dF, dE, fe, eY, gr, gw, dK, dP, eX, cO, fg, fh, ff, fk, gu, gt, cR, aX, aG, cf, dM, bL, bM, aW, aB, bN, eZ, cK, cS, aY, aH, aI, cQ, aF, aU, aw, aV, eW, dJ, bg, bZ, bY, bh, bf, bX, bW, aJ, bE, cy, cw, cx, cv, fc, cz, im, fu, cB, bO, dL, bF, aT, cM, aS, aE, aR, fm, cA, aM, aq, ao, am, dH, cD, cE, dI, cF, dG, bS, fv, dR, bU, bc, bT, ba, bV, be, D.names, D.namesL, aO, dg, aK, df, dh, aL, ay, cP, bK, bI, bG, bJ, bH, dD, dC, aZ, dj, di, cg, Nat.reduceBEq, cH, cG, iF, iE, dq, reduceIte, Nat.reduceEqDiff, Nat.reduceAdd, Nat.reduceSub, Nat.reduceMul, Nat.reduceLT, Nat.reduceLeDiff, reduceCtorEq, ia, em, eo, jA, dY, cT, kM, gf, kR, io, ky, gh, ip, gg, gi, iy, eu, ir, iu, iq, iv, kQ, kP, ee, dp, gb, fE, fN, splice, D.cells, D.ok, D.one, D.pt, D.pt1, D.pt0, D.norm1, D.norm, cond_true, cond_false, true_and, and_true, and_self, Bool.true_and, Bool.and_true, Bool.false_and, Bool.and_false, Bool.not_true, Bool.not_false, Bool.true_or, Bool.false_or, Bool.or_true, Bool.or_false, List.getElem?_cons_zero, List.getElem?_cons_succ, List.getElem?_nil, List.length_cons, List.length_nil, List.length_map, List.length_append, List.length_set, List.length_take, List.length_drop, List.length_replicate, List.take_succ_cons, List.take_zero, List.take_nil, List.drop_succ_cons, List.drop_zero, List.drop_nil, List.cons_append, List.nil_append, List.append_nil, List.map_cons, List.map_nil, List.all_cons, List.all_nil, List.set_cons_zero, List.set_cons_succ, List.isEmpty_cons, List.isEmpty_nil, List.forall_mem_cons, List.not_mem_nil, List.forall_mem_nil, false_imp_iff, implies_true, ne_eq, not_false_eq_true, Option.map_some, Option.map_none, Nat.zero_add, Nat.add_zero, Nat.sub_self, Int.toNat_natCast, Int.reduceToNat, Int.reduceLT, Int.reduceLE, Int.reduceEq, Int.reduceBEq, beq_self_eq_true, Int.reduceNeg, decide_true, decide_false, IntKind.bits, Nat.min_eq_left, Int.reducePow, Nat.reducePow, Int.fdiv_eq_ediv_of_nonneg, Nat.lt_irrefl, Int.le_refl, Nat.le_refl, Int.natCast_nonneg, Nat.lt_add_one, Nat.zero_lt_succ, fJ, dX, dW, du, cV, aQ, D.sc, D.sc1, D.sc2, dZ, ek, cr, dm, cm, bk, cn, aD, aC, gA, ct, c0, Go.Vi.freeze, Go.Vi.bu, bv, bv.captL, au, dk, gC, List.flatten_cons, List.flatten_nil, dv, fM, dl, fr, D.ren, D.renL, List.getD_cons_zero, List.getD_cons_succ, List.nodup_cons, List.nodup_nil, List.mem_cons, or_false, false_or, cI, cJ, cd, cC, bQ, bR, bP, eA, List.reverse_nil, Option.some.injEq, D.bool.injEq, D.int.injEq, D.str.injEq, D.agg.injEq, D.tup.injEq, D.list.injEq, D.ptr.injEq, D.own.injEq, List.cons.injEq, dB]))
 ·have h := CK (by simpa using hc)
  subst h
  simp only [gR]
  exact rnw [0] nR
 ·have h : (r8 l).isEmpty = false := by simpa using hc
  exact rnw [0] nR
theorem tH (l : List UInt8) (hl : l.length ≤ 1099511627776) : aA Tryz.prog 106 [.list none false (r8 l)] (.list none false (r8 l)) := by
 refine bl Tryz.func106 low106 (by simp [c106]) ?_
 simp only [c106]
 refine oS 0 rfl fun b hb => ?_
 repeat' ((first | refine dV ?_ | refine cY ?_ | refine ci ?_ | refine dS ?_ | refine cW rfl ?_ | refine fP ?_ | refine dT ?_ | refine cj ?_ | refine dU mixed ?_ | refine cX mixed ?_ | with_reducible refine bp ?_ | with_reducible refine bn ?_ | with_reducible refine bo ?_ | with_reducible refine da ?_ | with_reducible refine ck ?_ | simp (disch := omega) only [kL, il, iM, iL, lD, Int.tdiv_eq_ediv_of_nonneg, Int.tmod_eq_emod_of_nonneg] | (with_reducible refine bq rfl rfl ?_ ?_; (focus ((try simp only [Wr, co, gR, reduceIte, Int.natCast_nonneg, Int.le_refl, List.length_append, List.length_map, Nat.sub_zero]) <;> ((repeat' (with_reducible refine And.intro ?_ ?_)) <;> first | exact trivial | assumption | (simp; done) | (simp only [List.length_map] at *; omega) | omega | (simp [D.cells, D.ok, D.one, D.pt, D.pt1]; done) | exact gH)))) | (refine ax (fun hc => ?_) (fun hc => ?_) <;> (try simp only [hc]) <;> (try simp at hc)) | (refine aN (fun hc => ?_) (fun hc => ?_) <;> (try simp only [hc]) <;> (try simp at hc)) | (with_reducible refine And.intro ?_ ?_; (focus ((repeat' (with_reducible refine And.intro ?_ ?_)) <;> first | exact trivial | assumption | (simp; done) | (simp only [List.length_map] at *; omega) | omega | (simp [D.cells, D.ok, D.one, D.pt, D.pt1]; done) | exact gH))) | (with_reducible intro x hx) | omega) <;> (try simp only [Wr, co, gR, ft, eT, eQ, eP, eN, eS, eO, eI, eH, eF, eK, eM, eG, eL, eJ, eU, eV, fq, dN, dO, cL, dQ, dF, dE, fe, eY, gr, gw, dK, dP, eX, cO, fg, fh, ff, fk, gu, gt, cR, aX, aG, cf, dM, bL, bM, aW, aB, bN, eZ, cK, cS, aY, aH, aI, cQ, aF, aU, aw, aV, eW, dJ, bg, bZ, bY, bh, bf, bX, bW, aJ, bE, cy, cw, cx, cv, fc, cz, im, fu, cB, bO, dL, bF, aT, cM, aS, aE, aR, fm, cA, aM, aq, ao, am, dH, cD, cE, dI, cF, dG, bS, fv, dR, bU, bc, bT, ba, bV, be, D.names, D.namesL, aO, dg, aK, df, dh, aL, ay, cP, bK, bI, bG, bJ, bH, dD, dC, aZ, dj, di, cg, Nat.reduceBEq, cH, cG, iF, iE, dq, reduceIte, Nat.reduceEqDiff, Nat.reduceAdd, Nat.reduceSub, Nat.reduceMul, Nat.reduceLT, Nat.reduceLeDiff, reduceCtorEq, ia, em, eo, jA, dY, cT, kM, gf, kR, io, ky, gh, ip, gg, gi, iy, eu, ir, iu, iq, iv, kQ, kP, ee, dp, gb, fE, fN, splice, D.cells, D.ok, D.one, D.pt, D.pt1, D.pt0, D.norm1, D.norm, cond_true, cond_false, true_and, and_true, and_self, Bool.true_and, Bool.and_true, Bool.false_and, Bool.and_false, Bool.not_true, Bool.not_false, Bool.true_or, Bool.false_or, Bool.or_true, Bool.or_false, List.getElem?_cons_zero, List.getElem?_cons_succ, List.getElem?_nil, List.length_cons, List.length_nil, List.length_map, List.length_append, List.length_set, List.length_take, List.length_drop, List.length_replicate, List.take_succ_cons, List.take_zero, List.take_nil, List.drop_succ_cons, List.drop_zero, List.drop_nil, List.cons_append, List.nil_append, List.append_nil, List.map_cons, List.map_nil, List.all_cons, List.all_nil, List.set_cons_zero, List.set_cons_succ, List.isEmpty_cons, List.isEmpty_nil, List.forall_mem_cons, List.not_mem_nil, List.forall_mem_nil, false_imp_iff, implies_true, ne_eq, not_false_eq_true, Option.map_some, Option.map_none, Nat.zero_add, Nat.add_zero, Nat.sub_self, Int.toNat_natCast, Int.reduceToNat, Int.reduceLT, Int.reduceLE, Int.reduceEq, Int.reduceBEq, beq_self_eq_true, Int.reduceNeg, decide_true, decide_false, IntKind.bits, Nat.min_eq_left, Int.reducePow, Nat.reducePow, Int.fdiv_eq_ediv_of_nonneg, Nat.lt_irrefl, Int.le_refl, Nat.le_refl, Int.natCast_nonneg, Nat.lt_add_one, Nat.zero_lt_succ, fJ, dX, dW, du, cV, aQ, D.sc, D.sc1, D.sc2, dZ, ek, cr, dm, cm, bk, cn, aD, aC, gA, ct, c0, Go.Vi.freeze, Go.Vi.bu, bv, bv.captL, au, dk, gC, List.flatten_cons, List.flatten_nil, dv, fM, dl, fr, D.ren, D.renL, List.getD_cons_zero, List.getD_cons_succ, List.nodup_cons, List.nodup_nil, List.mem_cons, or_false, false_or, cI, cJ, cd, cC, bQ, bR, bP, eA, List.reverse_nil, Option.some.injEq, D.bool.injEq, D.int.injEq, D.str.injEq, D.agg.injEq, D.tup.injEq, D.list.injEq, D.ptr.injEq, D.own.injEq, List.cons.injEq, dB]))
 exact (hb hc).symm
theorem yG (l : List UInt8) (hl : l.length ≤ 1099511627776) : aa Tryz.prog 96 [.ptr 0 0 0 1] [Wr l.length, bw true 1 true (r8 l)] (.list none false (r8 l)) [Wr l.length, bw true 1 true (r8 l)] := by
 refine aP Tryz.func96 low96 (by simp [c96]) ?_
 simp only [c96]
 have uc1 := @vp
 refine wk [] [(106, [], [1])] nR ?_
 exact fH [0, 1] nR
def zz (n : Int) : Nat := if 0 ≤ n then (2 * n).toNat else (2 * (-(n + 1)) + 1).toNat
theorem qU {n : Int} (h1 : -9223372036854775808 ≤ n) (h2 : n ≤ 9223372036854775807) : zz n < 18446744073709551616 := by unfold zz; split <;> omega
theorem oh (n : Int) : IntKind.u64.wrap n = n % 18446744073709551616 := by
 unfold IntKind.wrap
 simp [IntKind.bits, IntKind.signed]
theorem xor0 (x : Int) (h1 : 0 ≤ x) (h2 : x ≤ 18446744073709551615) : jz .u64 x 0 = x := by
 have e : (BitVec.ofInt 64 x ^^^ BitVec.ofInt 64 0).toNat = x.toNat := by
  rw [show BitVec.ofInt 64 0 = 0#64 from rfl, BitVec.xor_zero, BitVec.toNat_ofInt]; omega
 have : jz .u64 x 0 = IntKind.u64.wrap ((BitVec.ofInt 64 x ^^^ BitVec.ofInt 64 0).toNat : Nat) := rfl
 rw [this, e, il (by omega) (by omega)]; omega
theorem xor1 (x : Int) (h1 : 0 ≤ x) (h2 : x ≤ 18446744073709551615) : jz .u64 x 18446744073709551615 = 18446744073709551615 - x := by
 have e : (BitVec.ofInt 64 x ^^^ BitVec.ofInt 64 18446744073709551615).toNat = 18446744073709551615 - x.toNat := by
  rw [show BitVec.ofInt 64 18446744073709551615 = BitVec.allOnes 64 from rfl, BitVec.xor_allOnes, BitVec.toNat_not, BitVec.toNat_ofInt]; omega
 have : jz .u64 x 18446744073709551615 = IntKind.u64.wrap ((BitVec.ofInt 64 x ^^^ BitVec.ofInt 64 18446744073709551615).toNat : Nat) := rfl
 rw [this, e, il (by omega) (by omega)]; omega
theorem Ax {n : Int} (h1 : -9223372036854775808 ≤ n) (h2 : n ≤ 9223372036854775807) : jz .u64 (IntKind.u64.wrap (IntKind.u64.wrap n * 2)) (IntKind.u64.wrap (n / 9223372036854775808)) = zz n := by
 by_cases h : 0 ≤ n
 ·have e : n / 9223372036854775808 = 0 := by omega
  rw [e, oh 0, oh n, oh, show (0 : Int) % 18446744073709551616 = 0 from rfl, xor0 _ (by omega) (by omega)]
  unfold zz; rw [if_pos h]; omega
 ·have e : n / 9223372036854775808 = -1 := by omega
  rw [e, oh (-1), oh n, oh, show (-1 : Int) % 18446744073709551616 = 18446744073709551615 from rfl, xor1 _ (by omega) (by omega)]
  unfold zz; rw [if_neg h]; omega
theorem sX (l : List UInt8) (n : Int) (h1 : -9223372036854775808 ≤ n) (h2 : n ≤ 9223372036854775807) (hl : l.length ≤ 1099511627776) :
  aa Tryz.prog 148 [.ptr 0 0 0 1, .int .i64 n] [Wr l.length, bw true 1 true (r8 l)] (.tup []) [Wr (l ++ ez (zz n)).length, bw true 1 true (r8 (l ++ ez (zz n)))] := by
 refine aP Tryz.func148 low148 (by simp [c148]) ?_
 simp only [c148]
 repeat' ((first | refine dV ?_ | refine cY ?_ | refine ci ?_ | refine dS ?_ | refine cW rfl ?_ | refine fP ?_ | refine dT ?_ | refine cj ?_ | refine dU mixed ?_ | refine cX mixed ?_ | with_reducible refine bp ?_ | with_reducible refine bn ?_ | with_reducible refine bo ?_ | with_reducible refine iJ (f := .c (.fn 134 [])) (z := []) (q := [0, 1]) ?_ | with_reducible refine hZ (f := .c (.fn 134 [])) (z := []) (q := [0, 1]) ?_ | with_reducible refine da ?_ | with_reducible refine ck ?_ | with_reducible refine db (kt _ _ _ (Ax h1 h2) (qU h1 h2) (by omega)) (by simp) ?_ | simp (disch := omega) only [kL, il, iM, iL, lD, Int.tdiv_eq_ediv_of_nonneg, Int.tmod_eq_emod_of_nonneg] | (with_reducible refine bq rfl rfl ?_ ?_; (focus ((try simp only [Wr, co, gR, reduceIte, Int.natCast_nonneg, Int.le_refl, List.length_append, List.length_map, Nat.sub_zero]) <;> ((repeat' (with_reducible refine And.intro ?_ ?_)) <;> first | exact trivial | assumption | (simp; done) | (simp only [List.length_map] at *; omega) | omega | (simp [D.cells, D.ok, D.one, D.pt, D.pt1]; done) | exact gH)))) | (refine ax (fun hc => ?_) (fun hc => ?_) <;> (try simp only [hc]) <;> (try simp at hc)) | (refine aN (fun hc => ?_) (fun hc => ?_) <;> (try simp only [hc]) <;> (try simp at hc)) | (with_reducible refine And.intro ?_ ?_; (focus ((repeat' (with_reducible refine And.intro ?_ ?_)) <;> first | exact trivial | assumption | (simp; done) | (simp only [List.length_map] at *; omega) | omega | (simp [D.cells, D.ok, D.one, D.pt, D.pt1]; done) | exact gH))) | (with_reducible intro x hx) | omega) <;> (try simp only [Wr, co, gR, ft, eT, eQ, eP, eN, eS, eO, eI, eH, eF, eK, eM, eG, eL, eJ, eU, eV, fq, dN, dO, cL, dQ, dF, dE, fe, eY, gr, gw, dK, dP, eX, cO, fg, fh, ff, fk, gu, gt, cR, aX, aG, cf, dM, bL, bM, aW, aB, bN, eZ, cK, cS, aY, aH, aI, cQ, aF, aU, aw, aV, eW, dJ, bg, bZ, bY, bh, bf, bX, bW, aJ, bE, cy, cw, cx, cv, fc, cz, im, fu, cB, bO, dL, bF, aT, cM, aS, aE, aR, fm, cA, aM, aq, ao, am, dH, cD, cE, dI, cF, dG, bS, fv, dR, bU, bc, bT, ba, bV, be, D.names, D.namesL, aO, dg, aK, df, dh, aL, ay, cP, bK, bI, bG, bJ, bH, dD, dC, aZ, dj, di, cg, Nat.reduceBEq, cH, cG, iF, iE, dq, reduceIte, Nat.reduceEqDiff, Nat.reduceAdd, Nat.reduceSub, Nat.reduceMul, Nat.reduceLT, Nat.reduceLeDiff, reduceCtorEq, ia, em, eo, jA, dY, cT, kM, gf, kR, io, ky, gh, ip, gg, gi, iy, eu, ir, iu, iq, iv, kQ, kP, ee, dp, gb, fE, fN, splice, D.cells, D.ok, D.one, D.pt, D.pt1, D.pt0, D.norm1, D.norm, cond_true, cond_false, true_and, and_true, and_self, Bool.true_and, Bool.and_true, Bool.false_and, Bool.and_false, Bool.not_true, Bool.not_false, Bool.true_or, Bool.false_or, Bool.or_true, Bool.or_false, List.getElem?_cons_zero, List.getElem?_cons_succ, List.getElem?_nil, List.length_cons, List.length_nil, List.length_map, List.length_append, List.length_set, List.length_take, List.length_drop, List.length_replicate, List.take_succ_cons, List.take_zero, List.take_nil, List.drop_succ_cons, List.drop_zero, List.drop_nil, List.cons_append, List.nil_append, List.append_nil, List.map_cons, List.map_nil, List.all_cons, List.all_nil, List.set_cons_zero, List.set_cons_succ, List.isEmpty_cons, List.isEmpty_nil, List.forall_mem_cons, List.not_mem_nil, List.forall_mem_nil, false_imp_iff, implies_true, ne_eq, not_false_eq_true, Option.map_some, Option.map_none, Nat.zero_add, Nat.add_zero, Nat.sub_self, Int.toNat_natCast, Int.reduceToNat, Int.reduceLT, Int.reduceLE, Int.reduceEq, Int.reduceBEq, beq_self_eq_true, Int.reduceNeg, decide_true, decide_false, IntKind.bits, Nat.min_eq_left, Int.reducePow, Nat.reducePow, Int.fdiv_eq_ediv_of_nonneg, Nat.lt_irrefl, Int.le_refl, Nat.le_refl, Int.natCast_nonneg, Nat.lt_add_one, Nat.zero_lt_succ, fJ, dX, dW, du, cV, aQ, D.sc, D.sc1, D.sc2, dZ, ek, cr, dm, cm, bk, cn, aD, aC, gA, ct, c0, Go.Vi.freeze, Go.Vi.bu, bv, bv.captL, au, dk, gC, List.flatten_cons, List.flatten_nil, dv, fM, dl, fr, D.ren, D.renL, List.getD_cons_zero, List.getD_cons_succ, List.nodup_cons, List.nodup_nil, List.mem_cons, or_false, false_or, cI, cJ, cd, cC, bQ, bR, bP, eA, List.reverse_nil, Option.some.injEq, D.bool.injEq, D.int.injEq, D.str.injEq, D.agg.injEq, D.tup.injEq, D.list.injEq, D.ptr.injEq, D.own.injEq, List.cons.injEq, dB]))
 refine sg [0, 1] (by rfl) (by simp) (by simp [Wr, co, gR, i3, pU, uL, Ob.mk.injEq, true_or, or_true, imp_self, List.reverse_nil, dj, di, cg, aO, dg, aK, df, dh, aL, ay, D.pt, D.pt1, D.pt0, D.norm1, D.norm, D.one, aq, ao, am, aM, dZ, ek, cr, dm, cm, bk, cn, aD, aC, gA, ct, c0, Go.Vi.freeze, Go.Vi.bu, bv, bv.captL, au, dk, gC, List.flatten_cons, List.flatten_nil, dv, fM, dl, fr, D.ren, D.renL, List.getD_cons_zero, List.getD_cons_succ, List.nodup_cons, List.nodup_nil, List.mem_cons, or_false, false_or, fJ, dX, dW, du, cV, aQ, D.sc, D.sc1, D.sc2])
theorem Cq (l : List UInt8) (b : Bool) (hl : l.length ≤ 1099511627776) :
  aa Tryz.prog 176 [.ptr 0 0 0 1, .bool b] [Wr l.length, bw true 1 true (r8 l)] (.tup []) [Wr (l ++ [if b then 1 else 0]).length, bw true 1 true (r8 (l ++ [if b then 1 else 0]))] := by
 refine aP Tryz.func176 low176 (by simp [c176]) ?_
 simp only [c176]
 repeat' ((first | refine dV ?_ | refine cY ?_ | refine ci ?_ | refine dS ?_ | refine cW rfl ?_ | refine fP ?_ | refine dT ?_ | refine cj ?_ | refine dU mixed ?_ | refine cX mixed ?_ | with_reducible refine bp ?_ | with_reducible refine bn ?_ | with_reducible refine bo ?_ | with_reducible refine iJ (f := .c (.fn 134 [])) (z := []) (q := [0, 1]) ?_ | with_reducible refine hZ (f := .c (.fn 134 [])) (z := []) (q := [0, 1]) ?_ | with_reducible refine da ?_ | with_reducible refine ck ?_ | with_reducible refine db (kt _ 1 1 rfl (by omega) (by omega)) (by simp) ?_ | with_reducible refine db (kt _ 0 0 rfl (by omega) (by omega)) (by simp) ?_ | simp (disch := omega) only [kL, il, iM, iL, lD, Int.tdiv_eq_ediv_of_nonneg, Int.tmod_eq_emod_of_nonneg] | (with_reducible refine bq rfl rfl ?_ ?_; (focus ((try simp only [Wr, co, gR, reduceIte, Int.natCast_nonneg, Int.le_refl, List.length_append, List.length_map, Nat.sub_zero]) <;> ((repeat' (with_reducible refine And.intro ?_ ?_)) <;> first | exact trivial | assumption | (simp; done) | (simp only [List.length_map] at *; omega) | omega | (simp [D.cells, D.ok, D.one, D.pt, D.pt1]; done) | exact gH)))) | (refine ax (fun hc => ?_) (fun hc => ?_) <;> (try simp only [hc]) <;> (try simp at hc)) | (refine aN (fun hc => ?_) (fun hc => ?_) <;> (try simp only [hc]) <;> (try simp at hc)) | (with_reducible refine And.intro ?_ ?_; (focus ((repeat' (with_reducible refine And.intro ?_ ?_)) <;> first | exact trivial | assumption | (simp; done) | (simp only [List.length_map] at *; omega) | omega | (simp [D.cells, D.ok, D.one, D.pt, D.pt1]; done) | exact gH))) | (with_reducible intro x hx) | omega) <;> (try simp only [Wr, co, gR, ft, eT, eQ, eP, eN, eS, eO, eI, eH, eF, eK, eM, eG, eL, eJ, eU, eV, fq, dN, dO, cL, dQ, dF, dE, fe, eY, gr, gw, dK, dP, eX, cO, fg, fh, ff, fk, gu, gt, cR, aX, aG, cf, dM, bL, bM, aW, aB, bN, eZ, cK, cS, aY, aH, aI, cQ, aF, aU, aw, aV, eW, dJ, bg, bZ, bY, bh, bf, bX, bW, aJ, bE, cy, cw, cx, cv, fc, cz, im, fu, cB, bO, dL, bF, aT, cM, aS, aE, aR, fm, cA, aM, aq, ao, am, dH, cD, cE, dI, cF, dG, bS, fv, dR, bU, bc, bT, ba, bV, be, D.names, D.namesL, aO, dg, aK, df, dh, aL, ay, cP, bK, bI, bG, bJ, bH, dD, dC, aZ, dj, di, cg, Nat.reduceBEq, cH, cG, iF, iE, dq, reduceIte, Nat.reduceEqDiff, Nat.reduceAdd, Nat.reduceSub, Nat.reduceMul, Nat.reduceLT, Nat.reduceLeDiff, reduceCtorEq, ia, em, eo, jA, dY, cT, kM, gf, kR, io, ky, gh, ip, gg, gi, iy, eu, ir, iu, iq, iv, kQ, kP, ee, dp, gb, fE, fN, splice, D.cells, D.ok, D.one, D.pt, D.pt1, D.pt0, D.norm1, D.norm, cond_true, cond_false, true_and, and_true, and_self, Bool.true_and, Bool.and_true, Bool.false_and, Bool.and_false, Bool.not_true, Bool.not_false, Bool.true_or, Bool.false_or, Bool.or_true, Bool.or_false, List.getElem?_cons_zero, List.getElem?_cons_succ, List.getElem?_nil, List.length_cons, List.length_nil, List.length_map, List.length_append, List.length_set, List.length_take, List.length_drop, List.length_replicate, List.take_succ_cons, List.take_zero, List.take_nil, List.drop_succ_cons, List.drop_zero, List.drop_nil, List.cons_append, List.nil_append, List.append_nil, List.map_cons, List.map_nil, List.all_cons, List.all_nil, List.set_cons_zero, List.set_cons_succ, List.isEmpty_cons, List.isEmpty_nil, List.forall_mem_cons, List.not_mem_nil, List.forall_mem_nil, false_imp_iff, implies_true, ne_eq, not_false_eq_true, Option.map_some, Option.map_none, Nat.zero_add, Nat.add_zero, Nat.sub_self, Int.toNat_natCast, Int.reduceToNat, Int.reduceLT, Int.reduceLE, Int.reduceEq, Int.reduceBEq, beq_self_eq_true, Int.reduceNeg, decide_true, decide_false, IntKind.bits, Nat.min_eq_left, Int.reducePow, Nat.reducePow, Int.fdiv_eq_ediv_of_nonneg, Nat.lt_irrefl, Int.le_refl, Nat.le_refl, Int.natCast_nonneg, Nat.lt_add_one, Nat.zero_lt_succ, fJ, dX, dW, du, cV, aQ, D.sc, D.sc1, D.sc2, dZ, ek, cr, dm, cm, bk, cn, aD, aC, gA, ct, c0, Go.Vi.freeze, Go.Vi.bu, bv, bv.captL, au, dk, gC, List.flatten_cons, List.flatten_nil, dv, fM, dl, fr, D.ren, D.renL, List.getD_cons_zero, List.getD_cons_succ, List.nodup_cons, List.nodup_nil, List.mem_cons, or_false, false_or, cI, cJ, cd, cC, bQ, bR, bP, eA, List.reverse_nil, Option.some.injEq, D.bool.injEq, D.int.injEq, D.str.injEq, D.agg.injEq, D.tup.injEq, D.list.injEq, D.ptr.injEq, D.own.injEq, List.cons.injEq, dB]))
 ·simp only [jn (show 1 < 128 by decide)]
  exact fH [0, 1] nR
 ·simp only [jn (show 0 < 128 by decide)]
  exact fH [0, 1] nR
end Go.Proofs.YtapennlmboabeaaGreat

namespace Go.Proofs.YtapennlmboabeaaGreat
open Go Go.Vi
abbrev Rd (l : List UInt8) (bad : Bool) : Ob := ⟨true, false, true, false, 2, [[.list none false (r8 l), .bool bad]], some 0⟩
theorem qj : type_of% (an @Wr.eq_1 (an @Rd.eq_1 (an @co @gR))) := (an @Wr.eq_1 (an @Rd.eq_1 (an @co @gR)))
theorem sI (nl : Option Bool) (tg : Bool) (l : List UInt8) (hl : l.length ≤ 1099511627776) : aa Tryz.prog 59 [.list nl tg (r8 l)] [] (.ptr 0 0 0 1) [Rd l false] := by
 refine aP Tryz.func59 low59 (by simp [c59]) ?_
 simp only [c59]
 have uc1 := @tH
 refine wk [] [] qj ?_
 exact fH [0] qj
theorem iA (l : List UInt8) (b : Bool) : aA Tryz.prog 121 [.elt [.list none false (r8 l), .bool b] 0] (.bool b) := by
 refine bl Tryz.func121 low121 (by simp [c121]) ?_
 simp only [c121]
 exact dz [] [] qj
theorem end_p (l : List UInt8) (b : Bool) : aA Tryz.prog 107 [.elt [.list none false (r8 l), .bool b] 0] (.bool (!b && l.isEmpty)) := by
 refine bl Tryz.func107 low107 (by simp [c107]) ?_
 simp only [c107]
 have uc1 := @iA
 refine wk [] [] qj ?_
 cases l <;> simp
 omega
theorem jR (l : List UInt8) (b : Bool) : aa Tryz.prog 165 [.ptr 0 0 0 1] [Rd l b] (.int .u64 0) [Rd l true] := by
 refine aP Tryz.func165 low165 (by simp [c165]) ?_
 simp only [c165]
 refine wk [] [] qj ?_
 exact fH [0] qj
end Go.Proofs.YtapennlmboabeaaGreat

namespace Go.Proofs.YtapennlmboabeaaGreat
open Go Go.Vi
def jL (most : Nat) : List UInt8 → Nat → Nat → Nat × List UInt8 × Bool
 | [], _, _ => (0, [], true)
 | c :: cs, n, s => if 63 < s ∨ 18446744073709551616 ≤ c.toNat % 128 * 2 ^ s ∨ (c.toNat = 0 ∧ 0 < s) then (0, cs, true)
  else if c.toNat < 128 then (if most < n + c.toNat % 128 * 2 ^ s then (0, cs, true) else (n + c.toNat % 128 * 2 ^ s, cs, false))
  else jL most cs (n + c.toNat % 128 * 2 ^ s) (s + 7)
theorem wN (c : UInt8) : mg .u8 (c.toNat : Int) 127 = ((c.toNat % 128 : Nat) : Int) := by
 have key : ∀ x : Fin 256, mg .u8 ((x.1 : Nat) : Int) 127 = ((x.1 % 128 : Nat) : Int) := by decide +kernel
 exact key ⟨c.toNat, c.toNat_lt⟩
theorem Bv {x y : Nat} (hx : x < 18446744073709551616) (hy : y < 18446744073709551616) : nN .u64 (x : Int) (y : Int) = ((x ||| y : Nat) : Int) := by
 have e : (BitVec.ofInt 64 (x : Int) ||| BitVec.ofInt 64 (y : Int)).toNat = x ||| y := by
  rw [BitVec.toNat_or, BitVec.ofInt_natCast, BitVec.ofInt_natCast, BitVec.toNat_ofNat, BitVec.toNat_ofNat, Nat.mod_eq_of_lt hx, Nat.mod_eq_of_lt hy]
 have h1 : nN .u64 (x : Int) (y : Int) = IntKind.u64.wrap ((BitVec.ofInt 64 (x : Int) ||| BitVec.ofInt 64 (y : Int)).toNat : Nat) := rfl
 have := Nat.or_lt_two_pow (n := 64) hx hy
 rw [h1, e, il (by omega) (by omega)]
theorem A1 (x s : Nat) : IntKind.u64.wrap ((x : Int) * 2 ^ s) = ((x * 2 ^ s % 18446744073709551616 : Nat) : Int) := by
 rw [oh]
 rw [show ((x : Int) * 2 ^ s) = ((x * 2 ^ s : Nat) : Int) by simp]
 omega
theorem Cp {x s : Nat} (hs : s ≤ 63) : x * 2 ^ s % 18446744073709551616 / 2 ^ s = x ↔ x * 2 ^ s < 18446744073709551616 := by
 have e : 18446744073709551616 = 2 ^ s * 2 ^ (64 - s) := by rw [← Nat.pow_add, show s + (64 - s) = 64 by omega]
 have hp : 0 < 2 ^ s := Nat.two_pow_pos s
 rw [e, Nat.mul_comm x, Nat.mul_mod_mul_left, Nat.mul_div_cancel_left _ hp, Nat.mul_lt_mul_left hp]
 constructor
 ·intro h; rw [← h]; exact Nat.mod_lt _ (Nat.two_pow_pos _)
 ·exact Nat.mod_eq_of_lt
theorem AV {a s : Nat} : ((a : Nat) : Int).fdiv (2 ^ s) = ((a / 2 ^ s : Nat) : Int) := by
 rw [show ((2 : Int) ^ s) = ((2 ^ s : Nat) : Int) by simp, Int.fdiv_eq_ediv_of_nonneg _ (Int.natCast_nonneg _), Int.natCast_ediv]
theorem zi {n x s : Nat} (hn : n < 2 ^ s) (hx : x * 2 ^ s < 18446744073709551616) (hn' : n < 18446744073709551616) : nN .u64 (n : Int) ((x * 2 ^ s : Nat) : Int) = ((n + x * 2 ^ s : Nat) : Int) := by
 rw [Bv hn' hx]
 have := Nat.shiftLeft_add_eq_or_of_lt hn x
 rw [Nat.shiftLeft_eq] at this
 rw [Nat.or_comm, ← this, Nat.add_comm]
theorem vd {c : UInt8} {cs : List UInt8} : (r8 (c :: cs))[0]? = some [.int .u8 (c.toNat : Int)] := rfl
theorem oG {l : List UInt8} {k : Nat} : (r8 l).drop k = r8 (l.drop k) := by simp [r8]
theorem oH {l : List UInt8} {k : Nat} : (r8 l).take k = r8 (l.take k) := by simp [r8]
theorem ic : type_of% (an @Wr.eq_1 (an @Rd.eq_1 (an @co (an @vd (an @oG (an @oH (an @List.take_length.{0} (an @wN (an @A1 @AV))))))))) := (an @Wr.eq_1 (an @Rd.eq_1 (an @co (an @vd (an @oG (an @oH (an @List.take_length.{0} (an @wN (an @A1 @AV)))))))))
set_option maxHeartbeats 1000000 in
theorem xT (l : List UInt8) (m : Nat) (x : Int) (hx : x = m) (hl : l.length ≤ 1099511627776) : aa Tryz.prog 133 [.ptr 0 0 0 1, .int .u64 x] [Rd l false] (.int .u64 (jL m l 0 0).1) [Rd (jL m l 0 0).2.1 (jL m l 0 0).2.2] := by
 subst hx
 refine aP Tryz.func133 low133 (by simp [c133]) ?_
 simp only [c133]
 refine wk [] [] ic ?_
 refine av (ι := {p : List UInt8 × Nat × Nat // jL m p.1 p.2.1 p.2.2 = jL m l 0 0 ∧ p.2.1 < 2 ^ p.2.2 ∧ p.2.1 < 18446744073709551616 ∧ p.2.2 ≤ 70 ∧ p.1.length ≤ 1099511627776}) (fun i => ([(0, .ptr 0 0 0 1), (1, .int .u64 m), (5, .int .u64 i.1.2.1), (6, .int .i64 i.1.2.2)], [Rd i.1.1 false])) (fun i => i.1.1.length) ⟨(l, 0, 0), rfl, by simp, by simp, by simp, hl⟩ ?_ ?_
 ·exact fx [0] ic
 rintro ⟨⟨p, n, s⟩, hp, hn, hn', hs, hpl⟩ hk
 dsimp only at hp hn hn' hs hpl hk ⊢
 cases p with
 | nil =>
  have uc1 := @iA
  have uc2 := @jR
  refine wk [] [(165, [], [0])] ic ?_
  have e : jL m l 0 0 = (0, [], true) := by rw [← hp, jL]
  simp only [e]
  exact fH [0] ic
 | cons c cs =>
  by_cases h63 : 63 < s
  ·have e : jL m l 0 0 = (0, cs, true) := by rw [← hp, jL, if_pos (.inl h63)]
   have h1 : ((s : Int) > 63) = True := by simp; omega
   have uc1 := @iA
   have uc2 := @jR
   refine wk [] [(165, [], [0])] (an ic h1) ?_
   simp only [e]
   exact fH [0] ic
  have hm : min s 64 = s := by omega
  have h1 : ((s : Int) > 63) = False := by simp; omega
  have hsp : 0 < 2 ^ s := Nat.two_pow_pos s
  by_cases hbig : 18446744073709551616 ≤ c.toNat % 128 * 2 ^ s
  ·have e : jL m l 0 0 = (0, cs, true) := by rw [← hp, jL, if_pos (.inr (.inl hbig))]
   have h2 : (((c.toNat % 128 * 2 ^ s % 18446744073709551616 / 2 ^ s : Nat) : Int) != ((c.toNat % 128 : Nat) : Int)) = true := by
    have := mt (Cp (x := c.toNat % 128) (s := s) (by omega)).1 (by omega)
    simp only [bne_iff_ne, ne_eq, Int.natCast_inj]
    exact this
   have uc1 := @iA
   have uc2 := @jR
   refine wk [] [(165, [], [0])] (an ic (an h1 (an hm h2))) ?_
   simp only [e]
   exact fH [0] ic
  have hor := zi (x := c.toNat % 128) hn (by omega) hn'
  have h2 : (((c.toNat % 128 * 2 ^ s / 2 ^ s : Nat) : Int) != ((c.toNat % 128 : Nat) : Int)) = false := by
   rw [Nat.mul_div_cancel _ hsp]; simp
  have hnew : n + c.toNat % 128 * 2 ^ s < 2 ^ (s + 7) := by
   have e1 : 2 ^ (s + 7) = 128 * 2 ^ s := by rw [Nat.pow_add]; omega
   have e2 : c.toNat % 128 * 2 ^ s ≤ 127 * 2 ^ s := Nat.mul_le_mul_right _ (by omega)
   omega
  have hnew' : n + c.toNat % 128 * 2 ^ s < 18446744073709551616 := by
   have := Nat.or_lt_two_pow (n := 64) hn' (show c.toNat % 128 * 2 ^ s < 2 ^ 64 by omega)
   have e := Nat.shiftLeft_add_eq_or_of_lt hn (c.toNat % 128)
   rw [Nat.shiftLeft_eq] at e
   rw [Nat.or_comm, ← e] at this
   omega
  have hstep := hp
  rw [jL] at hstep
  generalize hv : c.toNat % 128 * 2 ^ s = v at *
  have hmod : v % 18446744073709551616 = v := Nat.mod_eq_of_lt (by omega)
  by_cases hz : c.toNat = 0 ∧ 0 < s
  ·have e : jL m l 0 0 = (0, cs, true) := by rw [← hstep, if_pos (.inr (.inr hz))]
   have h3 : ((c.toNat : Int) == 0) = true := by simp [hz.1]
   have h4 : ((s : Int) > 0) = True := by simp; omega
   have uc1 := @iA
   have uc2 := @jR
   refine wk [] [(165, [], [0])] (an ic (an h1 (an hm (an hv (an hmod (an h2 (an h3 h4))))))) ?_
   simp only [e]
   exact fH [0] ic
  have hno : ¬ (63 < s ∨ 18446744073709551616 ≤ v ∨ (c.toNat = 0 ∧ 0 < s)) := by omega
  rw [if_neg hno] at hstep
  have h0 : (((c.toNat : Int) == 0) = false ∧ True) ∨ (((c.toNat : Int) == 0) = true ∧ ((s : Int) > 0) = False) := by
   by_cases h : c.toNat = 0
   ·exact .inr ⟨by simp [h], by simp; omega⟩
   ·exact .inl ⟨by simp; omega, trivial⟩
  by_cases hcl : c.toNat < 128
  ·rw [if_pos hcl] at hstep
   have h6 : ((c.toNat : Int) < 128) = True := by simp; omega
   by_cases hmm : m < n + v
   ·rw [if_pos hmm] at hstep
    have h7 : (((n + v : Nat) : Int) > (m : Int)) = True := by simp; omega
    rcases h0 with ⟨h3, h4⟩ | ⟨h3, h4⟩
    ·have uc1 := @iA
     have uc2 := @jR
     refine wk [] [(165, [], [0])] (an ic (an h1 (an hm (an hv (an hmod (an h2 (an h3 (an h6 (an h7 hor))))))))) ?_
     simp only [← hstep]
     exact fH [0] ic
    ·have uc1 := @iA
     have uc2 := @jR
     refine wk [] [(165, [], [0])] (an ic (an h1 (an hm (an hv (an hmod (an h2 (an h3 (an h4 (an h6 (an h7 hor)))))))))) ?_
     simp only [← hstep]
     exact fH [0] ic
   ·rw [if_neg hmm] at hstep
    have h7 : (((n + v : Nat) : Int) > (m : Int)) = False := by simp; omega
    rcases h0 with ⟨h3, h4⟩ | ⟨h3, h4⟩
    ·have uc1 := @iA
     have uc2 := @jR
     refine wk [] [(165, [], [0])] (an ic (an h1 (an hm (an hv (an hmod (an h2 (an h3 (an h6 (an h7 hor))))))))) ?_
     simp only [← hstep]
     exact fH [0] ic
    ·have uc1 := @iA
     have uc2 := @jR
     refine wk [] [(165, [], [0])] (an ic (an h1 (an hm (an hv (an hmod (an h2 (an h3 (an h4 (an h6 (an h7 hor)))))))))) ?_
     simp only [← hstep]
     exact fH [0] ic
  ·rw [if_neg hcl] at hstep
   have h6 : ((c.toNat : Int) < 128) = False := by simp; omega
   rcases h0 with ⟨h3, h4⟩ | ⟨h3, h4⟩
   ·have uc1 := @iA
    have uc2 := @jR
    refine wk [] [(165, [], [0])] (an ic (an h1 (an hm (an hv (an hmod (an h2 (an h3 (an h6 hor)))))))) ?_
    refine hk ⟨(cs, n + v, s + 7), hstep, hnew, hnew', by dsimp only; omega, by dsimp only; simp at hpl; omega⟩ _ _ (by dsimp only; simp) ?_
    exact fx [0] ic
   ·have uc1 := @iA
    have uc2 := @jR
    refine wk [] [(165, [], [0])] (an ic (an h1 (an hm (an hv (an hmod (an h2 (an h3 (an h4 (an h6 hor))))))))) ?_
    refine hk ⟨(cs, n + v, s + 7), hstep, hnew, hnew', by dsimp only; omega, by dsimp only; simp at hpl; omega⟩ _ _ (by dsimp only; simp) ?_
    exact fx [0] ic
theorem vQ (l : List UInt8) (x : Int) : aa Tryz.prog 133 [.ptr 0 0 0 1, .int .u64 x] [Rd l true] (.int .u64 0) [Rd l true] := by
 refine aP Tryz.func133 low133 (by simp [c133]) ?_
 simp only [c133]
 refine wk [] [] ic ?_
 refine av (ι := Unit) (fun i => ([(0, .ptr 0 0 0 1)], [Rd l true])) (fun i => 0) () ?_ ?_
 ·exact fx [0] ic
 rintro ⟨⟩ hk
 dsimp only at hk ⊢
 have uc1 := @iA
 have uc2 := @jR
 refine wk [] [(165, [], [0])] ic ?_
 exact fH [0] ic
end Go.Proofs.YtapennlmboabeaaGreat

namespace Go.Proofs.YtapennlmboabeaaGreat
open Go Go.Vi
def bs (l : List UInt8) : ByteArray := ⟨l.toArray⟩
theorem AC {l : List UInt8} : (⟨l.toArray⟩ : ByteArray) = bs l := rfl
theorem uN {l : List UInt8} : (bs l).size = l.length := by simp [bs, ByteArray.size]
theorem sm (l : List UInt8) : bytesOf (r8 l) = some l := by
 induction l with
 | nil => rfl
 | cons c cs ih =>
  have : r8 (c :: cs) = [.int .u8 (c.toNat : Int)] :: r8 cs := rfl
  rw [this, bytesOf, ih]; simp
theorem and1 (v : Nat) (h : v < 18446744073709551616) : mg .u64 (v : Int) 1 = ((v % 2 : Nat) : Int) := by
 have e : (BitVec.ofInt 64 (v : Int) &&& BitVec.ofInt 64 1).toNat = v % 2 := by
  rw [BitVec.toNat_and, BitVec.ofInt_natCast, BitVec.toNat_ofNat, Nat.mod_eq_of_lt h, show (BitVec.ofInt 64 1).toNat = 1 from rfl, Nat.and_one_is_mod]
 have h1 : mg .u64 (v : Int) 1 = IntKind.u64.wrap ((BitVec.ofInt 64 (v : Int) &&& BitVec.ofInt 64 1).toNat : Nat) := rfl
 rw [h1, e, il (by omega) (by omega)]
def jC (v : Nat) : Int := if v % 2 = 0 then (v / 2 : Nat) else -((v / 2 : Nat) : Int) - 1
theorem vj (n : Int) : jC (zz n) = n := by
 unfold jC zz
 by_cases h : 0 ≤ n
 ·rw [if_pos h, if_pos (by omega)]; omega
 ·rw [if_neg h, if_neg (by omega)]; omega
theorem xorS0 (x : Nat) (h : x < 9223372036854775808) : jz .i64 (x : Int) 0 = x := by
 have e : (BitVec.ofInt 64 (x : Int) ^^^ BitVec.ofInt 64 0).toNat = x := by
  rw [show BitVec.ofInt 64 0 = 0#64 from rfl, BitVec.xor_zero, BitVec.ofInt_natCast, BitVec.toNat_ofNat]; omega
 have h1 : jz .i64 (x : Int) 0 = IntKind.i64.wrap ((BitVec.ofInt 64 (x : Int) ^^^ BitVec.ofInt 64 0).toNat : Nat) := rfl
 rw [h1, e, kL (by omega) (by omega)]
theorem xorS1 (x : Nat) (h : x < 9223372036854775808) : jz .i64 (x : Int) (-1) = -(x : Int) - 1 := by
 have e : (BitVec.ofInt 64 (x : Int) ^^^ BitVec.ofInt 64 (-1)).toNat = 18446744073709551615 - x := by
  rw [show BitVec.ofInt 64 (-1) = BitVec.allOnes 64 from rfl, BitVec.xor_allOnes, BitVec.toNat_not, BitVec.ofInt_natCast, BitVec.toNat_ofNat]; omega
 have h1 : jz .i64 (x : Int) (-1) = IntKind.i64.wrap ((BitVec.ofInt 64 (x : Int) ^^^ BitVec.ofInt 64 (-1)).toNat : Nat) := rfl
 rw [h1, e]
 unfold IntKind.wrap
 simp [IntKind.bits, IntKind.signed]
 omega
theorem wq {v : Nat} (h : v < 18446744073709551616) : jz .i64 (IntKind.i64.wrap ((v : Int) / 2)) (IntKind.i64.wrap (0 - IntKind.i64.wrap (mg .u64 v 1))) = jC v := by
 rw [and1 v h, kL (n := (v : Int) / 2) (by omega) (by omega), kL (n := ((v % 2 : Nat) : Int)) (by omega) (by omega), kL (by omega) (by omega)]
 rw [show (v : Int) / 2 = ((v / 2 : Nat) : Int) by omega]
 unfold jC
 by_cases h2 : v % 2 = 0
 ·rw [if_pos h2, h2]; exact xorS0 _ (by omega)
 ·rw [if_neg h2, show v % 2 = 1 by omega]; exact xorS1 _ (by omega)
theorem ve : ∀ (m : Nat) (l : List UInt8) (n s : Nat), m < 18446744073709551616 → (jL m l n s).1 < 18446744073709551616 ∧ (jL m l n s).2.1.length ≤ l.length ∧ (jL m l n s).1 ≤ m
 | m, [], n, s, hm => by simp [jL]
 | m, c :: cs, n, s, hm => by
  rw [jL]
  split
  ·simp
  ·split
   ·split
    ·simp
    ·simp; omega
   ·have := ve m cs (n + c.toNat % 128 * 2 ^ s) (s + 7) hm
    simp only [List.length_cons]; omega
end Go.Proofs.YtapennlmboabeaaGreat

namespace Go.Proofs.YtapennlmboabeaaGreat
open Go Go.Vi
theorem CL (m : Nat) (t : List UInt8) : ∀ (k n s : Nat), n < 2 ^ s → n + k * 2 ^ s < 18446744073709551616 → (s = 0 ∨ 0 < k) → n + k * 2 ^ s ≤ m → jL m (ez k ++ t) n s = (n + k * 2 ^ s, t, false) := by
 intro k
 induction k using Nat.strongRecOn with
 | _ k ih =>
  intro n s hn hb hz hm
  have hs : ¬ 63 < s := fun h => by
   have h1 : 0 < k := by omega
   have h2 : 2 ^ 64 ≤ 2 ^ s := Nat.pow_le_pow_right (by decide) (by omega)
   have h3 : 1 * 2 ^ s ≤ k * 2 ^ s := Nat.mul_le_mul_right _ h1
   omega
  have hp : 0 < 2 ^ s := Nat.two_pow_pos s
  by_cases h : k < 128
  ·rw [jn h, List.cons_append, List.nil_append, jL]
   have e1 : (UInt8.ofNat k).toNat = k := by simp; omega
   have e2 : k % 128 = k := Nat.mod_eq_of_lt h
   rw [e1, e2, if_neg (by omega), if_pos h, if_neg (by omega)]
  ·rw [ng (by omega), List.cons_append, jL]
   have e1 : (UInt8.ofNat (128 + k % 128)).toNat = 128 + k % 128 := by simp; omega
   have e2 : (128 + k % 128) % 128 = k % 128 := by omega
   have e3 : k % 128 * 2 ^ s ≤ k * 2 ^ s := Nat.mul_le_mul_right _ (Nat.mod_le _ _)
   have e4 : 2 ^ (s + 7) = 128 * 2 ^ s := by rw [Nat.pow_add]; omega
   have e5 : n + k % 128 * 2 ^ s + k / 128 * 2 ^ (s + 7) = n + k * 2 ^ s := by
    have e6 : k / 128 * (128 * 2 ^ s) = (k / 128 * 128) * 2 ^ s := by rw [Nat.mul_assoc]
    have e7 : k % 128 * 2 ^ s + (k / 128 * 128) * 2 ^ s = k * 2 ^ s := by rw [← Nat.add_mul]; congr 1; omega
    rw [e4, e6]; omega
   have e8 : k % 128 * 2 ^ s ≤ 127 * 2 ^ s := Nat.mul_le_mul_right _ (by omega)
   rw [e1, e2, if_neg (by omega), if_neg (by omega), ih (k / 128) (by omega) _ _ (by rw [e4]; omega) (by rw [e5]; exact hb) (.inr (by omega)) (by rw [e5]; exact hm), e5]
theorem mU (m k : Nat) (t : List UInt8) (hk : k < 18446744073709551616) (hm : k ≤ m) : jL m (ez k ++ t) 0 0 = (k, t, false) := by
 have := CL m t k 0 0 (by simp) (by simpa using hk) (.inl rfl) (by simpa using hm)
 simpa using this
end Go.Proofs.YtapennlmboabeaaGreat

namespace Go.Proofs.YtapennlmboabeaaGreat
open Go Go.Vi
abbrev Cw (w : Nat) (bad : Bool) : Ob := ⟨true, false, false, false, 3, [[.ptr w 0 0 1, .nilp, .bool bad]], some 0⟩
abbrev Ww (b k : Nat) : Ob := ⟨true, false, false, false, 1, [[.own b 0 k k 1 none]], some 0⟩
abbrev Va (sz : Nat) (R : List D) : Ob := ⟨true, false, true, false, sz, [R], some 0⟩
def uI (x : Int) : Nat := (x % 18446744073709551616).toNat
theorem md (x : Int) : uI x < 18446744073709551616 := by unfold uI; omega
theorem At (x : Int) : IntKind.u64.wrap x = ((uI x : Nat) : Int) := by
 rw [oh]; unfold uI; omega
theorem jx {x : Int} (h1 : 0 ≤ x) (h2 : x ≤ 18446744073709551615) : ((uI x : Nat) : Int) = x := by unfold uI; omega
abbrev iY (x : Int) : Prop := -9223372036854775808 ≤ x ∧ x ≤ 9223372036854775807
theorem fU : type_of% (an @Wr.eq_1 @co) := (an @Wr.eq_1 @co)
theorem gZ (l : List UInt8) (bad : Bool) (sz : Nat) (R : List D) (j most : Nat) (x : Int) (hR : R[j]? = some (.int .i64 x)) (hx : iY x) (hm : most < 18446744073709551616) (hl : l.length ≤ 1099511627776) :
  aa Tryz.prog 131 [.ptr 0 0 0 1, .ptr 3 0 j 1, .int .u64 most] [Cw 1 bad, Ww 2 l.length, bw true 1 true (r8 l), Va sz R] (.tup [])
   [Cw 1 (bad || decide (most < uI x)), Ww 2 (l ++ ez (uI x)).length, bw true 1 true (r8 (l ++ ez (uI x))), Va sz R] := by
 refine aP Tryz.func131 low131 (by simp [c131]) ?_
 simp only [c131]
 have hu := At x
 have hn := kt l (uI x) (uI x) rfl (md x) hl
 have h10 := ki (md x)
 unfold iY at hx
 cases bad
 ·simp only [Bool.false_or]
  by_cases hc : most < uI x
  ·have c1 : (((uI x : Nat) : Int) > ((most : Nat) : Int)) = True := by simp; omega
   rw [decide_eq_true hc]
   refine wk [134] [] (an fU (an hR (an hu c1))) ?_
   exact fH [0, 1, 2, 3] fU
  ·have c1 : (((uI x : Nat) : Int) > ((most : Nat) : Int)) = False := by simp; omega
   rw [decide_eq_false hc]
   refine wk [134] [] (an fU (an hR (an hu c1))) ?_
   exact fH [0, 1, 2, 3] fU
 ·simp only [Bool.true_or]
  refine wk [134] [] (an fU (an hR hu)) ?_
  exact fH [0, 1, 2, 3] fU
theorem pk (l : List UInt8) (bad : Bool) (sz : Nat) (R : List D) (j most : Nat) (x : Int) (hR : R[j]? = some (.int .u64 x)) (hx : 0 ≤ x ∧ x ≤ 18446744073709551615) (hm : most < 18446744073709551616) (hl : l.length ≤ 1099511627776) :
  aa Tryz.prog 95 [.ptr 0 0 0 1, .ptr 3 0 j 1, .int .u64 most] [Cw 1 bad, Ww 2 l.length, bw true 1 true (r8 l), Va sz R] (.tup [])
   [Cw 1 (bad || decide (most < uI x)), Ww 2 (l ++ ez (uI x)).length, bw true 1 true (r8 (l ++ ez (uI x))), Va sz R] := by
 refine aP Tryz.func95 low95 (by simp [c95]) ?_
 simp only [c95]
 have hu := jx hx.1 hx.2
 have hn := kt l (uI x) x hu.symm (md x) hl
 have h10 := ki (md x)
 cases bad
 ·simp only [Bool.false_or]
  by_cases hc : most < uI x
  ·have c1 : (x > ((most : Nat) : Int)) = True := by simp; omega
   rw [decide_eq_true hc]
   refine wk [134] [] (an fU (an hR c1)) ?_
   exact fH [0, 1, 2, 3] fU
  ·have c1 : (x > ((most : Nat) : Int)) = False := by simp; omega
   rw [decide_eq_false hc]
   refine wk [134] [] (an fU (an hR c1)) ?_
   exact fH [0, 1, 2, 3] fU
 ·simp only [Bool.true_or]
  refine wk [134] [] (an fU hR) ?_
  exact fH [0, 1, 2, 3] fU
theorem CF (l : List UInt8) (bad : Bool) (sz : Nat) (R : List D) (j most : Nat) (x : Int) (hR : R[j]? = some (.int .u32 x)) (hx : 0 ≤ x ∧ x ≤ 4294967295) (hm : most < 18446744073709551616) (hl : l.length ≤ 1099511627776) :
  aa Tryz.prog 132 [.ptr 0 0 0 1, .ptr 3 0 j 1, .int .u64 most] [Cw 1 bad, Ww 2 l.length, bw true 1 true (r8 l), Va sz R] (.tup [])
   [Cw 1 (bad || decide (most < uI x)), Ww 2 (l ++ ez (uI x)).length, bw true 1 true (r8 (l ++ ez (uI x))), Va sz R] := by
 refine aP Tryz.func132 low132 (by simp [c132]) ?_
 simp only [c132]
 have hu := jx hx.1 (by omega)
 have hn := kt l (uI x) x hu.symm (md x) hl
 have h10 := ki (md x)
 cases bad
 ·simp only [Bool.false_or]
  by_cases hc : most < uI x
  ·have c1 : (x > ((most : Nat) : Int)) = True := by simp; omega
   rw [decide_eq_true hc]
   refine wk [134] [] (an fU (an hR c1)) ?_
   exact fH [0, 1, 2, 3] fU
  ·have c1 : (x > ((most : Nat) : Int)) = False := by simp; omega
   rw [decide_eq_false hc]
   refine wk [134] [] (an fU (an hR c1)) ?_
   exact fH [0, 1, 2, 3] fU
 ·simp only [Bool.true_or]
  refine wk [134] [] (an fU hR) ?_
  exact fH [0, 1, 2, 3] fU
theorem rW (l : List UInt8) (bad : Bool) (sz : Nat) (R : List D) (j : Nat) (x lo hi : Int) (hR : R[j]? = some (.int .i64 x)) (hx : iY x) (hl : l.length ≤ 1099511627776) :
  aa Tryz.prog 170 [.ptr 0 0 0 1, .ptr 3 0 j 1, .int .i64 lo, .int .i64 hi] [Cw 1 bad, Ww 2 l.length, bw true 1 true (r8 l), Va sz R] (.tup [])
   [Cw 1 (bad || decide (x < lo ∨ hi < x)), Ww 2 (l ++ ez (zz x)).length, bw true 1 true (r8 (l ++ ez (zz x))), Va sz R] := by
 refine aP Tryz.func170 low170 (by simp [c170]) ?_
 simp only [c170]
 unfold iY at hx
 have hn := sX l x hx.1 hx.2 hl
 have h10 := ki (qU hx.1 hx.2)
 cases bad
 ·simp only [Bool.false_or]
  by_cases h1 : x < lo
  ·have c1 : (x < lo) = True := by simpa using h1
   rw [decide_eq_true (.inl h1)]
   refine wk [148] [] (an fU (an hR c1)) ?_
   exact fH [0, 1, 2, 3] fU
  ·have c1 : (x < lo) = False := by simpa using h1
   by_cases h2 : hi < x
   ·have c2 : (x > hi) = True := by simpa using h2
    rw [decide_eq_true (.inr h2)]
    refine wk [148] [] (an fU (an hR (an c1 c2))) ?_
    exact fH [0, 1, 2, 3] fU
   ·have c2 : (x > hi) = False := by simpa using h2
    rw [decide_eq_false (fun h => h.elim h1 h2)]
    refine wk [148] [] (an fU (an hR (an c1 c2))) ?_
    exact fH [0, 1, 2, 3] fU
 ·simp only [Bool.true_or]
  refine wk [148] [] (an fU hR) ?_
  exact fH [0, 1, 2, 3] fU
theorem CR (l : List UInt8) (bad : Bool) (sz : Nat) (R : List D) (j : Nat) (x lo hi : Int) (hR : R[j]? = some (.int .i64 x)) (hx : iY x) (hl : l.length ≤ 1099511627776) :
  aa Tryz.prog 120 [.ptr 0 0 0 1, .ptr 3 0 j 1, .int .i64 lo, .int .i64 hi] [Cw 1 bad, Ww 2 l.length, bw true 1 true (r8 l), Va sz R] (.tup [])
   [Cw 1 (bad || decide (x < lo ∨ hi < x)), Ww 2 (l ++ ez (zz x)).length, bw true 1 true (r8 (l ++ ez (zz x))), Va sz R] := by
 refine aP Tryz.func120 low120 (by simp [c120]) ?_
 simp only [c120]
 unfold iY at hx
 have hn := sX l x hx.1 hx.2 hl
 have h10 := ki (qU hx.1 hx.2)
 cases bad
 ·simp only [Bool.false_or]
  by_cases h1 : x < lo
  ·have c1 : (x < lo) = True := by simpa using h1
   rw [decide_eq_true (.inl h1)]
   refine wk [148] [] (an fU (an hR c1)) ?_
   exact fH [0, 1, 2, 3] fU
  ·have c1 : (x < lo) = False := by simpa using h1
   by_cases h2 : hi < x
   ·have c2 : (x > hi) = True := by simpa using h2
    rw [decide_eq_true (.inr h2)]
    refine wk [148] [] (an fU (an hR (an c1 c2))) ?_
    exact fH [0, 1, 2, 3] fU
   ·have c2 : (x > hi) = False := by simpa using h2
    rw [decide_eq_false (fun h => h.elim h1 h2)]
    refine wk [148] [] (an fU (an hR (an c1 c2))) ?_
    exact fH [0, 1, 2, 3] fU
 ·simp only [Bool.true_or]
  refine wk [148] [] (an fU hR) ?_
  exact fH [0, 1, 2, 3] fU
theorem kg (l : List UInt8) (bad : Bool) (sz : Nat) (R : List D) (j : Nat) (x : Int) (hR : R[j]? = some (.int .u32 x)) (hx : 0 ≤ x ∧ x ≤ 4294967295) (hl : l.length ≤ 1099511627776) :
  aa Tryz.prog 94 [.ptr 0 0 0 1, .ptr 3 0 j 1] [Cw 1 bad, Ww 2 l.length, bw true 1 true (r8 l), Va sz R] (.tup [])
   [Cw 1 bad, Ww 2 (l ++ ez (uI x)).length, bw true 1 true (r8 (l ++ ez (uI x))), Va sz R] := by
 refine aP Tryz.func94 low94 (by simp [c94]) ?_
 simp only [c94]
 have hn := CF l bad sz R j 4294967295 x hR hx (by omega) hl
 have e : decide (4294967295 < uI x) = false := by
  have := jx hx.1 (show x ≤ 18446744073709551615 by omega)
  rw [decide_eq_false_iff_not]; omega
 rw [e, Bool.or_false] at hn
 refine wk [132] [] fU ?_
 exact fH [0, 1, 2, 3] fU
theorem gJ (l : List UInt8) (bad : Bool) (sz : Nat) (R : List D) (j : Nat) (x : Int) (hR : R[j]? = some (.int .i64 x)) (hx : iY x) (hl : l.length ≤ 1099511627776) :
  aa Tryz.prog 87 [.ptr 0 0 0 1, .ptr 3 0 j 1] [Cw 1 bad, Ww 2 l.length, bw true 1 true (r8 l), Va sz R] (.tup [])
   [Cw 1 bad, Ww 2 (l ++ ez (zz x)).length, bw true 1 true (r8 (l ++ ez (zz x))), Va sz R] := by
 refine aP Tryz.func87 low87 (by simp [c87]) ?_
 simp only [c87]
 have hn := CR l bad sz R j x (-9223372036854775808) 9223372036854775807 hR hx hl
 have e : decide (x < -9223372036854775808 ∨ 9223372036854775807 < x) = false := by
  unfold iY at hx
  rw [decide_eq_false_iff_not]; omega
 rw [e, Bool.or_false] at hn
 refine wk [120] [] fU ?_
 exact fH [0, 1, 2, 3] fU
theorem wO (l : List UInt8) (bad : Bool) (sz : Nat) (R : List D) (j : Nat) (x : Int) (hR : R[j]? = some (.int .u64 x)) (hx : 0 ≤ x ∧ x ≤ 18446744073709551615) (hl : l.length ≤ 1099511627776) :
  aa Tryz.prog 95 [.ptr 0 0 0 1, .ptr 3 0 j 1, .int .u64 18446744073709551615] [Cw 1 bad, Ww 2 l.length, bw true 1 true (r8 l), Va sz R] (.tup [])
   [Cw 1 bad, Ww 2 (l ++ ez (uI x)).length, bw true 1 true (r8 (l ++ ez (uI x))), Va sz R] := by
 have hn := pk l bad sz R j 18446744073709551615 x hR hx (by omega) hl
 have e : decide (18446744073709551615 < uI x) = false := by
  have := md x
  rw [decide_eq_false_iff_not]; omega
 rw [e, Bool.or_false] at hn
 exact hn
def vA (b : Bool) : List UInt8 := [if b then 1 else 0]
theorem tL (l : List UInt8) (bad : Bool) (sz : Nat) (R : List D) (j : Nat) (x : Bool) (hR : R[j]? = some (.bool x)) (hl : l.length ≤ 1099511627776) :
  aa Tryz.prog 153 [.ptr 0 0 0 1, .ptr 3 0 j 1] [Cw 1 bad, Ww 2 l.length, bw true 1 true (r8 l), Va sz R] (.tup [])
   [Cw 1 bad, Ww 2 (l ++ vA x).length, bw true 1 true (r8 (l ++ vA x)), Va sz R] := by
 refine aP Tryz.func153 low153 (by simp [c153]) ?_
 simp only [c153]
 have hn := Cq l x hl
 unfold vA
 refine wk [176] [] (an fU hR) ?_
 exact fH [0, 1, 2, 3] fU
end Go.Proofs.YtapennlmboabeaaGreat

namespace Go.Proofs.YtapennlmboabeaaGreat
open Go Go.Vi
abbrev Cr (r : Nat) (bad : Bool) : Ob := ⟨true, false, false, false, 3, [[.nilp, .ptr r 0 0 1, .bool bad]], some 0⟩
def iH (most : Nat) (l : List UInt8) (rb : Bool) : Nat × List UInt8 × Bool := if rb = true then (0, l, true) else jL most l 0 0
theorem jX (m : Nat) (l : List UInt8) (rb : Bool) (hm : m < 18446744073709551616) : (iH m l rb).1 ≤ m ∧ (iH m l rb).2.1.length ≤ l.length := by
 unfold iH
 split
 ·simp
 ·have := ve m l 0 0 hm
  omega
theorem mV (l : List UInt8) (rb : Bool) (m : Nat) (x : Int) (hx : x = m) (hl : l.length ≤ 1099511627776) :
  aa Tryz.prog 133 [.ptr 0 0 0 1, .int .u64 x] [Rd l rb] (.int .u64 (iH m l rb).1) [Rd (iH m l rb).2.1 (iH m l rb).2.2] := by
 unfold iH
 cases rb
 ·exact xT l m x hx hl
 ·exact vQ l x
theorem gF : type_of% (an @Wr.eq_1 (an @Rd.eq_1 (an @co (an @gR (an @oH (an @oG (an @sm (an @List.take_length.{0} (an @AC @uN))))))))) := (an @Wr.eq_1 (an @Rd.eq_1 (an @co (an @gR (an @oH (an @oG (an @sm (an @List.take_length.{0} (an @AC @uN)))))))))
theorem vg (l : List UInt8) (rb : Bool) (hl : l.length ≤ 1099511627776) :
  aa Tryz.prog 147 [.ptr 0 0 0 1] [Rd l rb] (.int .i64 (jC (iH 18446744073709551615 l rb).1)) [Rd (iH 18446744073709551615 l rb).2.1 (iH 18446744073709551615 l rb).2.2] := by
 refine aP Tryz.func147 low147 (by simp [c147]) ?_
 simp only [c147]
 have hv := (jX 18446744073709551615 l rb (by decide)).1
 have hc := mV l rb 18446744073709551615 18446744073709551615 rfl hl
 generalize iH 18446744073709551615 l rb = r at hv hc
 obtain ⟨v, rest, bad⟩ := r
 dsimp only at hv hc ⊢
 rw [← wq (by omega)]
 refine wk [] [(133, [], [0])] gF ?_
 exact fH [0] gF
theorem zp (l : List UInt8) (rb : Bool) (hl : l.length ≤ 1099511627776) :
  aa Tryz.prog 175 [.ptr 0 0 0 1] [Rd l rb] (.bool (decide ((iH 1 l rb).1 = 1))) [Rd (iH 1 l rb).2.1 (iH 1 l rb).2.2] := by
 refine aP Tryz.func175 low175 (by simp [c175]) ?_
 simp only [c175]
 have hc := mV l rb 1 1 rfl hl
 generalize iH 1 l rb = r at hc
 obtain ⟨v, rest, bad⟩ := r
 dsimp only at hc ⊢
 have hb : ((v : Int) == 1) = decide (v = 1) := by
  rw [Bool.eq_iff_iff]; simp; omega
 refine wk [] [(133, [], [0])] (an gF hb) ?_
 exact fH [0] gF
theorem p9 {R : List D} {j : Nat} (h : j < R.length) (d : D) : R.take j ++ [d] ++ R.drop (j + 1) = R.set j d := by
 rw [List.set_eq_take_append_cons_drop, if_pos h]; simp
theorem hM (l : List UInt8) (rb cb : Bool) (sz : Nat) (R : List D) (j most : Nat) (hz : R.length = sz) (hj : j < sz) (hm : most < 9223372036854775808) (hl : l.length ≤ 1099511627776) :
  aa Tryz.prog 131 [.ptr 0 0 0 1, .ptr 2 0 j 1, .int .u64 most] [Cr 1 cb, Rd l rb, Va sz R] (.tup [])
   [Cr 1 cb, Rd (iH most l rb).2.1 (iH most l rb).2.2, Va sz (R.set j (.int .i64 (iH most l rb).1))] := by
 refine aP Tryz.func131 low131 (by simp [c131]) ?_
 simp only [c131]
 have hc := mV l rb most _ rfl hl
 have hlt := jX most l rb (by omega)
 generalize iH most l rb = r at hc hlt ⊢
 obtain ⟨v, rest, bad⟩ := r
 dsimp only at hc hlt ⊢
 have hs := p9 (show j < R.length by omega) (.int .i64 (v : Int))
 refine wk [133] [] (an gF hs) ?_
 exact fH [0, 1, 2] gF
theorem ml (l : List UInt8) (rb cb : Bool) (sz : Nat) (R : List D) (j most : Nat) (hz : R.length = sz) (hj : j < sz) (hm : most < 18446744073709551616) (hl : l.length ≤ 1099511627776) :
  aa Tryz.prog 95 [.ptr 0 0 0 1, .ptr 2 0 j 1, .int .u64 most] [Cr 1 cb, Rd l rb, Va sz R] (.tup [])
   [Cr 1 cb, Rd (iH most l rb).2.1 (iH most l rb).2.2, Va sz (R.set j (.int .u64 (iH most l rb).1))] := by
 refine aP Tryz.func95 low95 (by simp [c95]) ?_
 simp only [c95]
 have hc := mV l rb most _ rfl hl
 have hlt := jX most l rb (by omega)
 generalize iH most l rb = r at hc hlt ⊢
 obtain ⟨v, rest, bad⟩ := r
 dsimp only at hc hlt ⊢
 have hs := p9 (show j < R.length by omega) (.int .u64 (v : Int))
 refine wk [133] [] (an gF hs) ?_
 exact fH [0, 1, 2] gF
theorem CE (l : List UInt8) (rb cb : Bool) (sz : Nat) (R : List D) (j most : Nat) (hz : R.length = sz) (hj : j < sz) (hm : most < 4294967296) (hl : l.length ≤ 1099511627776) :
  aa Tryz.prog 132 [.ptr 0 0 0 1, .ptr 2 0 j 1, .int .u64 most] [Cr 1 cb, Rd l rb, Va sz R] (.tup [])
   [Cr 1 cb, Rd (iH most l rb).2.1 (iH most l rb).2.2, Va sz (R.set j (.int .u32 (iH most l rb).1))] := by
 refine aP Tryz.func132 low132 (by simp [c132]) ?_
 simp only [c132]
 have hc := mV l rb most _ rfl hl
 have hlt := jX most l rb (by omega)
 generalize iH most l rb = r at hc hlt ⊢
 obtain ⟨v, rest, bad⟩ := r
 dsimp only at hc hlt ⊢
 have hs := p9 (show j < R.length by omega) (.int .u32 (v : Int))
 refine wk [133] [] (an gF hs) ?_
 exact fH [0, 1, 2] gF
theorem rV (l : List UInt8) (rb cb : Bool) (sz : Nat) (R : List D) (j : Nat) (lo hi : Int) (hz : R.length = sz) (hj : j < sz) (hl : l.length ≤ 1099511627776) :
  aa Tryz.prog 170 [.ptr 0 0 0 1, .ptr 2 0 j 1, .int .i64 lo, .int .i64 hi] [Cr 1 cb, Rd l rb, Va sz R] (.tup [])
   [Cr 1 (cb || decide (jC (iH 18446744073709551615 l rb).1 < lo ∨ hi < jC (iH 18446744073709551615 l rb).1)), Rd (iH 18446744073709551615 l rb).2.1 (iH 18446744073709551615 l rb).2.2, Va sz (R.set j (.int .i64 (jC (iH 18446744073709551615 l rb).1)))] := by
 refine aP Tryz.func170 low170 (by simp [c170]) ?_
 simp only [c170]
 have hc := vg l rb hl
 have hlt := jX 18446744073709551615 l rb (by omega)
 have hv : iY (jC (iH 18446744073709551615 l rb).1) := by unfold iY jC; split <;> omega
 generalize iH 18446744073709551615 l rb = r at hc hlt hv ⊢
 obtain ⟨v, rest, bad⟩ := r
 dsimp only at hc hlt hv ⊢
 generalize jC v = x at hc hv ⊢
 unfold iY at hv
 have hs := p9 (show j < R.length by omega) (.int .i64 x)
 cases cb
 ·simp only [Bool.false_or]
  by_cases h1 : x < lo
  ·have c1 : (x < lo) = True := by simpa using h1
   rw [decide_eq_true (.inl h1)]
   refine wk [147] [] (an gF (an hs c1)) ?_
   exact fH [0, 1, 2] gF
  ·have c1 : (x < lo) = False := by simpa using h1
   by_cases h2 : hi < x
   ·have c2 : (x > hi) = True := by simpa using h2
    rw [decide_eq_true (.inr h2)]
    refine wk [147] [] (an gF (an hs (an c1 c2))) ?_
    exact fH [0, 1, 2] gF
   ·have c2 : (x > hi) = False := by simpa using h2
    rw [decide_eq_false (fun h => h.elim h1 h2)]
    refine wk [147] [] (an gF (an hs (an c1 c2))) ?_
    exact fH [0, 1, 2] gF
 ·simp only [Bool.true_or]
  refine wk [147] [] (an gF hs) ?_
  exact fH [0, 1, 2] gF
theorem CQ (l : List UInt8) (rb cb : Bool) (sz : Nat) (R : List D) (j : Nat) (lo hi : Int) (hz : R.length = sz) (hj : j < sz) (hl : l.length ≤ 1099511627776) :
  aa Tryz.prog 120 [.ptr 0 0 0 1, .ptr 2 0 j 1, .int .i64 lo, .int .i64 hi] [Cr 1 cb, Rd l rb, Va sz R] (.tup [])
   [Cr 1 (cb || decide (jC (iH 18446744073709551615 l rb).1 < lo ∨ hi < jC (iH 18446744073709551615 l rb).1)), Rd (iH 18446744073709551615 l rb).2.1 (iH 18446744073709551615 l rb).2.2, Va sz (R.set j (.int .i64 (jC (iH 18446744073709551615 l rb).1)))] := by
 refine aP Tryz.func120 low120 (by simp [c120]) ?_
 simp only [c120]
 have hc := vg l rb hl
 have hlt := jX 18446744073709551615 l rb (by omega)
 have hv : iY (jC (iH 18446744073709551615 l rb).1) := by unfold iY jC; split <;> omega
 generalize iH 18446744073709551615 l rb = r at hc hlt hv ⊢
 obtain ⟨v, rest, bad⟩ := r
 dsimp only at hc hlt hv ⊢
 generalize jC v = x at hc hv ⊢
 unfold iY at hv
 have hs := p9 (show j < R.length by omega) (.int .i64 x)
 cases cb
 ·simp only [Bool.false_or]
  by_cases h1 : x < lo
  ·have c1 : (x < lo) = True := by simpa using h1
   rw [decide_eq_true (.inl h1)]
   refine wk [147] [] (an gF (an hs c1)) ?_
   exact fH [0, 1, 2] gF
  ·have c1 : (x < lo) = False := by simpa using h1
   by_cases h2 : hi < x
   ·have c2 : (x > hi) = True := by simpa using h2
    rw [decide_eq_true (.inr h2)]
    refine wk [147] [] (an gF (an hs (an c1 c2))) ?_
    exact fH [0, 1, 2] gF
   ·have c2 : (x > hi) = False := by simpa using h2
    rw [decide_eq_false (fun h => h.elim h1 h2)]
    refine wk [147] [] (an gF (an hs (an c1 c2))) ?_
    exact fH [0, 1, 2] gF
 ·simp only [Bool.true_or]
  refine wk [147] [] (an gF hs) ?_
  exact fH [0, 1, 2] gF
theorem kf (l : List UInt8) (rb cb : Bool) (sz : Nat) (R : List D) (j : Nat) (hz : R.length = sz) (hj : j < sz) (hl : l.length ≤ 1099511627776) :
  aa Tryz.prog 94 [.ptr 0 0 0 1, .ptr 2 0 j 1] [Cr 1 cb, Rd l rb, Va sz R] (.tup [])
   [Cr 1 cb, Rd (iH 4294967295 l rb).2.1 (iH 4294967295 l rb).2.2, Va sz (R.set j (.int .u32 (iH 4294967295 l rb).1))] := by
 refine aP Tryz.func94 low94 (by simp [c94]) ?_
 simp only [c94]
 have hn := CE l rb cb sz R j 4294967295 hz hj (by omega) hl
 generalize iH 4294967295 l rb = r at hn ⊢
 refine wk [132] [] gF ?_
 exact fH [0, 1, 2] gF
theorem gU (l : List UInt8) (rb cb : Bool) (sz : Nat) (R : List D) (j : Nat) (hz : R.length = sz) (hj : j < sz) (hl : l.length ≤ 1099511627776) :
  aa Tryz.prog 87 [.ptr 0 0 0 1, .ptr 2 0 j 1] [Cr 1 cb, Rd l rb, Va sz R] (.tup [])
   [Cr 1 cb, Rd (iH 18446744073709551615 l rb).2.1 (iH 18446744073709551615 l rb).2.2, Va sz (R.set j (.int .i64 (jC (iH 18446744073709551615 l rb).1)))] := by
 refine aP Tryz.func87 low87 (by simp [c87]) ?_
 simp only [c87]
 have hn := CQ l rb cb sz R j (-9223372036854775808) 9223372036854775807 hz hj hl
 have hlt := jX 18446744073709551615 l rb (by omega)
 have e : decide (jC (iH 18446744073709551615 l rb).1 < -9223372036854775808 ∨ 9223372036854775807 < jC (iH 18446744073709551615 l rb).1) = false := by
  rw [decide_eq_false_iff_not]; unfold jC; split <;> omega
 rw [e, Bool.or_false] at hn
 generalize iH 18446744073709551615 l rb = r at hn ⊢
 refine wk [120] [] gF ?_
 exact fH [0, 1, 2] gF
theorem xe (l : List UInt8) (rb cb : Bool) (sz : Nat) (R : List D) (j : Nat) (hz : R.length = sz) (hj : j < sz) (hl : l.length ≤ 1099511627776) :
  aa Tryz.prog 153 [.ptr 0 0 0 1, .ptr 2 0 j 1] [Cr 1 cb, Rd l rb, Va sz R] (.tup [])
   [Cr 1 cb, Rd (iH 1 l rb).2.1 (iH 1 l rb).2.2, Va sz (R.set j (.bool (decide ((iH 1 l rb).1 = 1))))] := by
 refine aP Tryz.func153 low153 (by simp [c153]) ?_
 simp only [c153]
 have hn := zp l rb hl
 generalize iH 1 l rb = r at hn ⊢
 generalize decide (r.1 = 1) = b at hn ⊢
 have hs := p9 (show j < R.length by omega) (.bool b)
 refine wk [175] [] (an gF hs) ?_
 exact fH [0, 1, 2] gF
end Go.Proofs.YtapennlmboabeaaGreat
