import Derived.Test.YtapennlmboabeaaGreatYB
import Derived.Test.YtapennlmboabeaaGreatYA
import Derived.Test.YtapennlmboabeaaGreatVi33
import Derived.Test.YtapennlmboabeaaGreatVi24
set_option linter.unusedVariables false
set_option linter.unusedSimpArgs false
set_option linter.unnecessarySimpa false
namespace Go.Proofs.YtapennlmboabeaaGreat
open Go Go.Vi
theorem j7 {α : Type} {R : α → α → Prop} (tr : ∀ a b c, R a b → R b c → R a c) {l : List α} {i : Nat} {x y : α} (h : (l.take (i + 1)).Pairwise R) (hx : l[i]? = some x) (hy : l[i + 1]? = some y) (hxy : R x y) : (l.take (i + 1 + 1)).Pairwise R := by
 have e1 : l.take (i + 1 + 1) = l.take (i + 1) ++ [y] := by rw [List.take_add_one (i := i + 1), hy]; rfl
 have e2 : l.take (i + 1) = l.take i ++ [x] := by rw [List.take_add_one, hx]; rfl
 rw [e1, List.pairwise_append]
 refine ⟨h, by simp, fun a ha b hb => ?_⟩
 simp at hb; subst hb
 rw [e2] at ha h
 rcases List.mem_append.1 ha with h' | h'
 ·exact tr _ _ _ ((List.pairwise_append.1 h).2.2 a h' x (by simp)) hxy
 ·simp at h'; subst h'; exact hxy
theorem px {α : Type} {R : α → α → Prop} {l : List α} {i : Nat} {x y : α} (hx : l[i]? = some x) (hy : l[i + 1]? = some y) (hxy : ¬ R x y) : ¬ l.Pairwise R := fun h => by
 obtain ⟨h1, rfl⟩ := List.getElem?_eq_some_iff.1 hx
 obtain ⟨h2, rfl⟩ := List.getElem?_eq_some_iff.1 hy
 exact hxy (List.pairwise_iff_getElem.1 h i (i + 1) h1 h2 (Nat.lt_succ_self i))
theorem gx {α : Type} {f : α → Bool} {l : List α} {i : Nat} {x : α} (h : (l.take i).all f = true) (hx : l[i]? = some x) (hf : f x = true) : (l.take (i + 1)).all f = true := by
 rw [List.take_add_one, hx]
 simp only [List.all_append, h, Option.toList_some, List.all_cons, hf, List.all_nil, Bool.and_self]
theorem kd {α : Type} {f : α → Bool} {l : List α} {i : Nat} {x : α} (hx : l[i]? = some x) (hf : f x = false) : l.all f = false := by
 rw [List.all_eq_false]
 exact ⟨x, List.mem_of_getElem? hx, by simp [hf]⟩
def gj (n : Int) : Bool := decide (0 ≤ n ∧ n < 158310720)
theorem jh : type_of% (an @ab (an @ac (an @ae (an @ah (an @aj (an @ak @ai)))))) := (an @ab (an @ac (an @ae (an @ah (an @aj (an @ak @ai))))))
theorem rZ (n : Int) : aA Tryz.prog 75 [.int .i64 n] (.bool (gj n)) := by
 refine bl Tryz.func75 low75 (by simp [c75]) ?_
 simp only [c75]
 exact lC [] [] (an jh @gj.eq_1)
def jg (l : List Int) : Bool := decide (l.Pairwise fun a b => a < b)
def jw (l : List Int) : Bool := (l.all gj && jg l) && decide (l.length ≤ 50)
theorem rn (l : List Int) (hl : l.length ≤ 140737488351232) : aA Tryz.prog 78 [L (ar .i64 l)] (.bool (jw l)) := by
 refine bl Tryz.func78 low78 (by simp [c78]) ?_
 simp only [c78]
 refine wk [] [] jh ?_
 refine av (ι := {i : Nat // i ≤ l.length ∧ (l.take i).all gj = true ∧ (l.take i).Pairwise fun a b => a < b}) (fun i => ([(0, L (ar .i64 l)), (5, L (ar .i64 l)), (6, .int .i64 l.length), (7, .int .i64 i.1)], [])) (fun i => l.length - i.1) ⟨0, by simp⟩ ?_ ?_
 ·exact fx [] jh
 rintro ⟨i, hi, ha, hp⟩ hk
 dsimp only at hk ⊢
 by_cases hlt : i < l.length
 ·have c2 : ((i : Int) < (l.length : Int)) = True := by simp; omega
  obtain ⟨x, hx⟩ : ∃ x, l[i]? = some x := ⟨_, List.getElem?_eq_getElem hlt⟩
  have rx := eE (k := .i64) hx
  have st := rZ x
  by_cases hs : gj x = true
  ·rw [hs] at st
   cases i with
   | zero =>
    refine wk [] [] (an jh (an c2 rx)) ?_
    refine hk ⟨1, by omega, gx ha hx hs, by rw [List.take_add_one, hx]; simp⟩ _ _ (by dsimp only; omega) ?_
    dsimp only
    exact fx [] jh
   | succ i =>
    obtain ⟨y, hy⟩ : ∃ y, l[i]? = some y := ⟨_, List.getElem?_eq_getElem (by omega)⟩
    have ry := eE (k := .i64) hy
    have c7 : (((i + 1 : Nat) : Int) > 0) = True := by rw [eq_iff_iff]; exact ⟨fun _ => trivial, fun _ => by omega⟩
    have c8 : (((i + 1 : Nat) : Int) - 1) = (i : Int) := by omega
    by_cases hyx : y < x
    ·have c9 : (y ≥ x) = False := by simp; omega
     refine wk [] [] (an jh (an c2 (an c7 (an c8 (an c9 (an rx ry)))))) ?_
     refine hk ⟨i + 1 + 1, by omega, gx ha hx hs, j7 (R := fun a b : Int => a < b) (fun _ _ _ => Int.lt_trans) hp hy hx hyx⟩ _ _ (by dsimp only; omega) ?_
     dsimp only
     exact fx [] jh
    ·have c9 : (y ≥ x) = True := by simp; omega
     have e : jw l = false := by
      have : jg l = false := by simpa [jg] using px hy hx hyx
      simp [jw, this]
     rw [e]
     exact dz [] [] (an jh (an c2 (an c7 (an c8 (an c9 (an rx ry))))))
  ·have hs' : gj x = false := by simpa using hs
   rw [hs'] at st
   have e : jw l = false := by simp only [jw, kd hx hs', Bool.false_and]
   rw [e]
   exact dz [] [] (an jh (an c2 rx))
 ·have c2 : ((i : Int) < (l.length : Int)) = False := by simp; omega
  obtain rfl : i = l.length := by omega
  rw [List.take_length] at ha hp
  have hr : jg l = true := by simpa [jg] using hp
  exact lC [] [] (an jh (an c2 @jw.eq_1))
def lP (c : Int × Int × Int) : Bool := gj c.2.1 && decide (0 ≤ c.2.2 ∧ c.2.2 ≤ 10080)
def wC (l : List (Int × Int × Int)) : Bool := l.all lP && jw (l.map fun c => c.1)
theorem vo (l : List (Int × Int × Int)) (hl : l.length ≤ 14073748835123) : aA Tryz.prog 79 [L (ed l)] (.bool (wC l)) := by
 refine bl Tryz.func79 low79 (by simp [c79]) ?_
 simp only [c79]
 refine wk [] [] jh ?_
 refine gn (qV (t := 3) (b := true) 1 true (by decide) rfl) ?_
 refine av (ι := {i : Nat // i ≤ l.length ∧ (l.take i).all lP = true}) (fun i => ([(3, .own 0 0 i.1 i.1 1 none), (6, L (ed l)), (7, .int .i64 l.length), (8, .int .i64 i.1)], [bw true 1 true (ar .i64 ((l.take i.1).map fun c => c.1))])) (fun i => l.length - i.1) ⟨0, by simp⟩ ?_ ?_
 ·simp only [List.take_zero, List.map_nil, ar]
  exact fx [0] jh
 rintro ⟨i, hi, ha⟩ hk
 dsimp only at hk ⊢
 by_cases hlt : i < l.length
 ·have c2 : ((i : Int) < (l.length : Int)) = True := by simp; omega
  obtain ⟨x, hx⟩ : ∃ x, l[i]? = some x := ⟨_, List.getElem?_eq_getElem hlt⟩
  have rx := iK hx
  have st := rZ x.2.1
  by_cases hs : lP x = true
  ·have hs1 : gj x.2.1 = true := by simp only [lP, Bool.and_eq_true] at hs; exact hs.1
   have hs2 : 0 ≤ x.2.2 ∧ x.2.2 ≤ 10080 := by simpa [lP, hs1] using hs
   rw [hs1] at st
   have c3 : (x.2.2 < 0) = False := by simp; omega
   have c4 : (x.2.2 > 10080) = False := by simp; omega
   have e1 : ar .i64 ((l.take (i + 1)).map fun c => c.1) = ar .i64 ((l.take i).map fun c => c.1) ++ [[.int .i64 x.1]] := by
    rw [List.take_add_one, hx]; simp [ar]
   have e2 : (ar .i64 ((l.take i).map fun c => c.1)).length = i := by simp [ar]; omega
   generalize ar .i64 ((l.take i).map fun c => c.1) = R at e1 e2 ⊢
   refine wk [] [] (an jh (an c2 (an c3 (an c4 (an rx e2))))) ?_
   refine hk ⟨i + 1, by omega, gx ha hx hs⟩ _ _ (by dsimp only; omega) ?_
   dsimp only
   rw [e1]
   exact fx [0] jh
  ·have hs' : lP x = false := by simpa using hs
   have e : wC l = false := by simp only [wC, kd hx hs', Bool.false_and]
   rw [e]
   by_cases hs1 : gj x.2.1 = true
   ·rw [hs1] at st
    by_cases hs3 : x.2.2 < 0
    ·have c3 : (x.2.2 < 0) = True := by simp; omega
     exact dz [] [] (an jh (an c2 (an c3 rx)))
    ·have c3 : (x.2.2 < 0) = False := by simp; omega
     have c4 : (x.2.2 > 10080) = True := by
      simp [lP, hs1] at hs'
      simp; omega
     exact dz [] [] (an jh (an c2 (an c3 (an c4 rx))))
   ·have hs1' : gj x.2.1 = false := by simpa using hs1
    rw [hs1'] at st
    exact dz [] [] (an jh (an c2 rx))
 ·have c2 : ((i : Int) < (l.length : Int)) = False := by simp; omega
  obtain rfl : i = l.length := by omega
  rw [List.take_length] at ha ⊢
  have rp := rn (l.map fun c => c.1) (by simp; omega)
  have e1 : (ar .i64 (l.map fun c => c.1)).length = l.length := by simp [ar]
  have e : wC l = jw (l.map fun c => c.1) := by unfold wC; rw [ha, Bool.true_and]
  rw [e]
  generalize ar .i64 (l.map fun c => c.1) = R at rp e1 ⊢
  exact dz [] [] (an jh (an c2 e1))
end Go.Proofs.YtapennlmboabeaaGreat

namespace Go.Proofs.YtapennlmboabeaaGreat
open Go Go.Vi
theorem gp : type_of% (an @ab (an @ac (an @ae (an @ah (an @aj (an @ak @ai)))))) := (an @ab (an @ac (an @ae (an @ah (an @aj (an @ak @ai))))))
theorem up (a b : Int) : aA Tryz.prog 143 [.int .i64 a, .int .i64 b] (.bool (decide (a < b))) := by
 refine bl Tryz.func143 low143 (by simp [c143]) ?_
 simp only [c143]
 exact dz [] [] gp
def tm (a b : Int × Int) : Prop := a.1 < b.1 ∨ a.1 = b.1 ∧ a.2 < b.2
instance (a b : Int × Int) : Decidable (tm a b) := inferInstanceAs (Decidable (_ ∨ _))
theorem qy (a b c : Int × Int) (h : tm a b) (h' : tm b c) : tm a c := by unfold tm at *; omega
theorem vq (a b : Int × Int) : aA Tryz.prog 145 [.agg [.int .i64 a.1, .int .i64 a.2], .agg [.int .i64 b.1, .int .i64 b.2]] (.bool (decide (tm a b))) := by
 refine bl Tryz.func145 low145 (by simp [c145]) ?_
 simp only [c145]
 repeat' ((first | refine dV ?_ | refine cY ?_ | refine ci ?_ | refine dS ?_ | refine cW rfl ?_ | refine fP ?_ | refine dT ?_ | refine cj ?_ | refine dU mixed ?_ | refine cX mixed ?_ | with_reducible refine bp ?_ | with_reducible refine bn ?_ | with_reducible refine bo ?_ | with_reducible refine da ?_ | with_reducible refine ck ?_ | simp (disch := omega) only [kL, il, iM, iL, lD, Int.tdiv_eq_ediv_of_nonneg, Int.tmod_eq_emod_of_nonneg] | (with_reducible refine bq rfl rfl ?_ ?_; (focus ((try simp only [ab, ac, ae, ah, aj, ak, ai, reduceIte, Int.natCast_nonneg, Int.le_refl, List.length_append, List.length_map, Nat.sub_zero]) <;> ((repeat' (with_reducible refine And.intro ?_ ?_)) <;> first | exact trivial | assumption | (simp; done) | (simp only [List.length_map] at *; omega) | omega | (simp [D.cells, D.ok, D.one, D.pt, D.pt1]; done))))) | (refine ax (fun hc => ?_) (fun hc => ?_) <;> (try simp only [hc]) <;> (try simp at hc)) | (refine aN (fun hc => ?_) (fun hc => ?_) <;> (try simp only [hc]) <;> (try simp at hc)) | (with_reducible refine And.intro ?_ ?_; (focus ((repeat' (with_reducible refine And.intro ?_ ?_)) <;> first | exact trivial | assumption | (simp; done) | (simp only [List.length_map] at *; omega) | omega | (simp [D.cells, D.ok, D.one, D.pt, D.pt1]; done)))) | (with_reducible intro x hx) | omega) <;> (try simp only [ab, ac, ae, ah, aj, ak, ai, ft, eT, eQ, eP, eN, eS, eO, eI, eH, eF, eK, eM, eG, eL, eJ, eU, eV, fq, dN, dO, cL, dQ, dF, dE, fe, eY, gr, gw, dK, dP, eX, cO, fg, fh, ff, fk, gu, gt, cR, aX, aG, cf, dM, bL, bM, aW, aB, bN, eZ, cK, cS, aY, aH, aI, cQ, aF, aU, aw, aV, eW, dJ, bg, bZ, bY, bh, bf, bX, bW, aJ, bE, cy, cw, cx, cv, fc, cz, im, fu, cB, bO, dL, bF, aT, cM, aS, aE, aR, fm, cA, aM, aq, ao, am, dH, cD, cE, dI, cF, dG, bS, fv, dR, bU, bc, bT, ba, bV, be, D.names, D.namesL, aO, dg, aK, df, dh, aL, ay, cP, bK, bI, bG, bJ, bH, dD, dC, aZ, dj, di, cg, Nat.reduceBEq, cH, cG, iF, iE, dq, reduceIte, Nat.reduceEqDiff, Nat.reduceAdd, Nat.reduceSub, Nat.reduceMul, Nat.reduceLT, Nat.reduceLeDiff, reduceCtorEq, ia, em, eo, jA, dY, cT, kM, gf, kR, io, ky, gh, ip, gg, gi, iy, eu, ir, iu, iq, iv, kQ, kP, ee, dp, gb, fE, fN, splice, D.cells, D.ok, D.one, D.pt, D.pt1, D.pt0, D.norm1, D.norm, cond_true, cond_false, true_and, and_true, and_self, Bool.true_and, Bool.and_true, Bool.false_and, Bool.and_false, Bool.not_true, Bool.not_false, Bool.true_or, Bool.false_or, Bool.or_true, Bool.or_false, List.getElem?_cons_zero, List.getElem?_cons_succ, List.getElem?_nil, List.length_cons, List.length_nil, List.length_map, List.length_append, List.length_set, List.length_take, List.length_drop, List.length_replicate, List.take_succ_cons, List.take_zero, List.take_nil, List.drop_succ_cons, List.drop_zero, List.drop_nil, List.cons_append, List.nil_append, List.append_nil, List.map_cons, List.map_nil, List.all_cons, List.all_nil, List.set_cons_zero, List.set_cons_succ, List.isEmpty_cons, List.isEmpty_nil, List.forall_mem_cons, List.not_mem_nil, List.forall_mem_nil, false_imp_iff, implies_true, ne_eq, not_false_eq_true, Option.map_some, Option.map_none, Nat.zero_add, Nat.add_zero, Nat.sub_self, Int.toNat_natCast, Int.reduceToNat, Int.reduceLT, Int.reduceLE, Int.reduceEq, Int.reduceBEq, beq_self_eq_true, Int.reduceNeg, decide_true, decide_false, IntKind.bits, Nat.min_eq_left, Int.reducePow, Nat.reducePow, Int.fdiv_eq_ediv_of_nonneg, Nat.lt_irrefl, Int.le_refl, Nat.le_refl, Int.natCast_nonneg, Nat.lt_add_one, Nat.zero_lt_succ, fJ, dX, dW, du, cV, aQ, D.sc, D.sc1, D.sc2, dZ, ek, cr, dm, cm, bk, cn, aD, aC, gA, ct, c0, Go.Vi.freeze, Go.Vi.bu, bv, bv.captL, au, dk, gC, List.flatten_cons, List.flatten_nil, dv, fM, dl, fr, D.ren, D.renL, List.getD_cons_zero, List.getD_cons_succ, List.nodup_cons, List.nodup_nil, List.mem_cons, or_false, false_or, cI, cJ, cd, cC, bQ, bR, bP, eA, List.reverse_nil, Option.some.injEq, D.bool.injEq, D.int.injEq, D.str.injEq, D.agg.injEq, D.tup.injEq, D.list.injEq, D.ptr.injEq, D.own.injEq, List.cons.injEq, dB]))
 all_goals (rw [Bool.eq_iff_iff]; simp [tm, *]; try omega)
theorem CO (l : List Int) (hl : l.length ≤ 140737488351232) : aA Tryz.prog 142 [L (ar .i64 l), .fn 143 []] (.bool (jg l)) := by
 refine bl Tryz.func142 low142 (by simp [c142]) ?_
 simp only [c142]
 refine wk [] [] gp ?_
 refine av (ι := {i : Nat // (i + 1 ≤ l.length ∨ i = 0) ∧ (l.take (i + 1)).Pairwise fun a b => a < b}) (fun i => ([(0, L (ar .i64 l)), (1, .fn 143 []), (5, .int .i64 (i.1 + 1 : Nat))], [])) (fun i => l.length - i.1) ⟨0, .inr rfl, by cases l <;> simp⟩ ?_ ?_
 ·exact fx [] gp
 rintro ⟨i, hi, hp⟩ hk
 dsimp only at hk ⊢
 by_cases hlt : i + 1 < l.length
 ·have c2 : (((i + 1 : Nat) : Int) < (l.length : Int)) = True := by rw [eq_iff_iff]; exact ⟨fun _ => trivial, fun _ => by omega⟩
  obtain ⟨x, hx⟩ : ∃ x, l[i + 1]? = some x := ⟨_, List.getElem?_eq_getElem hlt⟩
  obtain ⟨y, hy⟩ : ∃ y, l[i]? = some y := ⟨_, List.getElem?_eq_getElem (by omega)⟩
  have rx := eE (k := .i64) hx
  have ry := eE (k := .i64) hy
  have c8 : (((i + 1 : Nat) : Int) - 1) = (i : Int) := by omega
  have rl := up y x
  by_cases hyx : y < x
  ·have c9 : decide (y < x) = true := by simpa using hyx
   rw [c9] at rl
   refine wk [] [] (an gp (an c2 (an c8 (an rx ry)))) ?_
   refine hk ⟨i + 1, .inl (by omega), j7 (R := fun a b : Int => a < b) (fun _ _ _ => Int.lt_trans) hp hy hx hyx⟩ _ _ (by dsimp only; omega) ?_
   dsimp only
   exact fx [] gp
  ·have c9 : decide (y < x) = false := by simpa using hyx
   rw [c9] at rl
   have e : jg l = false := by simpa [jg] using px hy hx hyx
   rw [e]
   exact dz [] [] (an gp (an c2 (an c8 (an rx ry))))
 ·have c2 : (((i + 1 : Nat) : Int) < (l.length : Int)) = False := by rw [eq_iff_iff]; exact ⟨fun _ => by omega, False.elim⟩
  rw [List.take_of_length_le (by omega)] at hp
  have e : jg l = true := by simpa [jg] using hp
  rw [e]
  exact dz [] [] (an gp c2)
def pY (l : List (Int × Int)) : Bool := decide (l.Pairwise tm)
theorem CN (l : List (Int × Int)) (hl : l.length ≤ 140737488351232) : aA Tryz.prog 144 [L (bz .i64 .i64 l), .fn 145 []] (.bool (pY l)) := by
 refine bl Tryz.func144 low144 (by simp [c144]) ?_
 simp only [c144]
 refine wk [] [] gp ?_
 refine av (ι := {i : Nat // (i + 1 ≤ l.length ∨ i = 0) ∧ (l.take (i + 1)).Pairwise tm}) (fun i => ([(0, L (bz .i64 .i64 l)), (1, .fn 145 []), (5, .int .i64 (i.1 + 1 : Nat))], [])) (fun i => l.length - i.1) ⟨0, .inr rfl, by cases l <;> simp⟩ ?_ ?_
 ·exact fx [] gp
 rintro ⟨i, hi, hp⟩ hk
 dsimp only at hk ⊢
 by_cases hlt : i + 1 < l.length
 ·have c2 : (((i + 1 : Nat) : Int) < (l.length : Int)) = True := by rw [eq_iff_iff]; exact ⟨fun _ => trivial, fun _ => by omega⟩
  obtain ⟨x, hx⟩ : ∃ x, l[i + 1]? = some x := ⟨_, List.getElem?_eq_getElem hlt⟩
  obtain ⟨y, hy⟩ : ∃ y, l[i]? = some y := ⟨_, List.getElem?_eq_getElem (by omega)⟩
  have rx := ew (k := .i64) (m := .i64) hx
  have ry := ew (k := .i64) (m := .i64) hy
  have c8 : (((i + 1 : Nat) : Int) - 1) = (i : Int) := by omega
  have rl := vq y x
  by_cases hyx : tm y x
  ·have c9 : decide (tm y x) = true := by simpa using hyx
   rw [c9] at rl
   refine wk [] [] (an gp (an c2 (an c8 (an rx ry)))) ?_
   refine hk ⟨i + 1, .inl (by omega), j7 qy hp hy hx hyx⟩ _ _ (by dsimp only; omega) ?_
   dsimp only
   exact fx [] gp
  ·have c9 : decide (tm y x) = false := by simpa using hyx
   rw [c9] at rl
   have e : pY l = false := by simpa [pY] using px hy hx hyx
   rw [e]
   exact dz [] [] (an gp (an c2 (an c8 (an rx ry))))
 ·have c2 : (((i + 1 : Nat) : Int) < (l.length : Int)) = False := by rw [eq_iff_iff]; exact ⟨fun _ => by omega, False.elim⟩
  rw [List.take_of_length_le (by omega)] at hp
  have e : pY l = true := by simpa [pY] using hp
  rw [e]
  exact dz [] [] (an gp c2)
def pj (most : Int) (below : Bool) (n : Int) : Bool := decide (n ≠ 0 ∧ n ≤ most ∧ -most ≤ n) && (below || decide (0 ≤ n))
def iT (most : Int) (below : Bool) (l : List Int) : Bool := l.all (pj most below) && jg l
theorem nI (l : List Int) (most : Int) (below : Bool) (hm : 0 ≤ most) (hm' : most ≤ 1000) (hl : l.length ≤ 140737488351232) : aA Tryz.prog 115 [L (ar .i64 l), .int .i64 most, .bool below] (.bool (iT most below l)) := by
 refine bl Tryz.func115 low115 (by simp [c115]) ?_
 simp only [c115]
 refine wk [] [] gp ?_
 refine av (ι := {i : Nat // i ≤ l.length ∧ (l.take i).all (pj most below) = true}) (fun i => ([(0, L (ar .i64 l)), (1, .int .i64 most), (2, .bool below), (9, L (ar .i64 l)), (10, .int .i64 l.length), (11, .int .i64 i.1)], [])) (fun i => l.length - i.1) ⟨0, by simp⟩ ?_ ?_
 ·exact fx [] gp
 rintro ⟨i, hi, ha⟩ hk
 dsimp only at hk ⊢
 by_cases hlt : i < l.length
 ·have c2 : ((i : Int) < (l.length : Int)) = True := by simp; omega
  obtain ⟨x, hx⟩ : ∃ x, l[i]? = some x := ⟨_, List.getElem?_eq_getElem hlt⟩
  have rx := eE (k := .i64) hx
  by_cases hs : pj most below x = true
  ·have hs' := hs
   simp only [pj, Bool.and_eq_true, Bool.or_eq_true, decide_eq_true_eq] at hs'
   obtain ⟨⟨n1, n2, n3⟩, n4⟩ := hs'
   have d1 : (x == 0) = false := by simpa using n1
   have d2 : (x > most) = False := by simp; omega
   have d3 : (x < -most) = False := by simp; omega
   by_cases n5 : x < 0
   ·have d4 : (x < 0) = True := by simpa using n5
    have d5 : below = true := by
     rcases n4 with h | h
     ·exact h
     ·omega
    subst d5
    refine wk [] [] (an gp (an c2 (an d1 (an d2 (an d3 (an d4 rx)))))) ?_
    refine hk ⟨i + 1, by omega, gx ha hx hs⟩ _ _ (by dsimp only; omega) ?_
    dsimp only
    exact fx [] gp
   ·have d4 : (x < 0) = False := by simpa using n5
    refine wk [] [] (an gp (an c2 (an d1 (an d2 (an d3 (an d4 rx)))))) ?_
    refine hk ⟨i + 1, by omega, gx ha hx hs⟩ _ _ (by dsimp only; omega) ?_
    dsimp only
    exact fx [] gp
  ·have hs' : pj most below x = false := by simpa using hs
   have e : iT most below l = false := by simp only [iT, kd hx hs', Bool.false_and]
   rw [e]
   by_cases n1 : x = 0
   ·have d1 : (x == 0) = true := by simpa using n1
    exact dz [] [] (an gp (an c2 (an d1 rx)))
   have d1 : (x == 0) = false := by simpa using n1
   by_cases n2 : x > most
   ·have d2 : (x > most) = True := by simpa using n2
    exact dz [] [] (an gp (an c2 (an d1 (an d2 rx))))
   have d2 : (x > most) = False := by simpa using n2
   by_cases n3 : x < -most
   ·have d3 : (x < -most) = True := by simpa using n3
    exact dz [] [] (an gp (an c2 (an d1 (an d2 (an d3 rx)))))
   have d3 : (x < -most) = False := by simpa using n3
   have h5 : below = false ∧ x < 0 := by
    have : decide (x ≠ 0 ∧ x ≤ most ∧ -most ≤ x) = true := by simp; omega
    rw [pj, this, Bool.true_and] at hs'
    simpa using hs'
   have d4 : (x < 0) = True := by simpa using h5.2
   rw [h5.1]
   exact dz [] [] (an gp (an c2 (an d1 (an d2 (an d3 (an d4 rx))))))
 ·have c2 : ((i : Int) < (l.length : Int)) = False := by simp; omega
  obtain rfl : i = l.length := by omega
  rw [List.take_length] at ha
  have rs := CO l hl
  have e : iT most below l = jg l := by unfold iT; rw [ha, Bool.true_and]
  rw [e]
  exact dz [] [] (an gp c2)
def lS (r : Ru) : Bool := decide (r.freq = 3 ∨ r.freq = 4 ∧ 0 < r.bm.length)
def m6 (nth : Bool) (d : Int × Int) : Bool := decide (0 ≤ d.2 ∧ d.2 ≤ 6 ∧ -5 ≤ d.1 ∧ d.1 ≤ 5) && (nth || decide (d.1 = 0))
def js (r : Ru) : Bool := r.bd.all (m6 (lS r)) && pY r.bd
set_option maxHeartbeats 4000000 in
theorem Bz (r : Ru) (h1 : r.bm.length ≤ 140737488351232) (hl : r.bd.length ≤ 140737488351232) : aA Tryz.prog 116 [.agg r.cells] (.bool (js r)) := by
 refine bl Tryz.func116 low116 (by simp [c116]) ?_
 simp only [c116, Ru.cells]
 obtain ⟨b1, hb1⟩ : ∃ b, b = (r.freq == 3) := ⟨_, rfl⟩
 obtain ⟨b2, hb2⟩ : ∃ b, b = (r.freq == 4) := ⟨_, rfl⟩
 obtain ⟨b3, hb3⟩ : ∃ b, b = decide ((r.bm.length : Int) > 0) := ⟨_, rfl⟩
 have hn : lS r = (b1 || b2 && b3) := by rw [hb1, hb2, hb3, Bool.eq_iff_iff]; simp [lS]
 have d1 := hb1.symm
 have d2 := hb2.symm
 have d3 := hb3.symm
 have hcs : b1 = true ∨ (b1 = false ∧ b2 = false) ∨ (b1 = false ∧ b2 = true ∧ b3 = false) ∨ (b1 = false ∧ b2 = true ∧ b3 = true) := by
  cases b1 <;> cases b2 <;> cases b3 <;> simp
 rcases hcs with rfl | ⟨rfl, rfl⟩ | ⟨rfl, rfl, rfl⟩ | ⟨rfl, rfl, rfl⟩ <;> simp only [Bool.true_or, Bool.false_or, Bool.true_and, Bool.false_and] at hn
 all_goals
  refine wk [] [] (an gp (an d1 (an d2 d3))) ?_
  refine av (ι := {i : Nat // i ≤ r.bd.length ∧ (r.bd.take i).all (m6 (lS r)) = true}) (fun i => ([(1, .ptr 0 0 0 1), (3, .bool (lS r)), (21, L (bz .i64 .i64 r.bd)), (22, .int .i64 r.bd.length), (23, .int .i64 i.1)], [⟨true, false, true, false, 9, [r.cells], some 0⟩])) (fun i => r.bd.length - i.1) ⟨0, by simp⟩ ?_ ?_
  ·rw [hn]
   simp only [Ru.cells]
   exact fx [0] gp
  clear d1 d2 d3 hb1 hb2 hb3 hn
  rintro ⟨i, hi, ha⟩ hk
  dsimp only [Ru.cells] at hk ⊢
  by_cases hlt : i < r.bd.length
  ·have c2 : ((i : Int) < (r.bd.length : Int)) = True := by simp; omega
   obtain ⟨x, hx⟩ : ∃ x, r.bd[i]? = some x := ⟨_, List.getElem?_eq_getElem hlt⟩
   have rx := ew (k := .i64) (m := .i64) hx
   by_cases hs : m6 (lS r) x = true
   ·have hs' := hs
    simp only [m6, Bool.and_eq_true, Bool.or_eq_true, decide_eq_true_eq] at hs'
    obtain ⟨⟨n1, n2, n3, n4⟩, n5⟩ := hs'
    have e1 : (x.2 < 0) = False := by simp; omega
    have e2 : (x.2 > 6) = False := by simp; omega
    have e3 : (x.1 < -5) = False := by simp; omega
    have e4 : (x.1 > 5) = False := by simp; omega
    by_cases n6 : x.1 = 0
    ·have e5 : (x.1 == 0) = true := by simpa using n6
     refine wk [] [] (an gp (an c2 (an e1 (an e2 (an e3 (an e4 (an e5 rx))))))) ?_
     refine hk ⟨i + 1, by omega, gx ha hx hs⟩ _ _ (by dsimp only; omega) ?_
     dsimp only [Ru.cells]
     exact fx [0] gp
    ·have e5 : (x.1 == 0) = false := by simpa using n6
     have e6 : lS r = true := by
      rcases n5 with h | h
      ·exact h
      ·exact absurd h n6
     refine wk [] [] (an gp (an c2 (an e1 (an e2 (an e3 (an e4 (an e5 (an e6 rx)))))))) ?_
     refine hk ⟨i + 1, by omega, gx ha hx hs⟩ _ _ (by dsimp only; omega) ?_
     dsimp only [Ru.cells]
     rw [e6]
     exact fx [0] gp
   ·have hs' : m6 (lS r) x = false := by simpa using hs
    have e : js r = false := by simp only [js, kd hx hs', Bool.false_and]
    rw [e]
    by_cases n1 : x.2 < 0
    ·have e1 : (x.2 < 0) = True := by simpa using n1
     exact dz [] [] (an gp (an c2 (an e1 rx)))
    have e1 : (x.2 < 0) = False := by simpa using n1
    by_cases n2 : x.2 > 6
    ·have e2 : (x.2 > 6) = True := by simpa using n2
     exact dz [] [] (an gp (an c2 (an e1 (an e2 rx))))
    have e2 : (x.2 > 6) = False := by simpa using n2
    by_cases n3 : x.1 < -5
    ·have e3 : (x.1 < -5) = True := by simpa using n3
     exact dz [] [] (an gp (an c2 (an e1 (an e2 (an e3 rx)))))
    have e3 : (x.1 < -5) = False := by simpa using n3
    by_cases n4 : x.1 > 5
    ·have e4 : (x.1 > 5) = True := by simpa using n4
     exact dz [] [] (an gp (an c2 (an e1 (an e2 (an e3 (an e4 rx))))))
    have e4 : (x.1 > 5) = False := by simpa using n4
    have h5 : lS r = false ∧ ¬ x.1 = 0 := by
     have : decide (0 ≤ x.2 ∧ x.2 ≤ 6 ∧ -5 ≤ x.1 ∧ x.1 ≤ 5) = true := by simp; omega
     rw [m6, this, Bool.true_and] at hs'
     simpa using hs'
    have e5 : (x.1 == 0) = false := by simpa using h5.2
    have e6 := h5.1
    exact dz [] [] (an gp (an c2 (an e1 (an e2 (an e3 (an e4 (an e5 (an e6 rx))))))))
  ·have c2 : ((i : Int) < (r.bd.length : Int)) = False := by simp; omega
   obtain rfl : i = r.bd.length := by omega
   rw [List.take_length] at ha
   have rs := CN r.bd hl
   have e : js r = pY r.bd := by unfold js; rw [ha, Bool.true_and]
   rw [e]
   exact dz [] [] (an gp c2)
def sr (r : Ru) : Bool := decide (0 ≤ r.count ∧ r.count ≤ 5000) && decide (r.til = -1 ∨ 0 ≤ r.til ∧ r.til < 158310720 ∧ r.count = 0)
theorem B5 (r : Ru) : aA Tryz.prog 114 [.agg r.cells] (.bool (sr r)) := by
 refine bl Tryz.func114 low114 (by simp [c114]) ?_
 simp only [c114, Ru.cells]
 exact lC [] [] (an gp @sr.eq_1)
def ph (r : Ru) : Bool := decide (1 ≤ r.freq ∧ r.freq ≤ 4 ∧ 1 ≤ r.interval ∧ r.interval ≤ 999) && (sr r && (iT 12 false r.bm && (iT 31 true r.bmd && (decide (r.freq ≠ 2 ∨ r.bmd.length = 0) && (js r && (iT 366 true r.bsp && decide ((0 < r.bm.length + r.bmd.length + r.bd.length ∨ r.bsp.length = 0) ∧ 0 ≤ r.start ∧ r.start ≤ 6)))))))
set_option maxHeartbeats 4000000 in
theorem vX (r : Ru) (hf : r.fits) : aA Tryz.prog 77 [.agg r.cells] (.bool (ph r)) := by
 obtain ⟨f1, f2, f3, f4⟩ := hf
 refine bl Tryz.func77 low77 (by simp [c77]) ?_
 have h1 := B5 r
 have h2 := nI r.bm 12 false (by omega) (by omega) f1
 have h3 := nI r.bmd 31 true (by omega) (by omega) f2
 have h4 := Bz r f1 f3
 have h5 := nI r.bsp 366 true (by omega) (by omega) f4
 unfold ph
 generalize sr r = x1 at h1 ⊢
 generalize iT 12 false r.bm = x2 at h2 ⊢
 generalize iT 31 true r.bmd = x3 at h3 ⊢
 generalize js r = x4 at h4 ⊢
 generalize iT 366 true r.bsp = x5 at h5 ⊢
 simp only [c77, Ru.cells] at h1 h4 ⊢
 repeat' ((first | refine dV ?_ | refine cY ?_ | refine ci ?_ | refine dS ?_ | refine cW rfl ?_ | refine fP ?_ | refine dT ?_ | refine cj ?_ | refine dU mixed ?_ | refine cX mixed ?_ | with_reducible refine bp ?_ | with_reducible refine bn ?_ | with_reducible refine bo ?_ | with_reducible refine da ?_ | with_reducible refine ck ?_ | refine az (h1) ?_ ?_ | refine az (h2) ?_ ?_ | refine az (h3) ?_ ?_ | refine az (h4) ?_ ?_ | refine az (h5) ?_ ?_ | simp (disch := omega) only [kL, il, iM, iL, lD, Int.tdiv_eq_ediv_of_nonneg, Int.tmod_eq_emod_of_nonneg] | (with_reducible refine bq rfl rfl ?_ ?_; (focus ((try simp only [ab, ac, ae, ah, aj, ak, ai, reduceIte, Int.natCast_nonneg, Int.le_refl, List.length_append, List.length_map, Nat.sub_zero]) <;> ((repeat' (with_reducible refine And.intro ?_ ?_)) <;> first | exact trivial | assumption | (simp; done) | (simp only [List.length_map] at *; omega) | omega | (simp [D.cells, D.ok, D.one, D.pt, D.pt1]; done))))) | (refine ax (fun hc => ?_) (fun hc => ?_) <;> (try simp only [hc]) <;> (try simp at hc)) | (refine aN (fun hc => ?_) (fun hc => ?_) <;> (try simp only [hc]) <;> (try simp at hc)) | (with_reducible refine And.intro ?_ ?_; (focus ((repeat' (with_reducible refine And.intro ?_ ?_)) <;> first | exact trivial | assumption | (simp; done) | (simp only [List.length_map] at *; omega) | omega | (simp [D.cells, D.ok, D.one, D.pt, D.pt1]; done)))) | (with_reducible intro x hx) | omega) <;> (try simp only [ab, ac, ae, ah, aj, ak, ai, ft, eT, eQ, eP, eN, eS, eO, eI, eH, eF, eK, eM, eG, eL, eJ, eU, eV, fq, dN, dO, cL, dQ, dF, dE, fe, eY, gr, gw, dK, dP, eX, cO, fg, fh, ff, fk, gu, gt, cR, aX, aG, cf, dM, bL, bM, aW, aB, bN, eZ, cK, cS, aY, aH, aI, cQ, aF, aU, aw, aV, eW, dJ, bg, bZ, bY, bh, bf, bX, bW, aJ, bE, cy, cw, cx, cv, fc, cz, im, fu, cB, bO, dL, bF, aT, cM, aS, aE, aR, fm, cA, aM, aq, ao, am, dH, cD, cE, dI, cF, dG, bS, fv, dR, bU, bc, bT, ba, bV, be, D.names, D.namesL, aO, dg, aK, df, dh, aL, ay, cP, bK, bI, bG, bJ, bH, dD, dC, aZ, dj, di, cg, Nat.reduceBEq, cH, cG, iF, iE, dq, reduceIte, Nat.reduceEqDiff, Nat.reduceAdd, Nat.reduceSub, Nat.reduceMul, Nat.reduceLT, Nat.reduceLeDiff, reduceCtorEq, ia, em, eo, jA, dY, cT, kM, gf, kR, io, ky, gh, ip, gg, gi, iy, eu, ir, iu, iq, iv, kQ, kP, ee, dp, gb, fE, fN, splice, D.cells, D.ok, D.one, D.pt, D.pt1, D.pt0, D.norm1, D.norm, cond_true, cond_false, true_and, and_true, and_self, Bool.true_and, Bool.and_true, Bool.false_and, Bool.and_false, Bool.not_true, Bool.not_false, Bool.true_or, Bool.false_or, Bool.or_true, Bool.or_false, List.getElem?_cons_zero, List.getElem?_cons_succ, List.getElem?_nil, List.length_cons, List.length_nil, List.length_map, List.length_append, List.length_set, List.length_take, List.length_drop, List.length_replicate, List.take_succ_cons, List.take_zero, List.take_nil, List.drop_succ_cons, List.drop_zero, List.drop_nil, List.cons_append, List.nil_append, List.append_nil, List.map_cons, List.map_nil, List.all_cons, List.all_nil, List.set_cons_zero, List.set_cons_succ, List.isEmpty_cons, List.isEmpty_nil, List.forall_mem_cons, List.not_mem_nil, List.forall_mem_nil, false_imp_iff, implies_true, ne_eq, not_false_eq_true, Option.map_some, Option.map_none, Nat.zero_add, Nat.add_zero, Nat.sub_self, Int.toNat_natCast, Int.reduceToNat, Int.reduceLT, Int.reduceLE, Int.reduceEq, Int.reduceBEq, beq_self_eq_true, Int.reduceNeg, decide_true, decide_false, IntKind.bits, Nat.min_eq_left, Int.reducePow, Nat.reducePow, Int.fdiv_eq_ediv_of_nonneg, Nat.lt_irrefl, Int.le_refl, Nat.le_refl, Int.natCast_nonneg, Nat.lt_add_one, Nat.zero_lt_succ, fJ, dX, dW, du, cV, aQ, D.sc, D.sc1, D.sc2, dZ, ek, cr, dm, cm, bk, cn, aD, aC, gA, ct, c0, Go.Vi.freeze, Go.Vi.bu, bv, bv.captL, au, dk, gC, List.flatten_cons, List.flatten_nil, dv, fM, dl, fr, D.ren, D.renL, List.getD_cons_zero, List.getD_cons_succ, List.nodup_cons, List.nodup_nil, List.mem_cons, or_false, false_or, cI, cJ, cd, cC, bQ, bR, bP, eA, List.reverse_nil, Option.some.injEq, D.bool.injEq, D.int.injEq, D.str.injEq, D.agg.injEq, D.tup.injEq, D.list.injEq, D.ptr.injEq, D.own.injEq, List.cons.injEq, dB]))
 all_goals (rw [Bool.eq_iff_iff]; simp [*]; first | done | omega | (simp_all; done) | (simp_all; omega) | (intros; left; simp_all; omega))
end Go.Proofs.YtapennlmboabeaaGreat

namespace Go.Proofs.YtapennlmboabeaaGreat
open Go Go.Vi
def yw : Ru := ⟨0, 0, 0, 0, [], [], [], [], 0⟩
def jU (e : Ev) : Bool := gj e.start && (decide (1 ≤ e.long ∧ e.long ≤ 10080) && if e.again then !e.world && (ph e.rule && (jw e.ex && (jw e.plus && wC e.ch))) else decide (e.rule = yw) && decide (e.ex.length + e.plus.length + e.ch.length = 0))
set_option maxHeartbeats 4000000 in
theorem tV (e : Ev) (hf : e.fits) (hc : e.ch.length ≤ 14073748835123) : aA Tryz.prog 46 [.agg e.cells] (.bool (jU e)) := by
 obtain ⟨f0, f1, f2, f3⟩ := hf
 refine bl Tryz.func46 low46 (by simp [c46]) ?_
 have h1 := rZ e.start
 have h2 := vX e.rule f0
 have h3 := rn e.ex f1
 have h4 := rn e.plus f2
 have h5 := vo e.ch hc
 have h6 := pG e.rule yw f0 (by simp [Ru.fits, yw])
 unfold jU
 generalize gj e.start = x1 at h1 ⊢
 generalize ph e.rule = x2 at h2 ⊢
 generalize jw e.ex = x3 at h3 ⊢
 generalize jw e.plus = x4 at h4 ⊢
 generalize wC e.ch = x5 at h5 ⊢
 generalize decide (e.rule = yw) = x6 at h6 ⊢
 simp only [c46, Ev.cells, Ru.cells, yw, ar, bz, List.map_nil] at h2 h6 ⊢
 repeat' ((first | refine dV ?_ | refine cY ?_ | refine ci ?_ | refine dS ?_ | refine cW rfl ?_ | refine fP ?_ | refine dT ?_ | refine cj ?_ | refine dU mixed ?_ | refine cX mixed ?_ | with_reducible refine bp ?_ | with_reducible refine bn ?_ | with_reducible refine bo ?_ | with_reducible refine da ?_ | with_reducible refine ck ?_ | refine az (h1) ?_ ?_ | refine az (h2) ?_ ?_ | refine az (h3) ?_ ?_ | refine az (h4) ?_ ?_ | refine az (h5) ?_ ?_ | refine az (h6) ?_ ?_ | simp (disch := omega) only [kL, il, iM, iL, lD, Int.tdiv_eq_ediv_of_nonneg, Int.tmod_eq_emod_of_nonneg] | (with_reducible refine bq rfl rfl ?_ ?_; (focus ((try simp only [ab, ac, ae, ah, aj, ak, ai, reduceIte, Int.natCast_nonneg, Int.le_refl, List.length_append, List.length_map, Nat.sub_zero]) <;> ((repeat' (with_reducible refine And.intro ?_ ?_)) <;> first | exact trivial | assumption | (simp; done) | (simp only [List.length_map] at *; omega) | omega | (simp [D.cells, D.ok, D.one, D.pt, D.pt1]; done))))) | (refine ax (fun hc => ?_) (fun hc => ?_) <;> (try simp only [hc]) <;> (try simp at hc)) | (refine aN (fun hc => ?_) (fun hc => ?_) <;> (try simp only [hc]) <;> (try simp at hc)) | (with_reducible refine And.intro ?_ ?_; (focus ((repeat' (with_reducible refine And.intro ?_ ?_)) <;> first | exact trivial | assumption | (simp; done) | (simp only [List.length_map] at *; omega) | omega | (simp [D.cells, D.ok, D.one, D.pt, D.pt1]; done)))) | (with_reducible intro x hx) | omega) <;> (try simp only [ab, ac, ae, ah, aj, ak, ai, ft, eT, eQ, eP, eN, eS, eO, eI, eH, eF, eK, eM, eG, eL, eJ, eU, eV, fq, dN, dO, cL, dQ, dF, dE, fe, eY, gr, gw, dK, dP, eX, cO, fg, fh, ff, fk, gu, gt, cR, aX, aG, cf, dM, bL, bM, aW, aB, bN, eZ, cK, cS, aY, aH, aI, cQ, aF, aU, aw, aV, eW, dJ, bg, bZ, bY, bh, bf, bX, bW, aJ, bE, cy, cw, cx, cv, fc, cz, im, fu, cB, bO, dL, bF, aT, cM, aS, aE, aR, fm, cA, aM, aq, ao, am, dH, cD, cE, dI, cF, dG, bS, fv, dR, bU, bc, bT, ba, bV, be, D.names, D.namesL, aO, dg, aK, df, dh, aL, ay, cP, bK, bI, bG, bJ, bH, dD, dC, aZ, dj, di, cg, Nat.reduceBEq, cH, cG, iF, iE, dq, reduceIte, Nat.reduceEqDiff, Nat.reduceAdd, Nat.reduceSub, Nat.reduceMul, Nat.reduceLT, Nat.reduceLeDiff, reduceCtorEq, ia, em, eo, jA, dY, cT, kM, gf, kR, io, ky, gh, ip, gg, gi, iy, eu, ir, iu, iq, iv, kQ, kP, ee, dp, gb, fE, fN, splice, D.cells, D.ok, D.one, D.pt, D.pt1, D.pt0, D.norm1, D.norm, cond_true, cond_false, true_and, and_true, and_self, Bool.true_and, Bool.and_true, Bool.false_and, Bool.and_false, Bool.not_true, Bool.not_false, Bool.true_or, Bool.false_or, Bool.or_true, Bool.or_false, List.getElem?_cons_zero, List.getElem?_cons_succ, List.getElem?_nil, List.length_cons, List.length_nil, List.length_map, List.length_append, List.length_set, List.length_take, List.length_drop, List.length_replicate, List.take_succ_cons, List.take_zero, List.take_nil, List.drop_succ_cons, List.drop_zero, List.drop_nil, List.cons_append, List.nil_append, List.append_nil, List.map_cons, List.map_nil, List.all_cons, List.all_nil, List.set_cons_zero, List.set_cons_succ, List.isEmpty_cons, List.isEmpty_nil, List.forall_mem_cons, List.not_mem_nil, List.forall_mem_nil, false_imp_iff, implies_true, ne_eq, not_false_eq_true, Option.map_some, Option.map_none, Nat.zero_add, Nat.add_zero, Nat.sub_self, Int.toNat_natCast, Int.reduceToNat, Int.reduceLT, Int.reduceLE, Int.reduceEq, Int.reduceBEq, beq_self_eq_true, Int.reduceNeg, decide_true, decide_false, IntKind.bits, Nat.min_eq_left, Int.reducePow, Nat.reducePow, Int.fdiv_eq_ediv_of_nonneg, Nat.lt_irrefl, Int.le_refl, Nat.le_refl, Int.natCast_nonneg, Nat.lt_add_one, Nat.zero_lt_succ, fJ, dX, dW, du, cV, aQ, D.sc, D.sc1, D.sc2, dZ, ek, cr, dm, cm, bk, cn, aD, aC, gA, ct, c0, Go.Vi.freeze, Go.Vi.bu, bv, bv.captL, au, dk, gC, List.flatten_cons, List.flatten_nil, dv, fM, dl, fr, D.ren, D.renL, List.getD_cons_zero, List.getD_cons_succ, List.nodup_cons, List.nodup_nil, List.mem_cons, or_false, false_or, cI, cJ, cd, cC, bQ, bR, bP, eA, List.reverse_nil, Option.some.injEq, D.bool.injEq, D.int.injEq, D.str.injEq, D.agg.injEq, D.tup.injEq, D.list.injEq, D.ptr.injEq, D.own.injEq, List.cons.injEq, dB]))
 all_goals (rw [Bool.eq_iff_iff]; simp [*]; try (simp only [← List.length_eq_zero_iff]; omega))
end Go.Proofs.YtapennlmboabeaaGreat

namespace Go.Proofs.YtapennlmboabeaaGreat
open Go Go.Vi
theorem mI : type_of% (an @ab (an @ac (an @ae (an @ah (an @aj (an @ak @ai)))))) := (an @ab (an @ac (an @ae (an @ah (an @aj (an @ak @ai))))))
theorem qB (d : En) (id : Int) : aA Tryz.prog 74 [.agg d.row, .int .u32 id] (.int .i64 (uO d.id id)) := by
 refine bl Tryz.func74 low74 (by simp [c74]) ?_
 simp only [c74, En.row]
 have uc1 := @AL
 exact dz [] [] mI
theorem Bt (l : List En) (id : Int) (k : Nat) (hl : l.length ≤ 140737488351232) (hk : k ≤ l.length) (hs : ∀ (h : Nat) (d : En), l[h]? = some d → (d.id < id ↔ h < k)) :
  aA Tryz.prog 73 [L (bA l), .int .u32 id, .fn 74 []] (.tup [.int .i64 k, .bool (fD En.id l k id)]) := by
 refine bl Tryz.func73 low73 (by simp [c73]) ?_
 simp only [c73]
 refine wk [] [] mI ?_
 refine av (ι := {p : Nat × Nat // p.1 ≤ k ∧ k ≤ p.2 ∧ p.2 ≤ l.length}) (fun p => ([(0, L (bA l)), (1, .int .u32 id), (2, .fn 74 []), (8, .int .i64 l.length), (9, .int .i64 p.1.1), (10, .int .i64 p.1.2)], [])) (fun p => p.1.2 - p.1.1) ⟨(0, l.length), by simp, hk, by simp⟩ ?_ ?_
 ·exact fx [] mI
 rintro ⟨⟨i, j⟩, h1, h2, h3⟩ hk'
 dsimp only at h1 h2 h3 hk' ⊢
 by_cases hij : i < j
 ·have c1 : ((i : Int) < (j : Int)) = True := by simp; omega
  obtain ⟨h, hh⟩ : ∃ h : Nat, h = (i + j) / 2 := ⟨_, rfl⟩
  have e2 : ((i : Int) + (j : Int)) / 2 = (h : Int) := by omega
  obtain ⟨d, hd⟩ : ∃ d, l[h]? = some d := ⟨_, List.getElem?_eq_getElem (by omega)⟩
  have hsd := hs h d hd
  have hd' := gK hd
  have pl := qB d id
  simp only [En.row] at pl
  by_cases hlt : h < k
  ·have c2 : (uO d.id id < 0) = True := by simp; exact oy.2 (hsd.2 hlt)
   refine wk [] [] (an mI (an c1 (an e2 (an hd' (an c2 @En.row.eq_1))))) ?_
   refine hk' ⟨(h + 1, j), by omega, by omega, by omega⟩ _ _ (by dsimp only; omega) ?_
   dsimp only
   exact fx [] mI
  ·have c2 : (uO d.id id < 0) = False := by simp; have := mt hsd.1 hlt; have := mt oy.1 this; omega
   refine wk [] [] (an mI (an c1 (an e2 (an hd' (an c2 @En.row.eq_1))))) ?_
   refine hk' ⟨(i, h), by omega, by omega, by omega⟩ _ _ (by dsimp only; omega) ?_
   dsimp only
   exact fx [] mI
 ·have c1 : ((i : Int) < (j : Int)) = False := by simp; omega
  obtain rfl : i = k := by omega
  by_cases hkl : i < l.length
  ·have c2 : ((i : Int) < (l.length : Int)) = True := by simp; omega
   obtain ⟨d, hd⟩ : ∃ d, l[i]? = some d := ⟨_, List.getElem?_eq_getElem (by omega)⟩
   have hd' := gK hd
   have pl := qB d id
   simp only [En.row] at pl
   have e : fD En.id l i id = (uO d.id id == 0) := by
    unfold fD; rw [hd, Bool.eq_iff_iff]; simp [so]
   rw [e]
   exact dz [] [] (an mI (an c1 (an c2 (an hd' @En.row.eq_1))))
  ·have c2 : ((i : Int) < (l.length : Int)) = False := by simp; omega
   have e : fD En.id l i id = false := by unfold fD; rw [List.getElem?_eq_none (by omega)]
   rw [e]
   exact dz [] [] (an mI (an c1 c2))
theorem lG (u : Us) (id : Int) (hl : u.evs.length ≤ 140737488351232) (hs : u.evs.Pairwise fun a b => a.id < b.id) :
  aA Tryz.prog 45 [.agg u.row, .int .u32 id] (.tup [.int .i64 (fQ En.id u.evs id), .bool (fD En.id u.evs (fQ En.id u.evs id) id)]) := by
 refine bl Tryz.func45 low45 (by simp [c45]) ?_
 simp only [c45, Us.row]
 repeat' ((first | refine dV ?_ | refine cY ?_ | refine ci ?_ | refine dS ?_ | refine cW rfl ?_ | refine fP ?_ | refine dT ?_ | refine cj ?_ | refine dU mixed ?_ | refine cX mixed ?_ | with_reducible refine bp ?_ | with_reducible refine bn ?_ | with_reducible refine bo ?_ | with_reducible refine da ?_ | with_reducible refine ck ?_ | refine az (Bt u.evs id _ hl (oE En.id u.evs id) (m9 En.id u.evs id hs)) ?_ ?_ | simp (disch := omega) only [kL, il, iM, iL, lD, Int.tdiv_eq_ediv_of_nonneg, Int.tmod_eq_emod_of_nonneg] | (with_reducible refine bq rfl rfl ?_ ?_; (focus ((try simp only [ab, ac, ae, ah, aj, ak, ai, reduceIte, Int.natCast_nonneg, Int.le_refl, List.length_append, List.length_map, Nat.sub_zero]) <;> ((repeat' (with_reducible refine And.intro ?_ ?_)) <;> first | exact trivial | assumption | (simp; done) | (simp only [List.length_map] at *; omega) | omega | (simp [D.cells, D.ok, D.one, D.pt, D.pt1]; done))))) | (refine ax (fun hc => ?_) (fun hc => ?_) <;> (try simp only [hc]) <;> (try simp at hc)) | (refine aN (fun hc => ?_) (fun hc => ?_) <;> (try simp only [hc]) <;> (try simp at hc)) | (with_reducible refine And.intro ?_ ?_; (focus ((repeat' (with_reducible refine And.intro ?_ ?_)) <;> first | exact trivial | assumption | (simp; done) | (simp only [List.length_map] at *; omega) | omega | (simp [D.cells, D.ok, D.one, D.pt, D.pt1]; done)))) | (with_reducible intro x hx) | omega) <;> (try simp only [ab, ac, ae, ah, aj, ak, ai, ft, eT, eQ, eP, eN, eS, eO, eI, eH, eF, eK, eM, eG, eL, eJ, eU, eV, fq, dN, dO, cL, dQ, dF, dE, fe, eY, gr, gw, dK, dP, eX, cO, fg, fh, ff, fk, gu, gt, cR, aX, aG, cf, dM, bL, bM, aW, aB, bN, eZ, cK, cS, aY, aH, aI, cQ, aF, aU, aw, aV, eW, dJ, bg, bZ, bY, bh, bf, bX, bW, aJ, bE, cy, cw, cx, cv, fc, cz, im, fu, cB, bO, dL, bF, aT, cM, aS, aE, aR, fm, cA, aM, aq, ao, am, dH, cD, cE, dI, cF, dG, bS, fv, dR, bU, bc, bT, ba, bV, be, D.names, D.namesL, aO, dg, aK, df, dh, aL, ay, cP, bK, bI, bG, bJ, bH, dD, dC, aZ, dj, di, cg, Nat.reduceBEq, cH, cG, iF, iE, dq, reduceIte, Nat.reduceEqDiff, Nat.reduceAdd, Nat.reduceSub, Nat.reduceMul, Nat.reduceLT, Nat.reduceLeDiff, reduceCtorEq, ia, em, eo, jA, dY, cT, kM, gf, kR, io, ky, gh, ip, gg, gi, iy, eu, ir, iu, iq, iv, kQ, kP, ee, dp, gb, fE, fN, splice, D.cells, D.ok, D.one, D.pt, D.pt1, D.pt0, D.norm1, D.norm, cond_true, cond_false, true_and, and_true, and_self, Bool.true_and, Bool.and_true, Bool.false_and, Bool.and_false, Bool.not_true, Bool.not_false, Bool.true_or, Bool.false_or, Bool.or_true, Bool.or_false, List.getElem?_cons_zero, List.getElem?_cons_succ, List.getElem?_nil, List.length_cons, List.length_nil, List.length_map, List.length_append, List.length_set, List.length_take, List.length_drop, List.length_replicate, List.take_succ_cons, List.take_zero, List.take_nil, List.drop_succ_cons, List.drop_zero, List.drop_nil, List.cons_append, List.nil_append, List.append_nil, List.map_cons, List.map_nil, List.all_cons, List.all_nil, List.set_cons_zero, List.set_cons_succ, List.isEmpty_cons, List.isEmpty_nil, List.forall_mem_cons, List.not_mem_nil, List.forall_mem_nil, false_imp_iff, implies_true, ne_eq, not_false_eq_true, Option.map_some, Option.map_none, Nat.zero_add, Nat.add_zero, Nat.sub_self, Int.toNat_natCast, Int.reduceToNat, Int.reduceLT, Int.reduceLE, Int.reduceEq, Int.reduceBEq, beq_self_eq_true, Int.reduceNeg, decide_true, decide_false, IntKind.bits, Nat.min_eq_left, Int.reducePow, Nat.reducePow, Int.fdiv_eq_ediv_of_nonneg, Nat.lt_irrefl, Int.le_refl, Nat.le_refl, Int.natCast_nonneg, Nat.lt_add_one, Nat.zero_lt_succ, fJ, dX, dW, du, cV, aQ, D.sc, D.sc1, D.sc2, dZ, ek, cr, dm, cm, bk, cn, aD, aC, gA, ct, c0, Go.Vi.freeze, Go.Vi.bu, bv, bv.captL, au, dk, gC, List.flatten_cons, List.flatten_nil, dv, fM, dl, fr, D.ren, D.renL, List.getD_cons_zero, List.getD_cons_succ, List.nodup_cons, List.nodup_nil, List.mem_cons, or_false, false_or, cI, cJ, cd, cC, bQ, bR, bP, eA, List.reverse_nil, Option.some.injEq, D.bool.injEq, D.int.injEq, D.str.injEq, D.agg.injEq, D.tup.injEq, D.list.injEq, D.ptr.injEq, D.own.injEq, List.cons.injEq, dB]))
end Go.Proofs.YtapennlmboabeaaGreat

namespace Go.Proofs.YtapennlmboabeaaGreat
open Go Go.Vi
theorem tG (tg : Bool) (l : List (List D)) (hne : l ≠ []) (hsz : ∀ r ∈ l, r.length = 17) (hl : l.length ≤ 400000000000) : aa Tryz.prog 47 [.list none tg l] [] (.own 0 0 l.length l.length 17 none) [bw true 17 true l] := by
 refine aP Tryz.func47 low47 (by simp [c47]) ?_
 simp only [c47]
 refine oS 0 rfl fun b hb => ?_
 obtain rfl : b = false := by
  cases b with
  | false => rfl
  | true => exact absurd (hb rfl) hne
 refine wk [] [] trivial ?_
 rw [wM (by simpa using hne)]
 exact fH [0] trivial
theorem yO (tg : Bool) : aa Tryz.prog 47 [.list (some true) tg []] [] (.list (some true) true []) [] := by
 refine aP Tryz.func47 low47 (by simp [c47]) ?_
 simp only [c47]
 refine wk [] [] trivial ?_
 exact fH [] trivial
theorem yN (tg : Bool) : aa Tryz.prog 47 [.list (some false) tg []] [] (.own 0 0 0 0 17 none) [bw false 17 true []] := by
 refine aP Tryz.func47 low47 (by simp [c47]) ?_
 simp only [c47]
 refine wk [] [] trivial ?_
 exact fH [0] trivial
theorem y6 (b : Bool) (d : List D) (hd : d.length = 17) (tg : Bool) (nl : Option Bool) : aa Tryz.prog 48 [.list (some b) true [], .int .i64 0, .list nl tg [d]] []
  (.own 0 0 1 1 17 none) [bw true 17 true [d]] := by
 refine aP Tryz.func48 low48 (by simp [c48]) ?_
 simp only [c48]
 refine wk [] [] (an hd @forall_eq.{1}) ?_
 exact fH [0] trivial
set_option maxHeartbeats 1000000 in
theorem inE_p (l : List (List D)) (k : Nat) (d : List D) (tg : Bool) (nl : Option Bool) (hne : l ≠ []) (hsz : ∀ r ∈ l, r.length = 17) (hd : d.length = 17) (hp : (l.all fun r => r.all D.pt1) = true) (hpd : (d.all D.pt1) = true) (hl : l.length ≤ 400000000000) (hk : k ≤ l.length) : aa Tryz.prog 48 [.own 0 0 l.length l.length 17 none, .int .i64 k, .list nl tg [d]] [bw true 17 true l]
  (.own 0 0 (l.length + 1) (l.length + 1) 17 none) [bw true 17 true (l.take k ++ d :: l.drop k)] := by
 refine aP Tryz.func48 low48 (by simp [c48]) ?_
 simp only [c48]
 have hne' : l.isEmpty = false := by simpa using hne
 have hdn : (d = []) = False := by
  rw [eq_iff_iff]
  refine ⟨fun h => ?_, False.elim⟩
  rw [h] at hd
  cases hd
 have hszd : ∀ r ∈ l.drop k, r.length = 17 := fun r hr => hsz r (List.mem_of_mem_drop hr)
 by_cases hkl : k = l.length
 ·subst hkl
  have c2 : ((l.length : Int) == (l.length : Int)) = true := by simp
  refine wk [] [] (an hne' (an c2 (an hd @forall_eq.{1}))) ?_
  have e : l.take l.length ++ d :: l.drop l.length = l ++ [d] := by simp
  rw [e]
  exact fH [0] trivial
 ·have c2 : ((k : Int) == (l.length : Int)) = false := by simp; omega
  have e3 : ((l.length : Int) + ((1 : Nat) : Int) - (k : Int)).toNat = l.length + 1 - k := by omega
  have c4 : ((k : Int) ≤ (l.length : Int)) = True := by simp; omega
  repeat' ((first | refine dV ?_ | refine cY ?_ | refine ci ?_ | refine dS ?_ | refine cW rfl ?_ | refine fP ?_ | refine dT ?_ | refine cj ?_ | refine dU mixed ?_ | refine cX mixed ?_ | with_reducible refine bp ?_ | with_reducible refine bn ?_ | with_reducible refine bo ?_ | with_reducible refine da ?_ | with_reducible refine ck ?_ | simp (disch := omega) only [kL, il, iM, iL, lD, Int.tdiv_eq_ediv_of_nonneg, Int.tmod_eq_emod_of_nonneg] | (with_reducible refine bq rfl rfl ?_ ?_; (focus ((try simp only [reduceIte, Int.natCast_nonneg, Int.le_refl, List.length_append, List.length_map, Nat.sub_zero]) <;> ((repeat' (with_reducible refine And.intro ?_ ?_)) <;> first | exact trivial | assumption | (simp; done) | (simp only [List.length_map] at *; omega) | omega | (simp [D.cells, D.ok, D.one, D.pt, D.pt1]; done))))) | (refine ax (fun hc => ?_) (fun hc => ?_) <;> (try simp only [hc]) <;> (try simp at hc)) | (refine aN (fun hc => ?_) (fun hc => ?_) <;> (try simp only [hc]) <;> (try simp at hc)) | (with_reducible refine And.intro ?_ ?_; (focus ((repeat' (with_reducible refine And.intro ?_ ?_)) <;> first | exact trivial | assumption | (simp; done) | (simp only [List.length_map] at *; omega) | omega | (simp [D.cells, D.ok, D.one, D.pt, D.pt1]; done)))) | (with_reducible intro x hx) | omega) <;> (try simp only [hne', c2, e3, c4, hd, forall_eq, ft, eT, eQ, eP, eN, eS, eO, eI, eH, eF, eK, eM, eG, eL, eJ, eU, eV, fq, dN, dO, cL, dQ, dF, dE, fe, eY, gr, gw, dK, dP, eX, cO, fg, fh, ff, fk, gu, gt, cR, aX, aG, cf, dM, bL, bM, aW, aB, bN, eZ, cK, cS, aY, aH, aI, cQ, aF, aU, aw, aV, eW, dJ, bg, bZ, bY, bh, bf, bX, bW, aJ, bE, cy, cw, cx, cv, fc, cz, im, fu, cB, bO, dL, bF, aT, cM, aS, aE, aR, fm, cA, aM, aq, ao, am, dH, cD, cE, dI, cF, dG, bS, fv, dR, bU, bc, bT, ba, bV, be, D.names, D.namesL, aO, dg, aK, df, dh, aL, ay, cP, bK, bI, bG, bJ, bH, dD, dC, aZ, dj, di, cg, Nat.reduceBEq, cH, cG, iF, iE, dq, reduceIte, Nat.reduceEqDiff, Nat.reduceAdd, Nat.reduceSub, Nat.reduceMul, Nat.reduceLT, Nat.reduceLeDiff, reduceCtorEq, ia, em, eo, jA, dY, cT, kM, gf, kR, io, ky, gh, ip, gg, gi, iy, eu, ir, iu, iq, iv, kQ, kP, ee, dp, gb, fE, fN, splice, D.cells, D.ok, D.one, D.pt, D.pt1, D.pt0, D.norm1, D.norm, cond_true, cond_false, true_and, and_true, and_self, Bool.true_and, Bool.and_true, Bool.false_and, Bool.and_false, Bool.not_true, Bool.not_false, Bool.true_or, Bool.false_or, Bool.or_true, Bool.or_false, List.getElem?_cons_zero, List.getElem?_cons_succ, List.getElem?_nil, List.length_cons, List.length_nil, List.length_map, List.length_append, List.length_set, List.length_take, List.length_drop, List.length_replicate, List.take_succ_cons, List.take_zero, List.take_nil, List.drop_succ_cons, List.drop_zero, List.drop_nil, List.cons_append, List.nil_append, List.append_nil, List.map_cons, List.map_nil, List.all_cons, List.all_nil, List.set_cons_zero, List.set_cons_succ, List.isEmpty_cons, List.isEmpty_nil, List.forall_mem_cons, List.not_mem_nil, List.forall_mem_nil, false_imp_iff, implies_true, ne_eq, not_false_eq_true, Option.map_some, Option.map_none, Nat.zero_add, Nat.add_zero, Nat.sub_self, Int.toNat_natCast, Int.reduceToNat, Int.reduceLT, Int.reduceLE, Int.reduceEq, Int.reduceBEq, beq_self_eq_true, Int.reduceNeg, decide_true, decide_false, IntKind.bits, Nat.min_eq_left, Int.reducePow, Nat.reducePow, Int.fdiv_eq_ediv_of_nonneg, Nat.lt_irrefl, Int.le_refl, Nat.le_refl, Int.natCast_nonneg, Nat.lt_add_one, Nat.zero_lt_succ, fJ, dX, dW, du, cV, aQ, D.sc, D.sc1, D.sc2, dZ, ek, cr, dm, cm, bk, cn, aD, aC, gA, ct, c0, Go.Vi.freeze, Go.Vi.bu, bv, bv.captL, au, dk, gC, List.flatten_cons, List.flatten_nil, dv, fM, dl, fr, D.ren, D.renL, List.getD_cons_zero, List.getD_cons_succ, List.nodup_cons, List.nodup_nil, List.mem_cons, or_false, false_or, cI, cJ, cd, cC, bQ, bR, bP, eA, List.reverse_nil, Option.some.injEq, D.bool.injEq, D.int.injEq, D.str.injEq, D.agg.injEq, D.tup.injEq, D.list.injEq, D.ptr.injEq, D.own.injEq, List.cons.injEq, dB]))
  ·refine vl (c := x) (by omega) ⟨by simp, by simp only [List.length_replicate]; omega, by simp only [List.length_replicate]; omega⟩ ⟨by simp only [List.length_replicate]; omega, rfl, rfl, by simp only [List.length_replicate]; omega, rfl⟩ ?_
   have e4 : k - 0 + (l.length + 1 - k) = l.length + 1 := by omega
   have e5 : fT 0 (k - 0) l.length l = l.take k := by
    unfold fT
    simp [hkl]
   have e6 : min k l.length = k := by omega
   have e7 : min 1 (l.length + 1 - k) = 1 := by omega
   have e8 : fT k (l.length - k) l.length l = l.drop k := by
    unfold fT
    split
    ·rename_i h; rw [h.1]; rfl
    ·rw [List.take_of_length_le (by simp)]
   have e9 : ((k : Int) + ((1 : Nat) : Int)).toNat = k + 1 := by omega
   have e10 : min (l.length - k) (l.length + 1 - (k + 1)) = l.length - k := by omega
   simp only [e4, List.length_replicate, e5]
   refine wk [] [] (an hne' (an c2 (an e3 (an c4 (an e6 (an e7 (an e8 (an e9 (an e10 (an hd @forall_eq.{1})))))))))) ?_
   have e11 : List.take (l.length + 1 - (k + 1)) (List.drop k l) = l.drop k := by rw [List.take_of_length_le (by simp)]
   rw [e11, y9 (by rw [List.length_take]; omega) (by omega), rd u9]
   exact rbw [1] trivial
  ·refine qX (c := x) rfl rfl rfl ⟨rfl, by omega, by omega, by omega⟩ ⟨by simp, rfl, rfl, by omega, rfl, by omega⟩ ?_
   have e4 : ((l.length : Int) + ((1 : Nat) : Int)).toNat = l.length + 1 := by omega
   have e9 : ((k : Int) + ((1 : Nat) : Int)).toNat = k + 1 := by omega
   have f1 : l.length + 1 - l.length = 1 := by omega
   obtain ⟨u, hu⟩ : ∃ u, List.replicate 17 D.undef = u := ⟨_, rfl⟩
   obtain ⟨U, hU⟩ : ∃ U, List.replicate 1 u = U := ⟨_, rfl⟩
   have hUl : U.length = 1 := by rw [← hU]; rfl
   have f2 : fT k (l.length + 1 - k) (l.length + 1) (l ++ U) = l.drop k ++ U := by
    unfold fT
    split
    ·rename_i h; rw [h.1]; rfl
    ·rw [List.drop_append_of_le_length (by omega), List.take_of_length_le (by simp [hUl]; omega)]
   have f3 : List.take (l.length + 1 - (k + 1)) (l.drop k ++ U) = l.drop k := List.take_left' (by simp)
   have f6 : (∀ r ∈ l.drop k ++ U, r.length = 17) = True := by
    rw [eq_iff_iff]
    refine ⟨fun _ => trivial, fun _ r hr => ?_⟩
    rcases List.mem_append.1 hr with h | h
    ·exact hszd r h
    ·rw [← hU] at h; rw [List.eq_of_mem_replicate h, ← hu]; rfl
   have f4 : (l.drop k).all (fun r => r.all D.one) = true := by
    simp only [List.all_eq_true]
    intro r hr d hd
    exact mR (List.all_eq_true.1 (List.all_eq_true.1 hp r (List.mem_of_mem_drop hr)) d hd)
   have f5 : min (l.length - k + 1) (l.length + 1 - (k + 1)) = l.length - k := by omega
   simp only [e4, f1, Nat.sub_zero, hu, hU]
   repeat' ((first | refine dV ?_ | refine cY ?_ | refine ci ?_ | refine dS ?_ | refine cW rfl ?_ | refine dT ?_ | refine cj ?_ | refine dU mixed ?_ | refine cX mixed ?_ | with_reducible refine bp ?_ | with_reducible refine bn ?_ | with_reducible refine bo ?_ | with_reducible refine da ?_ | with_reducible refine ck ?_ | simp (disch := omega) only [kL, il, iM, iL, lD, Int.tdiv_eq_ediv_of_nonneg, Int.tmod_eq_emod_of_nonneg] | (with_reducible refine bq rfl rfl ?_ ?_; (focus ((try simp only [reduceIte, Int.natCast_nonneg, Int.le_refl, List.length_append, List.length_map, Nat.sub_zero]) <;> ((repeat' (with_reducible refine And.intro ?_ ?_)) <;> first | exact trivial | assumption | (simp; done) | (simp only [List.length_map] at *; omega) | omega | (simp [D.cells, D.ok, D.one, D.pt, D.pt1]; done))))) | (refine ax (fun hc => ?_) (fun hc => ?_) <;> (try simp only [hc]) <;> (try simp at hc)) | (refine aN (fun hc => ?_) (fun hc => ?_) <;> (try simp only [hc]) <;> (try simp at hc)) | (with_reducible refine And.intro ?_ ?_; (focus ((repeat' (with_reducible refine And.intro ?_ ?_)) <;> first | exact trivial | assumption | (simp; done) | (simp only [List.length_map] at *; omega) | omega | (simp [D.cells, D.ok, D.one, D.pt, D.pt1]; done)))) | (with_reducible intro x hx) | omega) <;> (try simp only [hne', c2, c4, e9, f1, f2, f3, f4, f5, f6, hUl, hU, Nat.sub_zero, hd, hdn, forall_eq, not_false_eq_true, ft, eT, eQ, eP, eN, eS, eO, eI, eH, eF, eK, eM, eG, eL, eJ, eU, eV, fq, dN, dO, cL, dQ, dF, dE, fe, eY, gr, gw, dK, dP, eX, cO, fg, fh, ff, fk, gu, gt, cR, aX, aG, cf, dM, bL, bM, aW, aB, bN, eZ, cK, cS, aY, aH, aI, cQ, aF, aU, aw, aV, eW, dJ, bg, bZ, bY, bh, bf, bX, bW, aJ, bE, cy, cw, cx, cv, fc, cz, im, fu, cB, bO, dL, bF, aT, cM, aS, aE, aR, fm, cA, aM, aq, ao, am, dH, cD, cE, dI, cF, dG, bS, fv, dR, bU, bc, bT, ba, bV, be, D.names, D.namesL, aO, dg, aK, df, dh, aL, ay, cP, bK, bI, bG, bJ, bH, dD, dC, aZ, dj, di, cg, Nat.reduceBEq, cH, cG, iF, iE, dq, reduceIte, Nat.reduceEqDiff, Nat.reduceAdd, Nat.reduceSub, Nat.reduceMul, Nat.reduceLT, Nat.reduceLeDiff, reduceCtorEq, ia, em, eo, jA, dY, cT, kM, gf, kR, io, ky, gh, ip, gg, gi, iy, eu, ir, iu, iq, iv, kQ, kP, ee, dp, gb, fE, fN, splice, D.cells, D.ok, D.one, D.pt, D.pt1, D.pt0, D.norm1, D.norm, cond_true, cond_false, true_and, and_true, and_self, Bool.true_and, Bool.and_true, Bool.false_and, Bool.and_false, Bool.not_true, Bool.not_false, Bool.true_or, Bool.false_or, Bool.or_true, Bool.or_false, List.getElem?_cons_zero, List.getElem?_cons_succ, List.getElem?_nil, List.length_cons, List.length_nil, List.length_map, List.length_append, List.length_set, List.length_take, List.length_drop, List.length_replicate, List.take_succ_cons, List.take_zero, List.take_nil, List.drop_succ_cons, List.drop_zero, List.drop_nil, List.cons_append, List.nil_append, List.append_nil, List.map_cons, List.map_nil, List.all_cons, List.all_nil, List.set_cons_zero, List.set_cons_succ, List.isEmpty_cons, List.isEmpty_nil, List.forall_mem_cons, List.not_mem_nil, List.forall_mem_nil, false_imp_iff, implies_true, ne_eq, not_false_eq_true, Option.map_some, Option.map_none, Nat.zero_add, Nat.add_zero, Nat.sub_self, Int.toNat_natCast, Int.reduceToNat, Int.reduceLT, Int.reduceLE, Int.reduceEq, Int.reduceBEq, beq_self_eq_true, Int.reduceNeg, decide_true, decide_false, IntKind.bits, Nat.min_eq_left, Int.reducePow, Nat.reducePow, Int.fdiv_eq_ediv_of_nonneg, Nat.lt_irrefl, Int.le_refl, Nat.le_refl, Int.natCast_nonneg, Nat.lt_add_one, Nat.zero_lt_succ, fJ, dX, dW, du, cV, aQ, D.sc, D.sc1, D.sc2, dZ, ek, cr, dm, cm, bk, cn, aD, aC, gA, ct, c0, Go.Vi.freeze, Go.Vi.bu, bv, bv.captL, au, dk, gC, List.flatten_cons, List.flatten_nil, dv, fM, dl, fr, D.ren, D.renL, List.getD_cons_zero, List.getD_cons_succ, List.nodup_cons, List.nodup_nil, List.mem_cons, or_false, false_or, cI, cJ, cd, cC, bQ, bR, bP, eA, List.reverse_nil, Option.some.injEq, D.bool.injEq, D.int.injEq, D.str.injEq, D.agg.injEq, D.tup.injEq, D.list.injEq, D.ptr.injEq, D.own.injEq, List.cons.injEq, dB]))
   rw [za rfl hUl (by omega), rd u9]
   refine gn (wF 0 rfl rfl (by
    show (l.take k ++ d :: l.drop k).all (fun r => r.all D.pt1) = true
    simp only [List.all_append, List.all_cons, Bool.and_eq_true]
    exact ⟨List.all_eq_true.2 fun r hr => List.all_eq_true.1 hp r (List.mem_of_mem_take hr), hpd, List.all_eq_true.2 fun r hr => List.all_eq_true.1 hp r (List.mem_of_mem_drop hr)⟩)) ?_
   refine wk [] [] trivial ?_
   exact fH [0] trivial
theorem yM (tg : Bool) : aa Tryz.prog 47 [.list none tg []] [] (.list none true []) [] :=
 aa.nils fun b _ => by
  cases b
  ·exact (yN tg).emp
  ·exact (yO tg).nl
theorem y5 (d : List D) (hd : d.length = 17) (tg : Bool) (nl : Option Bool) : aa Tryz.prog 48 [.list none true [], .int .i64 0, .list nl tg [d]] []
  (.own 0 0 1 1 17 none) [bw true 17 true [d]] := aa.nils fun b _ => y6 b d hd tg nl
end Go.Proofs.YtapennlmboabeaaGreat

namespace Go.Proofs.YtapennlmboabeaaGreat
open Go Go.Vi
def Da : List D := [.int .u32 0, .int .i64 0, .int .i64 0, .bool false, .bool false, .int .i64 0, .int .i64 0, .int .i64 0, .int .i64 0, .list (some true) true [], .list (some true) true [], .list (some true) true [], .list (some true) true [], .int .i64 0, .list (some true) true [], .list (some true) true [], .list (some true) true []]
set_option maxHeartbeats 1000000 in
theorem BA (l : List (List D)) (k : Nat) (hsz : ∀ r ∈ l, r.length = 17) (hp : (l.all fun r => r.all D.pt1) = true) (hl : l.length ≤ 400000000000) (hk : k < l.length) : aa Tryz.prog 51 [.own 0 0 l.length l.length 17 none, .int .i64 k, .int .i64 (k + 1)] [bw true 17 true l]
  (.own 0 0 (l.length - 1) l.length 17 none) [bw true 17 true (l.take k ++ l.drop (k + 1) ++ [Da])] := by
 refine aP Tryz.func51 low51 (by simp [c51]) ?_
 simp only [c51]
 have hne' : l.isEmpty = false := by
  cases l with
  | nil => simp at hk
  | cons => rfl
 have c2 : ((k : Int) == (k : Int) + 1) = false := by simp; omega
 have e1 : (1 : Int) + (k : Int) = (k : Int) + 1 := by omega
 have e2 : ((k : Int) + 1).toNat = k + 1 := by omega
 have e3 : fT (k + 1) (l.length - (k + 1)) l.length l = l.drop (k + 1) := by
  unfold fT
  rw [if_neg (by omega), List.take_of_length_le (by simp)]
 refine wk [] [] (an hne' (an c2 (an e2 e3))) ?_
 refine ⟨fun r hr => hsz r (List.mem_of_mem_drop hr), ?_⟩
 have e4 : k + (l.length - (k + 1)) = l.length - 1 := by omega
 refine yx (by omega) ⟨rfl, by simp only [List.length_drop]; omega, by simp only [List.length_drop]; omega⟩ ⟨rfl, by simp only [List.length_drop]; omega, by simp⟩ ?_
 simp only [Nat.sub_zero, Nat.zero_add, List.length_drop, e4]
 refine wk [] [] (an hne' c2) ?_
 have e5 : (l.take k ++ l.drop (k + 1) ++ l.drop (l.length - 1)).length = l.length := by simp only [List.length_append, List.length_take, List.length_drop]; omega
 have e6 : List.take (l.length - 1) (l.take k ++ l.drop (k + 1) ++ l.drop (l.length - 1)) = l.take k ++ l.drop (k + 1) := List.take_left' (by simp only [List.length_append, List.length_take, List.length_drop]; omega)
 have e7 : List.drop (l.length - 1 + 1) (l.take k ++ l.drop (k + 1) ++ l.drop (l.length - 1)) = [] := List.drop_eq_nil_of_le (by rw [e5]; omega)
 generalize l.take k ++ l.drop (k + 1) ++ l.drop (l.length - 1) = m at e5 e6 e7 ⊢
 refine sj rfl rfl rfl ⟨rfl, by omega, by omega, by omega⟩ ⟨e5, rfl, by omega⟩ ?_
 have e8 : l.length - (l.length - 1) = 1 := by omega
 simp only [e5, e6, e7, e8, List.replicate_one, ft, eT, eQ, eP, eN, eS, eO, eI, eH, eF, eK, eM, eG, eL, eJ, eU, eV, fq, dN, dO, cL, dQ, dF, dE, fe, eY, gr, gw, dK, dP, eX, cO, fg, fh, ff, fk, gu, gt, cR, aX, aG, cf, dM, bL, bM, aW, aB, bN, eZ, cK, cS, aY, aH, aI, cQ, aF, aU, aw, aV, eW, dJ, bg, bZ, bY, bh, bf, bX, bW, aJ, bE, cy, cw, cx, cv, fc, cz, im, fu, cB, bO, dL, bF, aT, cM, aS, aE, aR, fm, cA, aM, aq, ao, am, dH, cD, cE, dI, cF, dG, bS, fv, dR, bU, bc, bT, ba, bV, be, D.names, D.namesL, aO, dg, aK, df, dh, aL, ay, cP, bK, bI, bG, bJ, bH, dD, dC, aZ, dj, di, cg, Nat.reduceBEq, cH, cG, iF, iE, dq, reduceIte, Nat.reduceEqDiff, Nat.reduceAdd, Nat.reduceSub, Nat.reduceMul, Nat.reduceLT, Nat.reduceLeDiff, reduceCtorEq, ia, em, eo, jA, dY, cT, kM, gf, kR, io, ky, gh, ip, gg, gi, iy, eu, ir, iu, iq, iv, kQ, kP, ee, dp, gb, fE, fN, splice, D.cells, D.ok, D.one, D.pt, D.pt1, D.pt0, D.norm1, D.norm, cond_true, cond_false, true_and, and_true, and_self, Bool.true_and, Bool.and_true, Bool.false_and, Bool.and_false, Bool.not_true, Bool.not_false, Bool.true_or, Bool.false_or, Bool.or_true, Bool.or_false, List.getElem?_cons_zero, List.getElem?_cons_succ, List.getElem?_nil, List.length_cons, List.length_nil, List.length_map, List.length_append, List.length_set, List.length_take, List.length_drop, List.length_replicate, List.take_succ_cons, List.take_zero, List.take_nil, List.drop_succ_cons, List.drop_zero, List.drop_nil, List.cons_append, List.nil_append, List.append_nil, List.map_cons, List.map_nil, List.all_cons, List.all_nil, List.set_cons_zero, List.set_cons_succ, List.isEmpty_cons, List.isEmpty_nil, List.forall_mem_cons, List.not_mem_nil, List.forall_mem_nil, false_imp_iff, implies_true, ne_eq, not_false_eq_true, Option.map_some, Option.map_none, Nat.zero_add, Nat.add_zero, Nat.sub_self, Int.toNat_natCast, Int.reduceToNat, Int.reduceLT, Int.reduceLE, Int.reduceEq, Int.reduceBEq, beq_self_eq_true, Int.reduceNeg, decide_true, decide_false, IntKind.bits, Nat.min_eq_left, Int.reducePow, Nat.reducePow, Int.fdiv_eq_ediv_of_nonneg, Nat.lt_irrefl, Int.le_refl, Nat.le_refl, Int.natCast_nonneg, Nat.lt_add_one, Nat.zero_lt_succ, fJ, dX, dW, du, cV, aQ, D.sc, D.sc1, D.sc2, dZ, ek, cr, dm, cm, bk, cn, aD, aC, gA, ct, c0, Go.Vi.freeze, Go.Vi.bu, bv, bv.captL, au, dk, gC, List.flatten_cons, List.flatten_nil, dv, fM, dl, fr, D.ren, D.renL, List.getD_cons_zero, List.getD_cons_succ, List.nodup_cons, List.nodup_nil, List.mem_cons, or_false, false_or, cI, cJ, cd, cC, bQ, bR, bP, eA, List.reverse_nil, Option.some.injEq, D.bool.injEq, D.int.injEq, D.str.injEq, D.agg.injEq, D.tup.injEq, D.list.injEq, D.ptr.injEq, D.own.injEq, List.cons.injEq, dB]
 refine wk [] [] (an e5 (an e6 e7)) ?_
 rw [rd (rows := l.take k ++ l.drop (k + 1) ++ [Da]) (by simp)]
 unfold Da
 exact fH [0] trivial
end Go.Proofs.YtapennlmboabeaaGreat

namespace Go.Proofs.YtapennlmboabeaaGreat
open Go Go.Vi
theorem mO {α : Type} (f : α → Int) (id : Int) : ∀ l : List α, (l.Pairwise fun a b => f a < f b) → l.take (fQ f l id) = l.filter fun x => decide (f x < id)
 | [], _ => by simp [fQ]
 | x :: l, hs => by
  obtain ⟨h1, h2⟩ := List.pairwise_cons.1 hs
  unfold fQ
  split
  ·rename_i h
   rw [List.take_succ_cons, mO f id l h2]; simp [h]
  ·rename_i h
   rw [List.take_zero, eq_comm, List.filter_eq_nil_iff]
   intro y hy
   rcases List.mem_cons.1 hy with rfl | hy
   ·simpa using h
   ·have := h1 y hy; simp; omega
theorem xt {α : Type} (f : α → Int) (id : Int) : ∀ l : List α, (l.Pairwise fun a b => f a < f b) → fD f l (fQ f l id) id = false → l.drop (fQ f l id) = l.filter fun x => decide (id < f x)
 | [], _, _ => by simp
 | x :: l, hs, ha => by
  obtain ⟨h1, h2⟩ := List.pairwise_cons.1 hs
  unfold fQ at ha ⊢
  split
  ·rename_i h
   rw [if_pos h] at ha
   have ha' : fD f l (fQ f l id) id = false := by simpa [fD] using ha
   rw [List.drop_succ_cons, xt f id l h2 ha']
   have : ¬ id < f x := by omega
   simp [this]
  ·rename_i h
   rw [if_neg h] at ha
   have ha' : ¬ f x = id := by simpa [fD] using ha
   rw [List.drop_zero, eq_comm, List.filter_eq_self]
   intro y hy
   rcases List.mem_cons.1 hy with rfl | hy
   ·simp; omega
   ·have := h1 y hy; simp; omega
theorem ne {α : Type} (f : α → Int) (id : Int) : ∀ l : List α, (l.Pairwise fun a b => f a < f b) → fD f l (fQ f l id) id = true → ∃ x, f x = id ∧ l[fQ f l id]? = some x ∧ l.drop (fQ f l id + 1) = l.filter fun x => decide (id < f x)
 | [], _, ha => by simp [fD] at ha
 | x :: l, hs, ha => by
  obtain ⟨h1, h2⟩ := List.pairwise_cons.1 hs
  unfold fQ at ha ⊢
  split
  ·rename_i h
   rw [if_pos h] at ha
   have ha' : fD f l (fQ f l id) id = true := by simpa [fD] using ha
   obtain ⟨y, hy1, hy2, hy3⟩ := ne f id l h2 ha'
   refine ⟨y, hy1, by simpa using hy2, ?_⟩
   rw [List.drop_succ_cons, hy3]
   have : ¬ id < f x := by omega
   simp [this]
  ·rename_i h
   rw [if_neg h] at ha
   have ha' : f x = id := by simpa [fD] using ha
   refine ⟨x, ha', by simp, ?_⟩
   have : ¬ id < f x := by omega
   rw [List.drop_succ_cons, List.drop_zero, List.filter_cons_of_neg (by simp; omega), eq_comm, List.filter_eq_self]
   intro y hy
   have := h1 y hy; simp; omega
def jF (l : List En) (id : Int) (e : Ev) : List En := (l.filter fun x => decide (x.id < id)) ++ ⟨id, e⟩ :: l.filter fun x => decide (id < x.id)
def j1 (l : List En) (id : Int) : List En := (l.filter fun x => decide (x.id < id)) ++ l.filter fun x => decide (id < x.id)
theorem Ao {l : List En} {id : Int} (e : Ev) (hs : l.Pairwise fun a b => a.id < b.id) (ha : fD En.id l (fQ En.id l id) id = true) : l.set (fQ En.id l id) ⟨id, e⟩ = jF l id e := by
 obtain ⟨x, h1, h2, h3⟩ := ne En.id id l hs ha
 have ht := mO En.id id l hs
 have hlt := (List.getElem?_eq_some_iff.1 h2).1
 unfold jF
 rw [← ht, ← h3, List.set_eq_take_append_cons_drop, if_pos hlt]
theorem zb {l : List En} {id : Int} (e : Ev) (hs : l.Pairwise fun a b => a.id < b.id) (ha : fD En.id l (fQ En.id l id) id = false) : l.take (fQ En.id l id) ++ ⟨id, e⟩ :: l.drop (fQ En.id l id) = jF l id e := by
 unfold jF
 rw [← mO En.id id l hs, ← xt En.id id l hs ha]
theorem yS {l : List En} {id : Int} (hs : l.Pairwise fun a b => a.id < b.id) (ha : fD En.id l (fQ En.id l id) id = true) : l.take (fQ En.id l id) ++ l.drop (fQ En.id l id + 1) = j1 l id := by
 obtain ⟨x, h1, h2, h3⟩ := ne En.id id l hs ha
 unfold j1
 rw [← mO En.id id l hs, ← h3]
theorem rU (u' : Us) : ∀ (l : List Us) (k : Nat) (u : Us), (l.Pairwise fun a b => a.id < b.id) → l[k]? = some u → u'.id = u.id → l.set k u' = l.map (rep u')
 | [], k, u, _, h, _ => by simp at h
 | x :: l, 0, u, hs, h, hid => by
  obtain ⟨h1, h2⟩ := List.pairwise_cons.1 hs
  simp at h; subst h
  rw [List.set_cons_zero, List.map_cons, kG u' l fun y hy => by have := h1 y hy; omega]
  simp [rep, hid]
 | x :: l, k + 1, u, hs, h, hid => by
  obtain ⟨h1, h2⟩ := List.pairwise_cons.1 hs
  have hm : l[k]? = some u := by simpa using h
  have := h1 u (List.mem_of_getElem? hm)
  have hx : ¬ x.id = u'.id := by omega
  rw [List.set_cons_succ, List.map_cons, rU u' l k u h2 hm hid]
  simp [rep, hx]
theorem exYGU : type_of% (an @ab (an @ac (an @ae (an @ah (an @aj (an @ak @ai)))))) := (an @ab (an @ac (an @ae (an @ah (an @aj (an @ak @ai))))))
theorem yq (t : Int) (us : List Us) (ps : List Po) (ds : List Dn) (k : Nat) (u : Us) (hk : k < us.length) (hl : us.length ≤ 400000000000) : aA Tryz.prog 32 [St t us ps ds, .int .i64 k, .bool true, .agg u.row] (St t (us.set k u) ps ds) := by
 refine bl Tryz.func32 low32 (by simp [c32]) ?_
 have hune : dA us ≠ [] := by
  cases us with
  | nil => simp at hk
  | cons => simp [dA]
 have cu := Bw false (dA us) hune (Ar us) (by rw [aj]; omega)
 rw [aj] at cu
 obtain ⟨x, hx⟩ : ∃ x, us[k]? = some x := ⟨_, List.getElem?_eq_getElem hk⟩
 have hr := fY hx
 have hs : (dA us).set k u.row = dA (us.set k u) := by simp [dA, List.map_set]
 simp only [c32, St, Us.row] at hs ⊢
 have hie : (dA us).isEmpty = false := by simpa using hune
 exact dz [40] [] (an exYGU (an hr (an hs (an hie @Us.row.eq_1))))
end Go.Proofs.YtapennlmboabeaaGreat

namespace Go.Proofs.YtapennlmboabeaaGreat
open Go Go.Vi
def fK (l : List En) (id : Int) : Option En := l.find? fun x => x.id == id
def pq (u : Us) (id : Int) (e : Ev) : Us := { u with ver := IntKind.u64.wrap (u.ver + 1), evs := jF u.evs id e }
def oi (u : Us) (id : Int) : Us := { u with ver := IntKind.u64.wrap (u.ver + 1), evs := j1 u.evs id }
theorem jZ (l : List En) : ∀ r ∈ bA l, r.length = 17 := by simp [bA, En.row]
theorem sL (l : List En) : ((bA l).all fun r => r.all D.pt1) = true := by simp [bA, En.row, D.pt1]
theorem vU : bA [] = [] := rfl
theorem yp {us : List Us} {user : Int} {u : Us} (hs : us.Pairwise fun a b => a.id < b.id) (h : fB us user = some u) : us[fQ Us.id us user]? = some u ∧ fD Us.id us (fQ Us.id us user) user = true ∧ fQ Us.id us user < us.length ∧ u.id = user := by
 have hf := jQ Us.id us user hs
 have hff : fB us user = us.find? fun u => u.id == user := rfl
 rw [← hff, h] at hf
 by_cases hat : fD Us.id us (fQ Us.id us user) user = true
 ·rw [if_pos hat] at hf
  exact ⟨hf.symm, hat, (List.getElem?_eq_some_iff.1 hf.symm).1, (gq h).2⟩
 ·rw [if_neg hat] at hf
  cases hf
theorem u_no {us : List Us} {user : Int} (hs : us.Pairwise fun a b => a.id < b.id) (h : fB us user = none) : fD Us.id us (fQ Us.id us user) user = false := by
 have hf := jQ Us.id us user hs
 have hff : fB us user = us.find? fun u => u.id == user := rfl
 rw [← hff, h] at hf
 by_cases hat : fD Us.id us (fQ Us.id us user) user = true
 ·rw [if_pos hat] at hf
  obtain ⟨u, hu, _⟩ := vH hat
  rw [hu] at hf
  cases hf
 ·simpa using hat
theorem ll {l : List En} {id : Int} (hs : l.Pairwise fun a b => a.id < b.id) : (fK l id).isSome = fD En.id l (fQ En.id l id) id := by
 have hf := jQ En.id l id hs
 have hff : fK l id = l.find? fun u => u.id == id := rfl
 rw [← hff] at hf
 rw [hf]
 by_cases hat : fD En.id l (fQ En.id l id) id = true
 ·rw [if_pos hat, hat]
  unfold fD at hat
  split at hat
  ·rename_i hx; rw [hx]; rfl
  ·cases hat
 ·rw [if_neg hat]; simpa using hat
section
variable (t : Int) (us : List Us) (ps : List Po) (ds : List Dn) (user id : Int) (e : Ev) (u : Us)
theorem ro : type_of% (an @ab (an @ac (an @ae (an @ah (an @aj (an @ak @ai)))))) := (an @ab (an @ac (an @ae (an @ah (an @aj (an @ak @ai))))))
theorem zl (hl : us.length ≤ 400000000000) (hs : us.Pairwise fun a b => a.id < b.id) (hu : fB us user = none) :
  aA Tryz.prog 20 [St t us ps ds, .int .u32 user, .int .u32 id, .agg e.cells] (.tup [St t us ps ds, .int .u64 0, .int .i64 4]) := by
 have pl := jd t us ps ds user (by omega) hs
 rw [u_no hs hu] at pl
 refine bl Tryz.func20 low20 (by simp [c20]) ?_
 simp only [c20, St, Ev.cells] at pl ⊢
 exact dz [] [] ro
theorem CH (hl : us.length ≤ 400000000000) (hs : us.Pairwise fun a b => a.id < b.id) (hu : fB us user = some u) (hle : u.evs.length ≤ 140737488351232) (hse : u.evs.Pairwise fun a b => a.id < b.id)
  (he : e.fits) (hc : e.ch.length ≤ 14073748835123) (h : id = 0 ∨ jU e = false) :
  aA Tryz.prog 20 [St t us ps ds, .int .u32 user, .int .u32 id, .agg e.cells] (.tup [St t us ps ds, .int .u64 0, .int .i64 2]) := by
 obtain ⟨h1, h2, h3, h4⟩ := yp hs hu
 have pl := jd t us ps ds user (by omega) hs
 rw [h2] at pl
 have en := lG u id hle hse
 have hr := fY h1
 have me := tV e he hc
 generalize fQ Us.id us user = k at pl hr h3
 generalize fD En.id u.evs (fQ En.id u.evs id) id = x at en
 refine bl Tryz.func20 low20 (by simp [c20]) ?_
 simp only [c20, St, Ev.cells, Us.row] at pl en me ⊢
 by_cases hi : id = 0
 ·have c1 : (id == 0) = true := by simpa using hi
  exact dz [] [] (an ro (an c1 (an hr @Us.row.eq_1)))
 ·have c1 : (id == 0) = false := by simpa using hi
  rw [show jU e = false from h.resolve_left hi] at me
  exact dz [] [] (an ro (an c1 (an hr @Us.row.eq_1)))
theorem xE (hl : us.length ≤ 400000000000) (hs : us.Pairwise fun a b => a.id < b.id) (hu : fB us user = some u) (hle : u.evs.length ≤ 140737488351232) (hse : u.evs.Pairwise fun a b => a.id < b.id)
  (he : e.fits) (hc : e.ch.length ≤ 14073748835123) (hi : id ≠ 0) (hm : jU e = true) (hn : fK u.evs id = none) (hq : 64 ≤ u.evs.length) :
  aA Tryz.prog 20 [St t us ps ds, .int .u32 user, .int .u32 id, .agg e.cells] (.tup [St t us ps ds, .int .u64 0, .int .i64 6]) := by
 obtain ⟨h1, h2, h3, h4⟩ := yp hs hu
 have pl := jd t us ps ds user (by omega) hs
 rw [h2] at pl
 have en := lG u id hle hse
 have hfe := ll (id := id) hse
 rw [hn] at hfe
 rw [← hfe] at en
 have hr := fY h1
 have me := tV e he hc
 rw [hm] at me
 generalize fQ Us.id us user = k at pl hr h3
 have c1 : (id == 0) = false := by simpa using hi
 have c2 : ((u.evs.length : Int) ≥ 64) = True := by simp; omega
 refine bl Tryz.func20 low20 (by simp [c20]) ?_
 simp only [c20, St, Ev.cells, Us.row, Option.isSome_none] at pl en me ⊢
 exact dz [] [] (an ro (an c1 (an c2 (an hr @Us.row.eq_1))))
set_option maxHeartbeats 4000000 in
theorem pe_ok (hl : us.length ≤ 400000000000) (hs : us.Pairwise fun a b => a.id < b.id) (hu : fB us user = some u) (hle : u.evs.length ≤ 400000000000) (hse : u.evs.Pairwise fun a b => a.id < b.id)
  (he : e.fits) (hc : e.ch.length ≤ 14073748835123) (hi : id ≠ 0) (hm : jU e = true) (hq : (fK u.evs id).isSome = true ∨ u.evs.length < 64) :
  aA Tryz.prog 20 [St t us ps ds, .int .u32 user, .int .u32 id, .agg e.cells] (.tup [St t (us.map (rep (pq u id e))) ps ds, .int .u64 (IntKind.u64.wrap (u.ver + 1)), .int .i64 0]) := by
 obtain ⟨h1, h2, h3, h4⟩ := yp hs hu
 have pl := jd t us ps ds user (by omega) hs
 rw [h2] at pl
 have en := lG u id (by omega) hse
 have hfe := ll (id := id) hse
 have hr := fY h1
 have me := tV e he hc
 rw [hm] at me
 have w1 := yq t us ps ds (fQ Us.id us user) (pq u id e) h3 hl
 rw [rU (pq u id e) us _ u hs h1 rfl] at w1
 generalize us.map (rep (pq u id e)) = us' at w1 ⊢
 generalize fQ Us.id us user = k at pl hr h3 w1
 have c1 : (id == 0) = false := by simpa using hi
 refine bl Tryz.func20 low20 (by simp [c20]) ?_
 simp only [c20, St, Ev.cells, Us.row, pq] at pl en me w1 ⊢
 cases hat : fD En.id u.evs (fQ En.id u.evs id) id with
 | true =>
  have sp := Ao e hse hat
  rw [hat] at en
  obtain ⟨x, hx, hxi⟩ : ∃ x, u.evs[fQ En.id u.evs id]? = some x ∧ x.id = id := by
   obtain ⟨x, q1, q2, _⟩ := ne En.id id u.evs hse hat
   exact ⟨x, q2, q1⟩
  have hlt := (List.getElem?_eq_some_iff.1 hx).1
  rw [← sp] at w1
  generalize fQ En.id u.evs id = j at en w1 hx hlt
  have hrx := gK hx
  have hne : bA u.evs ≠ [] := by
   cases hh : u.evs with
   | nil => rw [hh] at hlt; simp at hlt
   | cons => simp [bA]
  have ce := tG false (bA u.evs) hne (jZ u.evs) (by rw [ah]; omega)
  rw [ah] at ce
  have hie : (bA u.evs).isEmpty = false := by simpa using hne
  have hse2 : (bA u.evs).set j (En.row ⟨id, e⟩) = bA (u.evs.set j ⟨id, e⟩) := by simp [bA, List.map_set]
  rw [← hxi] at hse2
  simp only [En.row] at hse2
  rw [← hxi] at w1
  have w2 := w1.toG rfl rfl
  repeat' ((first | refine dV ?_ | refine cY ?_ | refine ci ?_ | refine dS ?_ | refine cW rfl ?_ | refine fP ?_ | refine dT ?_ | refine cj ?_ | refine dU mixed ?_ | refine cX mixed ?_ | with_reducible refine bp ?_ | with_reducible refine bn ?_ | with_reducible refine bo ?_ | with_reducible refine gX (f := .c (.fn 47 [])) ?_ | with_reducible refine gB (f := .c (.fn 47 [])) ?_ | with_reducible refine iJ (f := .c (.fn 32 [])) (z := [4]) (q := []) ?_ | with_reducible refine hZ (f := .c (.fn 32 [])) (z := [4]) (q := []) ?_ | with_reducible refine da ?_ | with_reducible refine ck ?_ | refine az (pl) ?_ ?_ | refine az (en) ?_ ?_ | refine az (me) ?_ ?_ | with_reducible refine db (ce) (by simp) ?_ | with_reducible refine db (w2) (by simp) ?_ | simp (disch := omega) only [kL, il, iM, iL, lD, Int.tdiv_eq_ediv_of_nonneg, Int.tmod_eq_emod_of_nonneg] | (with_reducible refine bq rfl rfl ?_ ?_; (focus ((try simp only [ab, ac, ae, ah, aj, ak, ai, reduceIte, Int.natCast_nonneg, Int.le_refl, List.length_append, List.length_map, Nat.sub_zero]) <;> ((repeat' (with_reducible refine And.intro ?_ ?_)) <;> first | exact trivial | assumption | (simp; done) | (simp only [List.length_map] at *; omega) | omega | (simp [D.cells, D.ok, D.one, D.pt, D.pt1]; done))))) | (refine ax (fun hc => ?_) (fun hc => ?_) <;> (try simp only [hc]) <;> (try simp at hc)) | (refine aN (fun hc => ?_) (fun hc => ?_) <;> (try simp only [hc]) <;> (try simp at hc)) | (with_reducible refine And.intro ?_ ?_; (focus ((repeat' (with_reducible refine And.intro ?_ ?_)) <;> first | exact trivial | assumption | (simp; done) | (simp only [List.length_map] at *; omega) | omega | (simp [D.cells, D.ok, D.one, D.pt, D.pt1]; done)))) | (with_reducible intro x hx) | omega) <;> (try simp only [ab, ac, ae, ah, aj, ak, ai, c1, hr, hrx, hie, hse2, Us.row, En.row, aB, aw, ft, eT, eQ, eP, eN, eS, eO, eI, eH, eF, eK, eM, eG, eL, eJ, eU, eV, fq, dN, dO, cL, dQ, dF, dE, fe, eY, gr, gw, dK, dP, eX, cO, fg, fh, ff, fk, gu, gt, cR, aX, aG, cf, dM, bL, bM, aW, aB, bN, eZ, cK, cS, aY, aH, aI, cQ, aF, aU, aw, aV, eW, dJ, bg, bZ, bY, bh, bf, bX, bW, aJ, bE, cy, cw, cx, cv, fc, cz, im, fu, cB, bO, dL, bF, aT, cM, aS, aE, aR, fm, cA, aM, aq, ao, am, dH, cD, cE, dI, cF, dG, bS, fv, dR, bU, bc, bT, ba, bV, be, D.names, D.namesL, aO, dg, aK, df, dh, aL, ay, cP, bK, bI, bG, bJ, bH, dD, dC, aZ, dj, di, cg, Nat.reduceBEq, cH, cG, iF, iE, dq, reduceIte, Nat.reduceEqDiff, Nat.reduceAdd, Nat.reduceSub, Nat.reduceMul, Nat.reduceLT, Nat.reduceLeDiff, reduceCtorEq, ia, em, eo, jA, dY, cT, kM, gf, kR, io, ky, gh, ip, gg, gi, iy, eu, ir, iu, iq, iv, kQ, kP, ee, dp, gb, fE, fN, splice, D.cells, D.ok, D.one, D.pt, D.pt1, D.pt0, D.norm1, D.norm, cond_true, cond_false, true_and, and_true, and_self, Bool.true_and, Bool.and_true, Bool.false_and, Bool.and_false, Bool.not_true, Bool.not_false, Bool.true_or, Bool.false_or, Bool.or_true, Bool.or_false, List.getElem?_cons_zero, List.getElem?_cons_succ, List.getElem?_nil, List.length_cons, List.length_nil, List.length_map, List.length_append, List.length_set, List.length_take, List.length_drop, List.length_replicate, List.take_succ_cons, List.take_zero, List.take_nil, List.drop_succ_cons, List.drop_zero, List.drop_nil, List.cons_append, List.nil_append, List.append_nil, List.map_cons, List.map_nil, List.all_cons, List.all_nil, List.set_cons_zero, List.set_cons_succ, List.isEmpty_cons, List.isEmpty_nil, List.forall_mem_cons, List.not_mem_nil, List.forall_mem_nil, false_imp_iff, implies_true, ne_eq, not_false_eq_true, Option.map_some, Option.map_none, Nat.zero_add, Nat.add_zero, Nat.sub_self, Int.toNat_natCast, Int.reduceToNat, Int.reduceLT, Int.reduceLE, Int.reduceEq, Int.reduceBEq, beq_self_eq_true, Int.reduceNeg, decide_true, decide_false, IntKind.bits, Nat.min_eq_left, Int.reducePow, Nat.reducePow, Int.fdiv_eq_ediv_of_nonneg, Nat.lt_irrefl, Int.le_refl, Nat.le_refl, Int.natCast_nonneg, Nat.lt_add_one, Nat.zero_lt_succ, fJ, dX, dW, du, cV, aQ, D.sc, D.sc1, D.sc2, dZ, ek, cr, dm, cm, bk, cn, aD, aC, gA, ct, c0, Go.Vi.freeze, Go.Vi.bu, bv, bv.captL, au, dk, gC, List.flatten_cons, List.flatten_nil, dv, fM, dl, fr, D.ren, D.renL, List.getD_cons_zero, List.getD_cons_succ, List.nodup_cons, List.nodup_nil, List.mem_cons, or_false, false_or, cI, cJ, cd, cC, bQ, bR, bP, eA, List.reverse_nil, Option.some.injEq, D.bool.injEq, D.int.injEq, D.str.injEq, D.agg.injEq, D.tup.injEq, D.list.injEq, D.ptr.injEq, D.own.injEq, List.cons.injEq, dB]))
 | false =>
  have sp := zb e hse hat
  rw [hat] at en hfe
  have hq' : u.evs.length < 64 := by
   rcases hq with h | h
   ·rw [hfe] at h; cases h
   ·exact h
  have c2 : ((u.evs.length : Int) ≥ 64) = False := by simp; omega
  rw [← sp] at w1
  have hjl := oE En.id u.evs id
  generalize fQ En.id u.evs id = j at en w1 hjl
  cases hev : u.evs with
  | nil =>
   have hj : j = 0 := by rw [hev] at hjl; simpa using hjl
   subst hj
   have hev' : bA u.evs = [] := by rw [hev]; rfl
   have ie := y5 (En.row ⟨id, e⟩) rfl true (some false)
   rw [hev] at w1
   rw [hev'] at en
   simp only [bA, List.map_nil, List.take_nil, List.drop_nil, List.nil_append, List.map_cons, En.row] at w1 ie
   have w2 := w1.toG rfl rfl
   have c3 : (((0 : Nat) : Int) ≥ 64) = False := by simp
   have c4 : ((0 : Int) ≥ 64) = False := by simp
   repeat' ((first | refine dV ?_ | refine cY ?_ | refine ci ?_ | refine dS ?_ | refine cW rfl ?_ | refine fP ?_ | refine dT ?_ | refine cj ?_ | refine dU mixed ?_ | refine cX mixed ?_ | with_reducible refine bp ?_ | with_reducible refine bn ?_ | with_reducible refine bo ?_ | with_reducible refine gX (f := .c (.fn 47 [])) ?_ | with_reducible refine gB (f := .c (.fn 47 [])) ?_ | with_reducible refine gX (f := .c (.fn 48 [])) ?_ | with_reducible refine gB (f := .c (.fn 48 [])) ?_ | with_reducible refine iJ (f := .c (.fn 32 [])) (z := [4]) (q := []) ?_ | with_reducible refine hZ (f := .c (.fn 32 [])) (z := [4]) (q := []) ?_ | with_reducible refine da ?_ | with_reducible refine ck ?_ | refine az (pl) ?_ ?_ | refine az (en) ?_ ?_ | refine az (me) ?_ ?_ | with_reducible refine db (yM _) (by simp) ?_ | with_reducible refine db (ie) (by simp) ?_ | with_reducible refine db (w2) (by simp) ?_ | simp (disch := omega) only [kL, il, iM, iL, lD, Int.tdiv_eq_ediv_of_nonneg, Int.tmod_eq_emod_of_nonneg] | (with_reducible refine bq rfl rfl ?_ ?_; (focus ((try simp only [ab, ac, ae, ah, aj, ak, ai, reduceIte, Int.natCast_nonneg, Int.le_refl, List.length_append, List.length_map, Nat.sub_zero]) <;> ((repeat' (with_reducible refine And.intro ?_ ?_)) <;> first | exact trivial | assumption | (simp; done) | (simp only [List.length_map] at *; omega) | omega | (simp [D.cells, D.ok, D.one, D.pt, D.pt1]; done))))) | (refine ax (fun hc => ?_) (fun hc => ?_) <;> (try simp only [hc]) <;> (try simp at hc)) | (refine aN (fun hc => ?_) (fun hc => ?_) <;> (try simp only [hc]) <;> (try simp at hc)) | (with_reducible refine And.intro ?_ ?_; (focus ((repeat' (with_reducible refine And.intro ?_ ?_)) <;> first | exact trivial | assumption | (simp; done) | (simp only [List.length_map] at *; omega) | omega | (simp [D.cells, D.ok, D.one, D.pt, D.pt1]; done)))) | (with_reducible intro x hx) | omega) <;> (try simp only [ab, ac, ae, ah, aj, ak, ai, c1, c3, c4, hr, hev', Us.row, En.row, aB, aw, ft, eT, eQ, eP, eN, eS, eO, eI, eH, eF, eK, eM, eG, eL, eJ, eU, eV, fq, dN, dO, cL, dQ, dF, dE, fe, eY, gr, gw, dK, dP, eX, cO, fg, fh, ff, fk, gu, gt, cR, aX, aG, cf, dM, bL, bM, aW, aB, bN, eZ, cK, cS, aY, aH, aI, cQ, aF, aU, aw, aV, eW, dJ, bg, bZ, bY, bh, bf, bX, bW, aJ, bE, cy, cw, cx, cv, fc, cz, im, fu, cB, bO, dL, bF, aT, cM, aS, aE, aR, fm, cA, aM, aq, ao, am, dH, cD, cE, dI, cF, dG, bS, fv, dR, bU, bc, bT, ba, bV, be, D.names, D.namesL, aO, dg, aK, df, dh, aL, ay, cP, bK, bI, bG, bJ, bH, dD, dC, aZ, dj, di, cg, Nat.reduceBEq, cH, cG, iF, iE, dq, reduceIte, Nat.reduceEqDiff, Nat.reduceAdd, Nat.reduceSub, Nat.reduceMul, Nat.reduceLT, Nat.reduceLeDiff, reduceCtorEq, ia, em, eo, jA, dY, cT, kM, gf, kR, io, ky, gh, ip, gg, gi, iy, eu, ir, iu, iq, iv, kQ, kP, ee, dp, gb, fE, fN, splice, D.cells, D.ok, D.one, D.pt, D.pt1, D.pt0, D.norm1, D.norm, cond_true, cond_false, true_and, and_true, and_self, Bool.true_and, Bool.and_true, Bool.false_and, Bool.and_false, Bool.not_true, Bool.not_false, Bool.true_or, Bool.false_or, Bool.or_true, Bool.or_false, List.getElem?_cons_zero, List.getElem?_cons_succ, List.getElem?_nil, List.length_cons, List.length_nil, List.length_map, List.length_append, List.length_set, List.length_take, List.length_drop, List.length_replicate, List.take_succ_cons, List.take_zero, List.take_nil, List.drop_succ_cons, List.drop_zero, List.drop_nil, List.cons_append, List.nil_append, List.append_nil, List.map_cons, List.map_nil, List.all_cons, List.all_nil, List.set_cons_zero, List.set_cons_succ, List.isEmpty_cons, List.isEmpty_nil, List.forall_mem_cons, List.not_mem_nil, List.forall_mem_nil, false_imp_iff, implies_true, ne_eq, not_false_eq_true, Option.map_some, Option.map_none, Nat.zero_add, Nat.add_zero, Nat.sub_self, Int.toNat_natCast, Int.reduceToNat, Int.reduceLT, Int.reduceLE, Int.reduceEq, Int.reduceBEq, beq_self_eq_true, Int.reduceNeg, decide_true, decide_false, IntKind.bits, Nat.min_eq_left, Int.reducePow, Nat.reducePow, Int.fdiv_eq_ediv_of_nonneg, Nat.lt_irrefl, Int.le_refl, Nat.le_refl, Int.natCast_nonneg, Nat.lt_add_one, Nat.zero_lt_succ, fJ, dX, dW, du, cV, aQ, D.sc, D.sc1, D.sc2, dZ, ek, cr, dm, cm, bk, cn, aD, aC, gA, ct, c0, Go.Vi.freeze, Go.Vi.bu, bv, bv.captL, au, dk, gC, List.flatten_cons, List.flatten_nil, dv, fM, dl, fr, D.ren, D.renL, List.getD_cons_zero, List.getD_cons_succ, List.nodup_cons, List.nodup_nil, List.mem_cons, or_false, false_or, cI, cJ, cd, cC, bQ, bR, bP, eA, List.reverse_nil, Option.some.injEq, D.bool.injEq, D.int.injEq, D.str.injEq, D.agg.injEq, D.tup.injEq, D.list.injEq, D.ptr.injEq, D.own.injEq, List.cons.injEq, dB]))
  | cons y ys =>
   have hne : bA u.evs ≠ [] := by rw [hev]; simp [bA]
   have ce := tG false (bA u.evs) hne (jZ u.evs) (by rw [ah]; omega)
   have ie := inE_p (bA u.evs) j (En.row ⟨id, e⟩) true (some false) hne (jZ u.evs) rfl (sL u.evs) (by simp [En.row, D.pt1]) (by rw [ah]; omega) (by rw [ah]; exact hjl)
   rw [ah] at ce ie
   have hrw : List.take j (bA u.evs) ++ En.row ⟨id, e⟩ :: List.drop j (bA u.evs) = bA (u.evs.take j ++ ⟨id, e⟩ :: u.evs.drop j) := by simp [bA, List.map_take, List.map_drop]
   rw [hrw] at ie
   have hll : (u.evs.take j ++ ⟨id, e⟩ :: u.evs.drop j).length = u.evs.length + 1 := by simp; omega
   generalize u.evs.take j ++ ⟨id, e⟩ :: u.evs.drop j = evs' at ie w1 hll
   simp only [En.row] at ie
   have w2 := w1.toG rfl rfl
   repeat' ((first | refine dV ?_ | refine cY ?_ | refine ci ?_ | refine dS ?_ | refine cW rfl ?_ | refine fP ?_ | refine dT ?_ | refine cj ?_ | refine dU mixed ?_ | refine cX mixed ?_ | with_reducible refine bp ?_ | with_reducible refine bn ?_ | with_reducible refine bo ?_ | with_reducible refine gX (f := .c (.fn 47 [])) ?_ | with_reducible refine gB (f := .c (.fn 47 [])) ?_ | with_reducible refine gX (f := .c (.fn 48 [])) ?_ | with_reducible refine gB (f := .c (.fn 48 [])) ?_ | with_reducible refine iJ (f := .c (.fn 32 [])) (z := [4]) (q := []) ?_ | with_reducible refine hZ (f := .c (.fn 32 [])) (z := [4]) (q := []) ?_ | with_reducible refine da ?_ | with_reducible refine ck ?_ | refine az (pl) ?_ ?_ | refine az (en) ?_ ?_ | refine az (me) ?_ ?_ | with_reducible refine db (ce) (by simp) ?_ | with_reducible refine db (ie) (by simp) ?_ | with_reducible refine db (w2) (by simp) ?_ | simp (disch := omega) only [kL, il, iM, iL, lD, Int.tdiv_eq_ediv_of_nonneg, Int.tmod_eq_emod_of_nonneg] | (with_reducible refine bq rfl rfl ?_ ?_; (focus ((try simp only [ab, ac, ae, ah, aj, ak, ai, reduceIte, Int.natCast_nonneg, Int.le_refl, List.length_append, List.length_map, Nat.sub_zero]) <;> ((repeat' (with_reducible refine And.intro ?_ ?_)) <;> first | exact trivial | assumption | (simp; done) | (simp only [List.length_map] at *; omega) | omega | (simp [D.cells, D.ok, D.one, D.pt, D.pt1]; done))))) | (refine ax (fun hc => ?_) (fun hc => ?_) <;> (try simp only [hc]) <;> (try simp at hc)) | (refine aN (fun hc => ?_) (fun hc => ?_) <;> (try simp only [hc]) <;> (try simp at hc)) | (with_reducible refine And.intro ?_ ?_; (focus ((repeat' (with_reducible refine And.intro ?_ ?_)) <;> first | exact trivial | assumption | (simp; done) | (simp only [List.length_map] at *; omega) | omega | (simp [D.cells, D.ok, D.one, D.pt, D.pt1]; done)))) | (with_reducible intro x hx) | omega) <;> (try simp only [ab, ac, ae, ah, aj, ak, ai, c1, c2, hr, hll, Us.row, En.row, aB, aw, ft, eT, eQ, eP, eN, eS, eO, eI, eH, eF, eK, eM, eG, eL, eJ, eU, eV, fq, dN, dO, cL, dQ, dF, dE, fe, eY, gr, gw, dK, dP, eX, cO, fg, fh, ff, fk, gu, gt, cR, aX, aG, cf, dM, bL, bM, aW, aB, bN, eZ, cK, cS, aY, aH, aI, cQ, aF, aU, aw, aV, eW, dJ, bg, bZ, bY, bh, bf, bX, bW, aJ, bE, cy, cw, cx, cv, fc, cz, im, fu, cB, bO, dL, bF, aT, cM, aS, aE, aR, fm, cA, aM, aq, ao, am, dH, cD, cE, dI, cF, dG, bS, fv, dR, bU, bc, bT, ba, bV, be, D.names, D.namesL, aO, dg, aK, df, dh, aL, ay, cP, bK, bI, bG, bJ, bH, dD, dC, aZ, dj, di, cg, Nat.reduceBEq, cH, cG, iF, iE, dq, reduceIte, Nat.reduceEqDiff, Nat.reduceAdd, Nat.reduceSub, Nat.reduceMul, Nat.reduceLT, Nat.reduceLeDiff, reduceCtorEq, ia, em, eo, jA, dY, cT, kM, gf, kR, io, ky, gh, ip, gg, gi, iy, eu, ir, iu, iq, iv, kQ, kP, ee, dp, gb, fE, fN, splice, D.cells, D.ok, D.one, D.pt, D.pt1, D.pt0, D.norm1, D.norm, cond_true, cond_false, true_and, and_true, and_self, Bool.true_and, Bool.and_true, Bool.false_and, Bool.and_false, Bool.not_true, Bool.not_false, Bool.true_or, Bool.false_or, Bool.or_true, Bool.or_false, List.getElem?_cons_zero, List.getElem?_cons_succ, List.getElem?_nil, List.length_cons, List.length_nil, List.length_map, List.length_append, List.length_set, List.length_take, List.length_drop, List.length_replicate, List.take_succ_cons, List.take_zero, List.take_nil, List.drop_succ_cons, List.drop_zero, List.drop_nil, List.cons_append, List.nil_append, List.append_nil, List.map_cons, List.map_nil, List.all_cons, List.all_nil, List.set_cons_zero, List.set_cons_succ, List.isEmpty_cons, List.isEmpty_nil, List.forall_mem_cons, List.not_mem_nil, List.forall_mem_nil, false_imp_iff, implies_true, ne_eq, not_false_eq_true, Option.map_some, Option.map_none, Nat.zero_add, Nat.add_zero, Nat.sub_self, Int.toNat_natCast, Int.reduceToNat, Int.reduceLT, Int.reduceLE, Int.reduceEq, Int.reduceBEq, beq_self_eq_true, Int.reduceNeg, decide_true, decide_false, IntKind.bits, Nat.min_eq_left, Int.reducePow, Nat.reducePow, Int.fdiv_eq_ediv_of_nonneg, Nat.lt_irrefl, Int.le_refl, Nat.le_refl, Int.natCast_nonneg, Nat.lt_add_one, Nat.zero_lt_succ, fJ, dX, dW, du, cV, aQ, D.sc, D.sc1, D.sc2, dZ, ek, cr, dm, cm, bk, cn, aD, aC, gA, ct, c0, Go.Vi.freeze, Go.Vi.bu, bv, bv.captL, au, dk, gC, List.flatten_cons, List.flatten_nil, dv, fM, dl, fr, D.ren, D.renL, List.getD_cons_zero, List.getD_cons_succ, List.nodup_cons, List.nodup_nil, List.mem_cons, or_false, false_or, cI, cJ, cd, cC, bQ, bR, bP, eA, List.reverse_nil, Option.some.injEq, D.bool.injEq, D.int.injEq, D.str.injEq, D.agg.injEq, D.tup.injEq, D.list.injEq, D.ptr.injEq, D.own.injEq, List.cons.injEq, dB]))
   skip
end
end Go.Proofs.YtapennlmboabeaaGreat

namespace Go.Proofs.YtapennlmboabeaaGreat
open Go Go.Vi
theorem xB (l : List En) (k : Nat) (z : List D) (hk : k < l.length) : fT 0 (l.length - 1) l.length (List.take k (bA l) ++ List.drop (k + 1) (bA l) ++ [z]) = bA (l.take k ++ l.drop (k + 1)) := by
 unfold fT
 rw [if_neg (by omega), List.drop_zero, List.take_left' (by simp only [List.length_append, List.length_take, List.length_drop, ah]; omega)]
 simp [bA, List.map_take, List.map_drop]
section
variable (t : Int) (us : List Us) (ps : List Po) (ds : List Dn) (user id : Int) (u : Us)
theorem oW : type_of% (an @ab (an @ac (an @ae (an @ah (an @aj (an @ak @ai)))))) := (an @ab (an @ac (an @ae (an @ah (an @aj (an @ak @ai))))))
theorem yK (hl : us.length ≤ 400000000000) (hs : us.Pairwise fun a b => a.id < b.id) (hu : fB us user = none) :
  aA Tryz.prog 22 [St t us ps ds, .int .u32 user, .int .u32 id] (.tup [St t us ps ds, .int .u64 0, .int .i64 4]) := by
 have pl := jd t us ps ds user (by omega) hs
 rw [u_no hs hu] at pl
 refine bl Tryz.func22 low22 (by simp [c22]) ?_
 simp only [c22, St] at pl ⊢
 exact dz [] [] oW
theorem ca_no (hl : us.length ≤ 400000000000) (hs : us.Pairwise fun a b => a.id < b.id) (hu : fB us user = some u) (hle : u.evs.length ≤ 140737488351232) (hse : u.evs.Pairwise fun a b => a.id < b.id) (hn : fK u.evs id = none) :
  aA Tryz.prog 22 [St t us ps ds, .int .u32 user, .int .u32 id] (.tup [St t us ps ds, .int .u64 0, .int .i64 4]) := by
 obtain ⟨h1, h2, h3, h4⟩ := yp hs hu
 have pl := jd t us ps ds user (by omega) hs
 rw [h2] at pl
 have en := lG u id hle hse
 have hfe := ll (id := id) hse
 rw [hn] at hfe
 rw [← hfe] at en
 have hr := fY h1
 generalize fQ Us.id us user = k at pl hr h3
 refine bl Tryz.func22 low22 (by simp [c22]) ?_
 simp only [c22, St, Us.row, Option.isSome_none] at pl en ⊢
 exact dz [] [] (an oW (an hr @Us.row.eq_1))
set_option maxHeartbeats 4000000 in
theorem ca_ok (hl : us.length ≤ 400000000000) (hs : us.Pairwise fun a b => a.id < b.id) (hu : fB us user = some u) (hle : u.evs.length ≤ 400000000000) (hse : u.evs.Pairwise fun a b => a.id < b.id) (hq : (fK u.evs id).isSome = true) :
  aA Tryz.prog 22 [St t us ps ds, .int .u32 user, .int .u32 id] (.tup [St t (us.map (rep (oi u id))) ps ds, .int .u64 (IntKind.u64.wrap (u.ver + 1)), .int .i64 0]) := by
 obtain ⟨h1, h2, h3, h4⟩ := yp hs hu
 have pl := jd t us ps ds user (by omega) hs
 rw [h2] at pl
 have en := lG u id (by omega) hse
 have hat := ll (id := id) hse
 rw [hq] at hat
 have hat := hat.symm
 have hr := fY h1
 have w1 := yq t us ps ds (fQ Us.id us user) (oi u id) h3 hl
 rw [rU (oi u id) us _ u hs h1 rfl] at w1
 generalize us.map (rep (oi u id)) = us' at w1 ⊢
 generalize fQ Us.id us user = k at pl hr h3 w1
 refine bl Tryz.func22 low22 (by simp [c22]) ?_
 simp only [c22, St, Us.row, oi] at pl en w1 ⊢
 have sp := yS hse hat
 rw [hat] at en
 have hlt : fQ En.id u.evs id < u.evs.length := by
  obtain ⟨x, _, q2, _⟩ := ne En.id id u.evs hse hat
  exact (List.getElem?_eq_some_iff.1 q2).1
 rw [← sp] at w1
 generalize fQ En.id u.evs id = j at en w1 hlt
 have hne : bA u.evs ≠ [] := by
  cases hh : u.evs with
  | nil => rw [hh] at hlt; simp at hlt
  | cons => simp [bA]
 have ce := tG false (bA u.evs) hne (jZ u.evs) (by rw [ah]; omega)
 have de := BA (bA u.evs) j (jZ u.evs) (sL u.evs) (by rw [ah]; omega) (by rw [ah]; omega)
 have ow := xB u.evs j Da hlt
 have oe : (List.take j (bA u.evs) ++ List.drop (j + 1) (bA u.evs) ++ [Da]).length = u.evs.length := by simp only [List.length_append, List.length_take, List.length_drop, ah, List.length_cons, List.length_nil]; omega
 rw [ah] at ce de
 generalize List.take j (bA u.evs) ++ List.drop (j + 1) (bA u.evs) ++ [Da] = M at de ow oe
 generalize u.evs.take j ++ u.evs.drop (j + 1) = evs' at ow w1
 have w2 := w1.toG rfl rfl
 exact dz [47, 51] [(32, [3], [])] (an oW (an hr (an oe (an ow (an @Us.row.eq_1 @En.row.eq_1)))))
def zE : Ev := ⟨0, 0, false, false, ⟨0, 0, 0, 0, [], [], [], [], 0⟩, [], [], []⟩
def mh (us : List Us) (user id : Int) : D := .tup [.agg (((fK ((fB us user).getD zU).evs id).map En.ev).getD zE).cells, .bool (fK ((fB us user).getD zU).evs id).isSome]
--HAS book.Event
theorem yY (hl : us.length ≤ 400000000000) (hs : us.Pairwise fun a b => a.id < b.id) (hle : ∀ u ∈ us, u.evs.length ≤ 140737488351232) (hse : ∀ u ∈ us, u.evs.Pairwise fun a b => a.id < b.id) :
  aA Tryz.prog 24 [St t us ps ds, .int .u32 user, .int .u32 id] (mh us user id) := by
 have fp := tF t us ps ds user (by omega) hs
 unfold kD at fp
 unfold mh
 have hw : ((fB us user).getD zU).evs.length ≤ 140737488351232 ∧ ((fB us user).getD zU).evs.Pairwise fun a b => a.id < b.id := by
  cases h : fB us user with
  | none => simp [zU]
  | some u => exact ⟨hle u (gq h).1, hse u (gq h).1⟩
 generalize (fB us user).getD zU = u at fp hw ⊢
 generalize (fB us user).isSome = b at fp
 have en := lG u id hw.1 hw.2
 have hfe := ll (id := id) hw.2
 have hf := jQ En.id u.evs id hw.2
 have hff : fK u.evs id = u.evs.find? fun u => u.id == id := rfl
 rw [← hff] at hf
 refine bl Tryz.func24 low24 (by simp [c24]) ?_
 simp only [c24, St, Us.row] at fp en ⊢
 cases hat : fD En.id u.evs (fQ En.id u.evs id) id with
 | true =>
  rw [if_pos hat] at hf
  obtain ⟨x, hx⟩ : ∃ x, u.evs[fQ En.id u.evs id]? = some x := by
   obtain ⟨x, _, q2, _⟩ := ne En.id id u.evs hw.2 hat
   exact ⟨x, q2⟩
  have hlt := (List.getElem?_eq_some_iff.1 hx).1
  rw [hf, hx]
  rw [hat] at en
  simp only [Option.map_some, Option.getD_some, Option.isSome_some, Ev.cells]
  generalize fQ En.id u.evs id = j at en hx hlt
  have hrx := gK hx
  exact dz [] [] (an oW (an hrx @En.row.eq_1))
 | false =>
  rw [if_neg (by rw [hat]; simp)] at hf
  rw [hf]
  rw [hat] at en
  simp only [Option.map_none, Option.getD_none, Option.isSome_none, Ev.cells, zE, ar, bz, ed, List.map_nil]
  exact dz [] [] oW
--END
end
end Go.Proofs.YtapennlmboabeaaGreat

namespace Go.Proofs.YtapennlmboabeaaGreat
open Go Go.Vi
def wB (us : List Us) (n : Nat) : Prop := us.length ≤ 1000000 ∧ (us.Pairwise fun a b => a.id < b.id) ∧ ∀ u ∈ us, u.fit ∧ (u.evs.Pairwise fun a b => a.id < b.id) ∧ u.evs.length ≤ n
def pn (us : List Us) (user id : Int) (e : Ev) : List Us × Int × Int := match fB us user with
 | none => (us, 0, 4)
 | some u => if id = 0 ∨ jU e = false then (us, 0, 2) else if (fK u.evs id).isSome = false ∧ 64 ≤ u.evs.length then (us, 0, 6) else (us.map (rep (pq u id e)), IntKind.u64.wrap (u.ver + 1), 0)
theorem CJ (t : Int) {us : List Us} (ps : List Po) (ds : List Dn) (user id : Int) {e : Ev} {n : Nat} (hw : wB us n) (hn : n ≤ 1000000) (he : e.fits) (hc : e.ch.length ≤ 14073748835123) :
  aA Tryz.prog 20 [St t us ps ds, .int .u32 user, .int .u32 id, .agg e.cells] (.tup [St t (pn us user id e).1 ps ds, .int .u64 (pn us user id e).2.1, .int .i64 (pn us user id e).2.2]) := by
 obtain ⟨w1, w2, w3⟩ := hw
 unfold pn
 cases hu : fB us user with
 | none => exact zl t us ps ds user id e (by omega) w2 hu
 | some u =>
  obtain ⟨_, h1, h2⟩ := w3 u (gq hu).1
  dsimp only
  by_cases h : id = 0 ∨ jU e = false
  ·rw [if_pos h]
   exact CH t us ps ds user id e u (by omega) w2 hu (by omega) h1 he hc h
  ·rw [if_neg h]
   have hi : id ≠ 0 := fun hh => h (.inl hh)
   have hm : jU e = true := by
    cases hh : jU e with
    | true => rfl
    | false => exact absurd (.inr hh) h
   by_cases hq : (fK u.evs id).isSome = false ∧ 64 ≤ u.evs.length
   ·rw [if_pos hq]
    have : fK u.evs id = none := by simpa using hq.1
    exact xE t us ps ds user id e u (by omega) w2 hu (by omega) h1 he hc hi hm this hq.2
   ·rw [if_neg hq]
    refine pe_ok t us ps ds user id e u (by omega) w2 hu (by omega) h1 he hc hi hm ?_
    cases hh : (fK u.evs id).isSome with
    | true => exact .inl rfl
    | false => exact .inr (by
     have : ¬ 64 ≤ u.evs.length := fun h64 => hq ⟨hh, h64⟩
     omega)
theorem oX {α : Type} (p q : α → Bool) (h : ∀ x, p x = true → q x = false) : ∀ l : List α, (l.filter p).length + (l.filter q).length ≤ l.length
 | [] => by simp
 | x :: l => by
  have ih := oX p q h l
  have hx := h x
  by_cases hp : p x = true
  ·have hq := hx hp
   simp [List.filter_cons, hp, hq]; omega
  ·by_cases hq : q x = true
   ·simp [List.filter_cons, hp, hq]; omega
   ·simp [List.filter_cons, hp, hq]; omega
theorem qH (l : List En) (id : Int) (e : Ev) : (jF l id e).length ≤ l.length + 1 := by
 have := oX (fun x : En => decide (x.id < id)) (fun x => decide (id < x.id)) (fun x => by simp; omega) l
 unfold jF
 simp only [List.length_append, List.length_cons]
 omega
theorem qg (l : List En) (id : Int) : (j1 l id).length ≤ l.length := by
 have := oX (fun x : En => decide (x.id < id)) (fun x => decide (id < x.id)) (fun x => by simp; omega) l
 unfold j1
 simp only [List.length_append]
 omega
theorem vP {l : List En} {id : Int} {e : Ev} {x : En} (h : x ∈ jF l id e) : x ∈ l ∨ x = ⟨id, e⟩ := by
 unfold jF at h
 simp only [List.mem_append, List.mem_filter, List.mem_cons] at h
 rcases h with h | h | h
 ·exact .inl h.1
 ·exact .inr h
 ·exact .inl h.1
theorem vr {l : List En} {id : Int} {x : En} (h : x ∈ j1 l id) : x ∈ l ∧ x.id ≠ id := by
 unfold j1 at h
 simp only [List.mem_append, List.mem_filter, decide_eq_true_eq] at h
 rcases h with h | h
 ·exact ⟨h.1, by omega⟩
 ·exact ⟨h.1, by omega⟩
theorem rC {l : List En} (id : Int) (e : Ev) (hs : l.Pairwise fun a b => a.id < b.id) : (jF l id e).Pairwise fun a b => a.id < b.id := by
 unfold jF
 rw [List.pairwise_append]
 refine ⟨hs.filter _, List.pairwise_cons.2 ⟨fun x hx => ?_, hs.filter _⟩, fun x hx y hy => ?_⟩
 ·simpa using (List.mem_filter.1 hx).2
 ·have h1 : x.id < id := by simpa using (List.mem_filter.1 hx).2
  rcases List.mem_cons.1 hy with rfl | hy
  ·exact h1
  ·have h2 : id < y.id := by simpa using (List.mem_filter.1 hy).2
   omega
theorem rg {l : List En} (id : Int) (hs : l.Pairwise fun a b => a.id < b.id) : (j1 l id).Pairwise fun a b => a.id < b.id := by
 unfold j1
 rw [List.pairwise_append]
 refine ⟨hs.filter _, hs.filter _, fun x hx y hy => ?_⟩
 have h1 : x.id < id := by simpa using (List.mem_filter.1 hx).2
 have h2 : id < y.id := by simpa using (List.mem_filter.1 hy).2
 omega
theorem xH {u : Us} {id : Int} {e : Ev} (hu : u.fit) (hl : u.evs.length ≤ 1000000) (he : e.fits) : (pq u id e).fit := by
 obtain ⟨h1, h2, h3⟩ := hu
 refine ⟨h1, ?_, fun x hx => ?_⟩
 ·have := qH u.evs id e
  show (jF u.evs id e).length ≤ _
  omega
 ·rcases vP (show x ∈ jF u.evs id e from hx) with h | h
  ·exact h3 x h
  ·rw [h]; exact he
theorem wR {u : Us} {id : Int} (hu : u.fit) : (oi u id).fit := by
 obtain ⟨h1, h2, h3⟩ := hu
 refine ⟨h1, ?_, fun x hx => h3 x (vr (show x ∈ j1 u.evs id from hx)).1⟩
 have := qg u.evs id
 show (j1 u.evs id).length ≤ _
 omega
theorem zy {us : List Us} {u' x : Us} (h : x ∈ us.map (rep u')) : x = u' ∨ x ∈ us := by
 obtain ⟨y, hy, rfl⟩ := List.mem_map.1 h
 unfold rep
 split
 ·exact .inl rfl
 ·exact .inr hy
theorem uj {us : List Us} (u' : Us) (hs : us.Pairwise fun a b => a.id < b.id) : (us.map (rep u')).Pairwise fun a b => a.id < b.id := by
 rw [List.pairwise_map]
 exact hs.imp fun h => by rw [xY, xY]; exact h
theorem wB.rep {us : List Us} {n m : Nat} {u' : Us} (hw : wB us n) (hm : n ≤ m) (h1 : u'.fit) (h2 : u'.evs.Pairwise fun a b => a.id < b.id) (h3 : u'.evs.length ≤ m) : wB (us.map (YtapennlmboabeaaGreat.rep u')) m := by
 obtain ⟨w1, w2, w3⟩ := hw
 refine ⟨by simpa using w1, uj u' w2, fun x hx => ?_⟩
 rcases zy hx with rfl | hx
 ·exact ⟨h1, h2, h3⟩
 ·obtain ⟨a, b, c⟩ := w3 x hx
  exact ⟨a, b, by omega⟩
theorem wB.put {us : List Us} {n : Nat} (user id : Int) {e : Ev} (hw : wB us n) (hn : n ≤ 999999) (he : e.fits) : wB (pn us user id e).1 (n + 1) := by
 have hw0 := hw
 obtain ⟨w1, w2, w3⟩ := hw
 have hw' : wB us (n + 1) := ⟨w1, w2, fun u hu => ⟨(w3 u hu).1, (w3 u hu).2.1, by have := (w3 u hu).2.2; omega⟩⟩
 unfold pn
 cases hu : fB us user with
 | none => exact hw'
 | some u =>
  obtain ⟨h0, h1, h2⟩ := w3 u (gq hu).1
  dsimp only
  split
  ·exact hw'
  ·split
   ·exact hw'
   ·refine hw0.rep (by omega) (xH h0 (by omega) he) (rC id e h1) ?_
    have := qH u.evs id e
    show (jF u.evs id e).length ≤ _
    omega
theorem sA {us : List Us} {user : Int} {u : Us} (h : fB us user = some u) : u.id = user := (gq h).2
end Go.Proofs.YtapennlmboabeaaGreat

namespace Go.Proofs.YtapennlmboabeaaGreat
open Go Go.Vi
theorem CT {t : Int} {us : List Us} {ps : List Po} {ds : List Dn} (hfs : iQ.fits ⟨t, us, ps, ds⟩) (g1 : hJ us ps ds = false) (g2 : mq us = true) : wB us 10 := by
 have h2 := lu.1 g2
 have hl : us.length ≤ 12 := by
  have : ¬ 12 < us.length := fun h => by simp [hJ, h] at g1
  omega
 have hu : ∀ u ∈ us, u.great = false := by
  simp only [hJ, Bool.or_eq_false_iff] at g1
  intro u hu
  have := List.any_eq_false.1 g1.1.2 u hu
  simpa using this
 refine ⟨by omega, h2.1, fun u hm => ⟨hfs.2.2.2.1 u hm, h2.2 u hm, ?_⟩⟩
 have := hu u hm
 simp only [Us.great, Bool.or_eq_false_iff, decide_eq_false_iff_not] at this
 omega
theorem sC {t : Int} {us us' : List Us} {ps : List Po} {ds : List Dn} {n : Nat} (hfs : iQ.fits ⟨t, us, ps, ds⟩) (hw : wB us' n) : iQ.fits ⟨t, us', ps, ds⟩ :=
 ⟨Nat.le_trans hw.1 (by omega), hfs.2.1, hfs.2.2.1, fun u hu => (hw.2.2 u hu).1, hfs.2.2.2.2⟩
theorem xj {e : Ev} (h : e.great = false) : e.ch.length ≤ 14073748835123 := by
 simp only [Ev.great, Bool.or_eq_false_iff, decide_eq_false_iff_not] at h
 omega
end Go.Proofs.YtapennlmboabeaaGreat
