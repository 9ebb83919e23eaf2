import Derived.Test.YtapennlmboabeaaGreatYI
import Derived.Test.YtapennlmboabeaaGreatVi33
set_option linter.unusedVariables false
set_option linter.unusedSimpArgs false
set_option linter.unnecessarySimpa false
namespace Go.Proofs.YtapennlmboabeaaGreat
open Go Go.Vi
structure Rs where
 l : List UInt8
 rb : Bool
 cb : Bool
def bx (m : Nat) (s : Rs) : Nat × Rs := ((iH m s.l s.rb).1, ⟨(iH m s.l s.rb).2.1, (iH m s.l s.rb).2.2, s.cb⟩)
def gT (s : Rs) : Int × Rs := (jC (iH 18446744073709551615 s.l s.rb).1, ⟨(iH 18446744073709551615 s.l s.rb).2.1, (iH 18446744073709551615 s.l s.rb).2.2, s.cb⟩)
def mb (lo hi : Int) (s : Rs) : Int × Rs := (jC (iH 18446744073709551615 s.l s.rb).1, ⟨(iH 18446744073709551615 s.l s.rb).2.1, (iH 18446744073709551615 s.l s.rb).2.2, s.cb || decide (jC (iH 18446744073709551615 s.l s.rb).1 < lo ∨ hi < jC (iH 18446744073709551615 s.l s.rb).1)⟩)
def rQ (s : Rs) : Bool × Rs := (decide ((iH 1 s.l s.rb).1 = 1), ⟨(iH 1 s.l s.rb).2.1, (iH 1 s.l s.rb).2.2, s.cb⟩)
theorem br (m : Nat) (hm : m < 18446744073709551616) (s : Rs) : (bx m s).2.l.length ≤ s.l.length ∧ (bx m s).1 ≤ m := by
 have := jX m s.l s.rb hm
 exact ⟨this.2, this.1⟩
theorem gQ (s : Rs) : (gT s).2.l.length ≤ s.l.length := (jX 18446744073709551615 s.l s.rb (by omega)).2
theorem lz (lo hi : Int) (s : Rs) : (mb lo hi s).2.l.length ≤ s.l.length := (jX 18446744073709551615 s.l s.rb (by omega)).2
theorem rR (s : Rs) : (rQ s).2.l.length ≤ s.l.length := (jX 1 s.l s.rb (by omega)).2
def iP {α : Type} (re : Rs → α × Rs) : Nat → Rs → List α → List α × Rs
 | 0, s, a => (a, s)
 | k + 1, s, a => if (re s).2.rb = true ∨ (re s).2.cb = true then (a, (re s).2) else iP re k (re s).2 (a ++ [(re s).1])
def ap {α : Type} (re : Rs → α × Rs) (most : Nat) (s : Rs) : List α × Rs := iP re (bx most s).1 (bx most s).2 []
theorem fw : type_of% (an @Wr.eq_1 (an @co (an @ab (an @ac (an @ae @dc))))) := (an @Wr.eq_1 (an @co (an @ab (an @ac (an @ae @dc)))))
set_option maxHeartbeats 8000000 in
theorem kI {α : Type} {F g n b : Nat} {fn : Func} {z : List D} {rw_ : α → List D} {re : Rs → α × Rs} (hF : Tryz.prog.funcs[F]? = some fn) (hL : al Tryz.prog fn = some (iN n b (some n) z)) (hg8 : g < bB) (hnp : 0 < n) (hbb : b ≤ 1000)
  (hz : z.length = n) (hrl : ∀ a, (rw_ a).length = n) (hz1 : z.all D.one = true) (hz2 : z.all D.pt1 = true) (hr1 : ∀ a, (rw_ a).all D.one = true) (hr2 : ∀ a, (rw_ a).all D.pt1 = true) (hn1 : ∀ a, (rw_ a).map D.norm1 = rw_ a)
  (hre : ∀ s, (re s).2.l.length ≤ s.l.length)
  (hel : ∀ s : Rs, s.l.length ≤ 1099511627776 → aa Tryz.prog g [.ptr 0 0 0 1, .ptr 1 0 0 1] [Va n z, Bx 2, Cr 3 s.cb, Rd s.l s.rb] (.tup []) [Va n (rw_ (re s).1), Bx 2, Cr 3 (re s).2.cb, Rd (re s).2.l (re s).2.rb])
  (s : Rs) (sz : Nat) (R : List D) (j most : Nat) (hR : R[j]? = some (.list (some true) true [])) (hz0 : R.length = sz) (hm : most < 1000000) (hl : s.l.length ≤ 1099511627776) :
  aa Tryz.prog F [.ptr 0 0 0 1, .ptr 2 0 j 1, .int .i64 most, .fn g [.ptr 3 0 0 1]] [Cr 1 s.cb, Rd s.l s.rb, Va sz R, Bx 0] (.tup [])
   [Cr 1 (ap re most s).2.cb, Rd (ap re most s).2.l (ap re most s).2.rb, Va sz (R.set j (L ((ap re most s).1.map rw_))), Bx 0] := by
 refine aP hF hL (by simp [iN]) ?_
 simp only [iN]
 have hzn : (z = []) = False := eq_false (fun h => by rw [h] at hz; simp at hz; omega)
 have hn : aa Tryz.prog 95 [.ptr 0 0 0 1, .ptr 2 0 0 1, .int .u64 most] [Cr 1 s.cb, Rd s.l s.rb, Va 1 [.int .u64 0]] (.tup []) [Cr 1 (bx most s).2.cb, Rd (bx most s).2.l (bx most s).2.rb, Va 1 [.int .u64 (bx most s).1]] := ml s.l s.rb s.cb 1 [.int .u64 0] 0 most rfl (by omega) (by omega) hl
 obtain ⟨X, hX⟩ : ∃ X, ap re most s = X := ⟨_, rfl⟩
 rw [hX]
 unfold ap at hX
 obtain ⟨g1, g2⟩ := br most (by omega) s
 generalize bx most s = q at hn hX g1 g2
 obtain ⟨cnt, s0⟩ := q
 dsimp only at hn hX g1 g2
 have hj : j < R.length := (List.getElem?_eq_some_iff.1 hR).1
 have z0 : (((0 : Nat) : Int)) = 0 := rfl
 refine mE 2 rfl rfl fun hpt => ?_
 have hpt : ∀ x ∈ R, x.pt1 = true := fun x hx => hpt R (by simp) x hx
 have own1 : ∀ d : D, (R.set j d)[j]? = some d := fun d => by rw [List.getElem?_set_self hj]
 have own2 : ∀ d e : D, (R.set j d).take j ++ [e] ++ (R.set j d).drop (j + 1) = R.set j e := fun d e => by
  rw [p9 (by rw [List.length_set]; exact hj), List.set_set]
 have pl5 : ∀ (σ : List Ob) (k m : Nat), cV (cr true [0, 1, 2, 3, 5] σ) (R.set j (.own 5 0 k m n none)) = some (R.set j (.own 4 0 k m n none)) := fun σ k m => jv hpt rfl
 have pl4 : ∀ (σ : List Ob) (k m : Nat), cV (cr true [0, 1, 2, 3, 4] σ) (R.set j (.own 4 0 k m n none)) = some (R.set j (.own 4 0 k m n none)) := fun σ k m => jv hpt rfl
 have plL : ∀ (σ : List Ob) (rows : List (List D)), cV (cr true [0, 1, 2, 3] σ) (R.set j (.list none false rows)) = some (R.set j (.list none false rows)) := fun σ rows => oF hpt rfl
 have allL : ∀ rows : List (List D), (R.set j (.list none false rows)).all D.pt1 = true := fun rows => ou hpt rfl
 have hz' : (j + 1 ≤ sz) = True := eq_true (by omega)
 refine wk [95] [] (an fw (an hR z0)) ?_
 refine gn (kU (l := 2) (j := 0) (i := j) (b := true) n true hnp rfl rfl rfl rfl hR) ?_
 refine av (ι := {p : Nat × Rs × List α // iP re p.1 p.2.1 p.2.2 = X ∧ p.2.2.length + p.1 = cnt ∧ p.2.1.l.length ≤ s0.l.length}) (fun p => ([(0, .ptr 0 0 0 1), (1, .ptr 2 0 j 1), (3, .fn g [.ptr 3 0 0 1]), (42, .int .u64 cnt), (43, .int .u64 p.1.2.2.length)],
  [Cr 1 p.1.2.1.cb, Rd p.1.2.1.l p.1.2.1.rb, ⟨true, false, false, false, sz, [R.set j (.own 4 0 p.1.2.2.length p.1.2.2.length n none)], some 0⟩, Bx 0, bw true n true (p.1.2.2.map rw_)])) (fun p => p.1.1) ⟨(cnt, s0, []), hX, by simp, Nat.le_refl _⟩ ?_ ?_
 ·simp only [List.length_nil, List.map_nil]
  exact fx [0, 1, 2, 3, 5] (an fw pl5)
  skip
 rintro ⟨⟨k, s1, xs⟩, hk1, hk2, hk3⟩ hk
 dsimp only at hk1 hk2 hk3 hk ⊢
 have fin : ∀ (env : fy) (ys : List α) (s2 : Rs) (ex : List Ob), lV [Cr 1 s.cb, Rd s.l s.rb, Va sz R, Bx 0] env (Cr 1 s2.cb :: Rd s2.l s2.rb :: ⟨true, false, false, false, sz, [R.set j (.own 4 0 ys.length ys.length n none)], some 0⟩ :: Bx 0 :: bw true n true (ys.map rw_) :: ex) env
   (Cr 1 s2.cb :: Rd s2.l s2.rb :: ⟨true, false, false, false, sz, [R.set j (L (ys.map rw_))], some 0⟩ :: Bx 0 :: { bw true n true (ys.map rw_) with fz := true } :: ex) := fun env ys s2 ex => by
  refine lV.trans (kz 4) ?_
  have := lE (base := [Cr 1 s.cb, Rd s.l s.rb, Va sz R, Bx 0]) (env := env) (σ := Cr 1 s2.cb :: Rd s2.l s2.rb :: ⟨true, false, false, false, sz, [R.set j (.own 4 0 ys.length ys.length n none)], some 0⟩ :: Bx 0 :: { bw true n true (ys.map rw_) with fz := true } :: ex) (l := 2) (j := 0) (i := j) (m := 4) (rows := ys.map rw_) rfl rfl rfl rfl (own1 _) rfl rfl (by
   rw [ao]
   show pP (some _) _ _ _ = _
   rw [am]
   simp [aL, aK, List.length_map, aM])
  simp only [List.set_cons_zero, List.set_cons_succ, List.set_set] at this
  exact this
 by_cases hlt : 0 < k
 ·obtain ⟨k, rfl⟩ : ∃ k', k = k' + 1 := ⟨k - 1, by omega⟩
  have c1 : (((xs.length : Nat) : Int) < ((cnt : Nat) : Int)) = True := by simp; omega
  have he := hel s1 (by omega)
  have hle := hre s1
  have hmul : (xs.length + 1) * b ≤ 140737488355328 := Nat.le_trans (Nat.mul_le_mul (show xs.length + 1 ≤ 1000000 by omega) hbb) (by decide)
  unfold iP at hk1
  generalize re s1 = q at he hk1 hle
  obtain ⟨v, s2⟩ := q
  dsimp only at he hk1 hle
  have k1 := hrl v
  have k2 := hr1 v
  have k3 := hr2 v
  have k5 : (rw_ v).take n = rw_ v := by rw [← k1]; exact List.take_length
  have k6 := hn1 v
  have hu : xs.map rw_ ++ [rw_ v] = (xs ++ [v]).map rw_ := by simp
  generalize hrv : rw_ v = rv at he k1 k2 k3 k5 k6 hu
  by_cases hb : s2.rb = true ∨ s2.cb = true
  ·rw [if_pos hb] at hk1
   rw [← hk1]
   obtain ⟨l2, rb2, cb2⟩ := s2
   dsimp only at he hb ⊢
   cases rb2
   ·obtain rfl : cb2 = true := by simpa using hb
    repeat' ((first | refine dV ?_ | refine cY ?_ | refine ci ?_ | refine dS ?_ | refine cW rfl ?_ | refine dT ?_ | refine cj ?_ | refine dU mixed ?_ | refine cX mixed ?_ | with_reducible refine bp ?_ | with_reducible refine bn ?_ | with_reducible refine bo ?_ | with_reducible refine gX (f := .t 45) ?_ | with_reducible refine gB (f := .t 45) ?_ | with_reducible refine da ?_ | with_reducible refine ck ?_ | with_reducible refine db (he) (hb := hg8) (by simp) ?_ | refine az (iA _ _) ?_ ?_ | simp (disch := omega) only [kL, il, iM, iL, lD, Int.tdiv_eq_ediv_of_nonneg, Int.tmod_eq_emod_of_nonneg] | (with_reducible refine bq rfl rfl ?_ ?_; (focus ((try simp only [Wr, co, ab, ac, ae, dc, List.length_map, reduceIte, Int.natCast_nonneg, Int.le_refl, List.length_append, List.length_map, Nat.sub_zero]) <;> ((repeat' (with_reducible refine And.intro ?_ ?_)) <;> first | exact trivial | assumption | (simp; done) | (simp only [List.length_map] at *; omega) | omega | (simp [D.cells, D.ok, D.one, D.pt, D.pt1]; done) | first | exact gH | (intro x hx; subst hx; first | exact ⟨k1, k2⟩ | (simp only [D.cells, D.ok]; exact ⟨k1, k2⟩)) | (intro x hx; subst hx; exact k1))))) | (refine ax (fun hc => ?_) (fun hc => ?_) <;> (try simp only [hc]) <;> (try simp at hc)) | (refine aN (fun hc => ?_) (fun hc => ?_) <;> (try simp only [hc]) <;> (try simp at hc)) | (with_reducible refine And.intro ?_ ?_; (focus ((repeat' (with_reducible refine And.intro ?_ ?_)) <;> first | exact trivial | assumption | (simp; done) | (simp only [List.length_map] at *; omega) | omega | (simp [D.cells, D.ok, D.one, D.pt, D.pt1]; done) | first | exact gH | (intro x hx; subst hx; first | exact ⟨k1, k2⟩ | (simp only [D.cells, D.ok]; exact ⟨k1, k2⟩)) | (intro x hx; subst hx; exact k1)))) | (with_reducible intro x hx) | omega) <;> (try simp only [Wr, co, ab, ac, ae, dc, List.length_map, c1, hz, hzn, hz1, hz2, k1, k2, k3, k5, k6, ft, eT, eQ, eP, eN, eS, eO, eI, eH, eF, eK, eM, eG, eL, eJ, eU, eV, fq, dN, dO, cL, dQ, dF, dE, fe, eY, gr, gw, dK, dP, eX, cO, fg, fh, ff, fk, gu, gt, cR, aX, aG, cf, dM, bL, bM, aW, aB, bN, eZ, cK, cS, aY, aH, aI, cQ, aF, aU, aw, aV, eW, dJ, bg, bZ, bY, bh, bf, bX, bW, aJ, bE, cy, cw, cx, cv, fc, cz, im, fu, cB, bO, dL, bF, aT, cM, aS, aE, aR, fm, cA, aM, aq, ao, am, dH, cD, cE, dI, cF, dG, bS, fv, dR, bU, bc, bT, ba, bV, be, D.names, D.namesL, aO, dg, aK, df, dh, aL, ay, cP, bK, bI, bG, bJ, bH, dD, dC, aZ, dj, di, cg, Nat.reduceBEq, cH, cG, iF, iE, dq, reduceIte, Nat.reduceEqDiff, Nat.reduceAdd, Nat.reduceSub, Nat.reduceMul, Nat.reduceLT, Nat.reduceLeDiff, reduceCtorEq, ia, em, eo, jA, dY, cT, kM, gf, kR, io, ky, gh, ip, gg, gi, iy, eu, ir, iu, iq, iv, kQ, kP, ee, dp, gb, fE, fN, splice, D.cells, D.ok, D.one, D.pt, D.pt1, D.pt0, D.norm1, D.norm, cond_true, cond_false, true_and, and_true, and_self, Bool.true_and, Bool.and_true, Bool.false_and, Bool.and_false, Bool.not_true, Bool.not_false, Bool.true_or, Bool.false_or, Bool.or_true, Bool.or_false, List.getElem?_cons_zero, List.getElem?_cons_succ, List.getElem?_nil, List.length_cons, List.length_nil, List.length_map, List.length_append, List.length_set, List.length_take, List.length_drop, List.length_replicate, List.take_succ_cons, List.take_zero, List.take_nil, List.drop_succ_cons, List.drop_zero, List.drop_nil, List.cons_append, List.nil_append, List.append_nil, List.map_cons, List.map_nil, List.all_cons, List.all_nil, List.set_cons_zero, List.set_cons_succ, List.isEmpty_cons, List.isEmpty_nil, List.forall_mem_cons, List.not_mem_nil, List.forall_mem_nil, false_imp_iff, implies_true, ne_eq, not_false_eq_true, Option.map_some, Option.map_none, Nat.zero_add, Nat.add_zero, Nat.sub_self, Int.toNat_natCast, Int.reduceToNat, Int.reduceLT, Int.reduceLE, Int.reduceEq, Int.reduceBEq, beq_self_eq_true, Int.reduceNeg, decide_true, decide_false, IntKind.bits, Nat.min_eq_left, Int.reducePow, Nat.reducePow, Int.fdiv_eq_ediv_of_nonneg, Nat.lt_irrefl, Int.le_refl, Nat.le_refl, Int.natCast_nonneg, Nat.lt_add_one, Nat.zero_lt_succ, fJ, dX, dW, du, cV, aQ, D.sc, D.sc1, D.sc2, dZ, ek, cr, dm, cm, bk, cn, aD, aC, gA, ct, c0, Go.Vi.freeze, Go.Vi.bu, bv, bv.captL, au, dk, gC, List.flatten_cons, List.flatten_nil, dv, fM, dl, fr, D.ren, D.renL, List.getD_cons_zero, List.getD_cons_succ, List.nodup_cons, List.nodup_nil, List.mem_cons, or_false, false_or, cI, cJ, cd, cC, bQ, bR, bP, eA, List.reverse_nil, Option.some.injEq, D.bool.injEq, D.int.injEq, D.str.injEq, D.agg.injEq, D.tup.injEq, D.list.injEq, D.ptr.injEq, D.own.injEq, List.cons.injEq, dB]))
    refine gn (fin _ xs ⟨l2, false, true⟩ [Va n rv]) ?_
    refine wk [] [] fw ?_
    exact fH [0, 1, 2, 3] (an fw (an plL allL))
   ·repeat' ((first | refine dV ?_ | refine cY ?_ | refine ci ?_ | refine dS ?_ | refine cW rfl ?_ | refine dT ?_ | refine cj ?_ | refine dU mixed ?_ | refine cX mixed ?_ | with_reducible refine bp ?_ | with_reducible refine bn ?_ | with_reducible refine bo ?_ | with_reducible refine gX (f := .t 45) ?_ | with_reducible refine gB (f := .t 45) ?_ | with_reducible refine da ?_ | with_reducible refine ck ?_ | with_reducible refine db (he) (hb := hg8) (by simp) ?_ | refine az (iA _ _) ?_ ?_ | simp (disch := omega) only [kL, il, iM, iL, lD, Int.tdiv_eq_ediv_of_nonneg, Int.tmod_eq_emod_of_nonneg] | (with_reducible refine bq rfl rfl ?_ ?_; (focus ((try simp only [Wr, co, ab, ac, ae, dc, List.length_map, reduceIte, Int.natCast_nonneg, Int.le_refl, List.length_append, List.length_map, Nat.sub_zero]) <;> ((repeat' (with_reducible refine And.intro ?_ ?_)) <;> first | exact trivial | assumption | (simp; done) | (simp only [List.length_map] at *; omega) | omega | (simp [D.cells, D.ok, D.one, D.pt, D.pt1]; done) | first | exact gH | (intro x hx; subst hx; first | exact ⟨k1, k2⟩ | (simp only [D.cells, D.ok]; exact ⟨k1, k2⟩)) | (intro x hx; subst hx; exact k1))))) | (refine ax (fun hc => ?_) (fun hc => ?_) <;> (try simp only [hc]) <;> (try simp at hc)) | (refine aN (fun hc => ?_) (fun hc => ?_) <;> (try simp only [hc]) <;> (try simp at hc)) | (with_reducible refine And.intro ?_ ?_; (focus ((repeat' (with_reducible refine And.intro ?_ ?_)) <;> first | exact trivial | assumption | (simp; done) | (simp only [List.length_map] at *; omega) | omega | (simp [D.cells, D.ok, D.one, D.pt, D.pt1]; done) | first | exact gH | (intro x hx; subst hx; first | exact ⟨k1, k2⟩ | (simp only [D.cells, D.ok]; exact ⟨k1, k2⟩)) | (intro x hx; subst hx; exact k1)))) | (with_reducible intro x hx) | omega) <;> (try simp only [Wr, co, ab, ac, ae, dc, List.length_map, c1, hz, hzn, hz1, hz2, k1, k2, k3, k5, k6, ft, eT, eQ, eP, eN, eS, eO, eI, eH, eF, eK, eM, eG, eL, eJ, eU, eV, fq, dN, dO, cL, dQ, dF, dE, fe, eY, gr, gw, dK, dP, eX, cO, fg, fh, ff, fk, gu, gt, cR, aX, aG, cf, dM, bL, bM, aW, aB, bN, eZ, cK, cS, aY, aH, aI, cQ, aF, aU, aw, aV, eW, dJ, bg, bZ, bY, bh, bf, bX, bW, aJ, bE, cy, cw, cx, cv, fc, cz, im, fu, cB, bO, dL, bF, aT, cM, aS, aE, aR, fm, cA, aM, aq, ao, am, dH, cD, cE, dI, cF, dG, bS, fv, dR, bU, bc, bT, ba, bV, be, D.names, D.namesL, aO, dg, aK, df, dh, aL, ay, cP, bK, bI, bG, bJ, bH, dD, dC, aZ, dj, di, cg, Nat.reduceBEq, cH, cG, iF, iE, dq, reduceIte, Nat.reduceEqDiff, Nat.reduceAdd, Nat.reduceSub, Nat.reduceMul, Nat.reduceLT, Nat.reduceLeDiff, reduceCtorEq, ia, em, eo, jA, dY, cT, kM, gf, kR, io, ky, gh, ip, gg, gi, iy, eu, ir, iu, iq, iv, kQ, kP, ee, dp, gb, fE, fN, splice, D.cells, D.ok, D.one, D.pt, D.pt1, D.pt0, D.norm1, D.norm, cond_true, cond_false, true_and, and_true, and_self, Bool.true_and, Bool.and_true, Bool.false_and, Bool.and_false, Bool.not_true, Bool.not_false, Bool.true_or, Bool.false_or, Bool.or_true, Bool.or_false, List.getElem?_cons_zero, List.getElem?_cons_succ, List.getElem?_nil, List.length_cons, List.length_nil, List.length_map, List.length_append, List.length_set, List.length_take, List.length_drop, List.length_replicate, List.take_succ_cons, List.take_zero, List.take_nil, List.drop_succ_cons, List.drop_zero, List.drop_nil, List.cons_append, List.nil_append, List.append_nil, List.map_cons, List.map_nil, List.all_cons, List.all_nil, List.set_cons_zero, List.set_cons_succ, List.isEmpty_cons, List.isEmpty_nil, List.forall_mem_cons, List.not_mem_nil, List.forall_mem_nil, false_imp_iff, implies_true, ne_eq, not_false_eq_true, Option.map_some, Option.map_none, Nat.zero_add, Nat.add_zero, Nat.sub_self, Int.toNat_natCast, Int.reduceToNat, Int.reduceLT, Int.reduceLE, Int.reduceEq, Int.reduceBEq, beq_self_eq_true, Int.reduceNeg, decide_true, decide_false, IntKind.bits, Nat.min_eq_left, Int.reducePow, Nat.reducePow, Int.fdiv_eq_ediv_of_nonneg, Nat.lt_irrefl, Int.le_refl, Nat.le_refl, Int.natCast_nonneg, Nat.lt_add_one, Nat.zero_lt_succ, fJ, dX, dW, du, cV, aQ, D.sc, D.sc1, D.sc2, dZ, ek, cr, dm, cm, bk, cn, aD, aC, gA, ct, c0, Go.Vi.freeze, Go.Vi.bu, bv, bv.captL, au, dk, gC, List.flatten_cons, List.flatten_nil, dv, fM, dl, fr, D.ren, D.renL, List.getD_cons_zero, List.getD_cons_succ, List.nodup_cons, List.nodup_nil, List.mem_cons, or_false, false_or, cI, cJ, cd, cC, bQ, bR, bP, eA, List.reverse_nil, Option.some.injEq, D.bool.injEq, D.int.injEq, D.str.injEq, D.agg.injEq, D.tup.injEq, D.list.injEq, D.ptr.injEq, D.own.injEq, List.cons.injEq, dB]))
    refine gn (fin _ xs ⟨l2, true, cb2⟩ [Va n rv]) ?_
    refine wk [] [] fw ?_
    exact fH [0, 1, 2, 3] (an fw (an plL allL))
  ·rw [if_neg hb] at hk1
   obtain ⟨l2, rb2, cb2⟩ := s2
   dsimp only at he hb hle hk1 ⊢
   obtain ⟨rfl, rfl⟩ : rb2 = false ∧ cb2 = false := by simpa using hb
   have uc1 := @iA
   refine wk [10045] [] (an fw (an c1 (an own1 (an own2 (an hz' (an hu (an hz (an hzn (an hz1 (an hz2 (an k1 (an k2 (an k3 (an k5 k6)))))))))))))) ?_
   refine hk ⟨(k, ⟨l2, false, false⟩, xs ++ [v]), hk1, by rw [List.length_append, List.length_cons, List.length_nil]; omega, by dsimp only; omega⟩ _ _ (by dsimp only; omega) ?_
   dsimp only
   simp only [List.length_append, List.length_cons, List.length_nil]
   exact fx [0, 1, 2, 3, 4] (an fw pl4)
   skip
 ·obtain rfl : k = 0 := by omega
  have c1 : (((xs.length : Nat) : Int) < ((cnt : Nat) : Int)) = False := by simp; omega
  unfold iP at hk1
  rw [← hk1]
  dsimp only
  refine gn (fin _ xs s1 []) ?_
  refine wk [] [] (an fw c1) ?_
  exact fH [0, 1, 2, 3] (an fw (an plL allL))
  skip
set_option maxHeartbeats 8000000 in
theorem nD {F g b : Nat} {fn : Func} {kk : IntKind} {re : Rs → Int × Rs} (hF : Tryz.prog.funcs[F]? = some fn) (hL : al Tryz.prog fn = some (iN 1 b none [.int kk 0])) (hg8 : g < bB) (hbb : b ≤ 1000)
  (hre : ∀ s, (re s).2.l.length ≤ s.l.length)
  (hel : ∀ s : Rs, s.l.length ≤ 1099511627776 → aa Tryz.prog g [.ptr 0 0 0 1, .ptr 1 0 0 1] [Va 1 [.int kk 0], Bx 2, Cr 3 s.cb, Rd s.l s.rb] (.tup []) [Va 1 [.int kk (re s).1], Bx 2, Cr 3 (re s).2.cb, Rd (re s).2.l (re s).2.rb])
  (s : Rs) (sz : Nat) (R : List D) (j most : Nat) (hR : R[j]? = some (.list (some true) true [])) (hz0 : R.length = sz) (hm : most < 1000000) (hl : s.l.length ≤ 1099511627776) :
  aa Tryz.prog F [.ptr 0 0 0 1, .ptr 2 0 j 1, .int .i64 most, .fn g [.ptr 3 0 0 1]] [Cr 1 s.cb, Rd s.l s.rb, Va sz R, Bx 0] (.tup [])
   [Cr 1 (ap re most s).2.cb, Rd (ap re most s).2.l (ap re most s).2.rb, Va sz (R.set j (L (ar kk (ap re most s).1))), Bx 0] := by
 refine aP hF hL (by simp [iN]) ?_
 simp only [iN]
 have hn : aa Tryz.prog 95 [.ptr 0 0 0 1, .ptr 2 0 0 1, .int .u64 most] [Cr 1 s.cb, Rd s.l s.rb, Va 1 [.int .u64 0]] (.tup []) [Cr 1 (bx most s).2.cb, Rd (bx most s).2.l (bx most s).2.rb, Va 1 [.int .u64 (bx most s).1]] := ml s.l s.rb s.cb 1 [.int .u64 0] 0 most rfl (by omega) (by omega) hl
 obtain ⟨X, hX⟩ : ∃ X, ap re most s = X := ⟨_, rfl⟩
 rw [hX]
 unfold ap at hX
 obtain ⟨g1, g2⟩ := br most (by omega) s
 generalize bx most s = q at hn hX g1 g2
 obtain ⟨n, s0⟩ := q
 dsimp only at hn hX g1 g2
 have hj : j < R.length := (List.getElem?_eq_some_iff.1 hR).1
 have z0 : (((0 : Nat) : Int)) = 0 := rfl
 refine mE 2 rfl rfl fun hpt => ?_
 have hpt : ∀ x ∈ R, x.pt1 = true := fun x hx => hpt R (by simp) x hx
 have own1 : ∀ d : D, (R.set j d)[j]? = some d := fun d => by rw [List.getElem?_set_self hj]
 have own2 : ∀ d e : D, (R.set j d).take j ++ [e] ++ (R.set j d).drop (j + 1) = R.set j e := fun d e => by
  rw [p9 (by rw [List.length_set]; exact hj), List.set_set]
 have pl5 : ∀ (σ : List Ob) (k n : Nat), cV (cr true [0, 1, 2, 3, 5] σ) (R.set j (.own 5 0 k n 1 none)) = some (R.set j (.own 4 0 k n 1 none)) := fun σ k n => jv hpt rfl
 have pl4 : ∀ (σ : List Ob) (k n : Nat), cV (cr true [0, 1, 2, 3, 4] σ) (R.set j (.own 4 0 k n 1 none)) = some (R.set j (.own 4 0 k n 1 none)) := fun σ k n => jv hpt rfl
 have plL : ∀ (σ : List Ob) (rows : List (List D)), cV (cr true [0, 1, 2, 3] σ) (R.set j (.list none false rows)) = some (R.set j (.list none false rows)) := fun σ rows => oF hpt rfl
 have allL : ∀ rows : List (List D), (R.set j (.list none false rows)).all D.pt1 = true := fun rows => ou hpt rfl
 have hz' : (j + 1 ≤ sz) = True := eq_true (by omega)
 refine wk [95] [] (an fw (an hR z0)) ?_
 refine gn (kU (l := 2) (j := 0) (i := j) (b := true) 1 true (by decide) rfl rfl rfl rfl hR) ?_
 refine av (ι := {p : Nat × Rs × List Int // iP re p.1 p.2.1 p.2.2 = X ∧ p.2.2.length + p.1 = n ∧ p.2.1.l.length ≤ s0.l.length}) (fun p => ([(0, .ptr 0 0 0 1), (1, .ptr 2 0 j 1), (3, .fn g [.ptr 3 0 0 1]), (42, .int .u64 n), (43, .int .u64 p.1.2.2.length)],
  [Cr 1 p.1.2.1.cb, Rd p.1.2.1.l p.1.2.1.rb, ⟨true, false, false, false, sz, [R.set j (.own 4 0 p.1.2.2.length p.1.2.2.length 1 none)], some 0⟩, Bx 0, bw true 1 true (ar kk p.1.2.2)])) (fun p => p.1.1) ⟨(n, s0, []), hX, by simp, Nat.le_refl _⟩ ?_ ?_
 ·simp only [List.length_nil, show ar kk [] = [] from rfl]
  exact fx [0, 1, 2, 3, 5] (an fw pl5)
  skip
 rintro ⟨⟨k, s1, xs⟩, hk1, hk2, hk3⟩ hk
 dsimp only at hk1 hk2 hk3 hk ⊢
 have fin : ∀ (env : fy) (ys : List Int) (s2 : Rs) (ex : List Ob), lV [Cr 1 s.cb, Rd s.l s.rb, Va sz R, Bx 0] env (Cr 1 s2.cb :: Rd s2.l s2.rb :: ⟨true, false, false, false, sz, [R.set j (.own 4 0 ys.length ys.length 1 none)], some 0⟩ :: Bx 0 :: bw true 1 true (ar kk ys) :: ex) env
   (Cr 1 s2.cb :: Rd s2.l s2.rb :: ⟨true, false, false, false, sz, [R.set j (L (ar kk ys))], some 0⟩ :: Bx 0 :: { bw true 1 true (ar kk ys) with fz := true } :: ex) := fun env ys s2 ex => by
  refine lV.trans (kz 4) ?_
  have := lE (base := [Cr 1 s.cb, Rd s.l s.rb, Va sz R, Bx 0]) (env := env) (σ := Cr 1 s2.cb :: Rd s2.l s2.rb :: ⟨true, false, false, false, sz, [R.set j (.own 4 0 ys.length ys.length 1 none)], some 0⟩ :: Bx 0 :: { bw true 1 true (ar kk ys) with fz := true } :: ex) (l := 2) (j := 0) (i := j) (m := 4) (rows := ar kk ys) rfl rfl rfl rfl (own1 _) rfl rfl (by
   rw [ao]
   show pP (some _) _ _ _ = _
   rw [am]
   simp [aL, aK, ab, aM])
  simp only [List.set_cons_zero, List.set_cons_succ, List.set_set] at this
  exact this
 by_cases hlt : 0 < k
 ·obtain ⟨k, rfl⟩ : ∃ k', k = k' + 1 := ⟨k - 1, by omega⟩
  have c1 : (((xs.length : Nat) : Int) < ((n : Nat) : Int)) = True := by simp; omega
  have he := hel s1 (by omega)
  have hle := hre s1
  have hmul : (xs.length + 1) * b ≤ 140737488355328 := Nat.le_trans (Nat.mul_le_mul (show xs.length + 1 ≤ 1000000 by omega) hbb) (by decide)
  unfold iP at hk1
  generalize re s1 = q at he hk1 hle
  obtain ⟨v, s2⟩ := q
  dsimp only at he hk1 hle
  by_cases hb : s2.rb = true ∨ s2.cb = true
  ·rw [if_pos hb] at hk1
   rw [← hk1]
   obtain ⟨l2, rb2, cb2⟩ := s2
   dsimp only at he hb ⊢
   cases rb2
   ·obtain rfl : cb2 = true := by simpa using hb
    repeat' ((first | refine dV ?_ | refine cY ?_ | refine ci ?_ | refine dS ?_ | refine cW rfl ?_ | refine dT ?_ | refine cj ?_ | refine dU mixed ?_ | refine cX mixed ?_ | with_reducible refine bp ?_ | with_reducible refine bn ?_ | with_reducible refine bo ?_ | with_reducible refine gX (f := .t 45) ?_ | with_reducible refine gB (f := .t 45) ?_ | with_reducible refine da ?_ | with_reducible refine ck ?_ | with_reducible refine db (he) (hb := hg8) (by simp) ?_ | refine az (iA _ _) ?_ ?_ | simp (disch := omega) only [kL, il, iM, iL, lD, Int.tdiv_eq_ediv_of_nonneg, Int.tmod_eq_emod_of_nonneg] | (with_reducible refine bq rfl rfl ?_ ?_; (focus ((try simp only [Wr, co, ab, ac, ae, dc, List.length_map, reduceIte, Int.natCast_nonneg, Int.le_refl, List.length_append, List.length_map, Nat.sub_zero]) <;> ((repeat' (with_reducible refine And.intro ?_ ?_)) <;> first | exact trivial | assumption | (simp; done) | (simp only [List.length_map] at *; omega) | omega | (simp [D.cells, D.ok, D.one, D.pt, D.pt1]; done) | first | exact gH | (intro x hx; subst hx; first | exact ⟨k1, k2⟩ | (simp only [D.cells, D.ok]; exact ⟨k1, k2⟩)) | (intro x hx; subst hx; exact k1))))) | (refine ax (fun hc => ?_) (fun hc => ?_) <;> (try simp only [hc]) <;> (try simp at hc)) | (refine aN (fun hc => ?_) (fun hc => ?_) <;> (try simp only [hc]) <;> (try simp at hc)) | (with_reducible refine And.intro ?_ ?_; (focus ((repeat' (with_reducible refine And.intro ?_ ?_)) <;> first | exact trivial | assumption | (simp; done) | (simp only [List.length_map] at *; omega) | omega | (simp [D.cells, D.ok, D.one, D.pt, D.pt1]; done) | first | exact gH | (intro x hx; subst hx; first | exact ⟨k1, k2⟩ | (simp only [D.cells, D.ok]; exact ⟨k1, k2⟩)) | (intro x hx; subst hx; exact k1)))) | (with_reducible intro x hx) | omega) <;> (try simp only [Wr, co, ab, ac, ae, dc, List.length_map, c1, ft, eT, eQ, eP, eN, eS, eO, eI, eH, eF, eK, eM, eG, eL, eJ, eU, eV, fq, dN, dO, cL, dQ, dF, dE, fe, eY, gr, gw, dK, dP, eX, cO, fg, fh, ff, fk, gu, gt, cR, aX, aG, cf, dM, bL, bM, aW, aB, bN, eZ, cK, cS, aY, aH, aI, cQ, aF, aU, aw, aV, eW, dJ, bg, bZ, bY, bh, bf, bX, bW, aJ, bE, cy, cw, cx, cv, fc, cz, im, fu, cB, bO, dL, bF, aT, cM, aS, aE, aR, fm, cA, aM, aq, ao, am, dH, cD, cE, dI, cF, dG, bS, fv, dR, bU, bc, bT, ba, bV, be, D.names, D.namesL, aO, dg, aK, df, dh, aL, ay, cP, bK, bI, bG, bJ, bH, dD, dC, aZ, dj, di, cg, Nat.reduceBEq, cH, cG, iF, iE, dq, reduceIte, Nat.reduceEqDiff, Nat.reduceAdd, Nat.reduceSub, Nat.reduceMul, Nat.reduceLT, Nat.reduceLeDiff, reduceCtorEq, ia, em, eo, jA, dY, cT, kM, gf, kR, io, ky, gh, ip, gg, gi, iy, eu, ir, iu, iq, iv, kQ, kP, ee, dp, gb, fE, fN, splice, D.cells, D.ok, D.one, D.pt, D.pt1, D.pt0, D.norm1, D.norm, cond_true, cond_false, true_and, and_true, and_self, Bool.true_and, Bool.and_true, Bool.false_and, Bool.and_false, Bool.not_true, Bool.not_false, Bool.true_or, Bool.false_or, Bool.or_true, Bool.or_false, List.getElem?_cons_zero, List.getElem?_cons_succ, List.getElem?_nil, List.length_cons, List.length_nil, List.length_map, List.length_append, List.length_set, List.length_take, List.length_drop, List.length_replicate, List.take_succ_cons, List.take_zero, List.take_nil, List.drop_succ_cons, List.drop_zero, List.drop_nil, List.cons_append, List.nil_append, List.append_nil, List.map_cons, List.map_nil, List.all_cons, List.all_nil, List.set_cons_zero, List.set_cons_succ, List.isEmpty_cons, List.isEmpty_nil, List.forall_mem_cons, List.not_mem_nil, List.forall_mem_nil, false_imp_iff, implies_true, ne_eq, not_false_eq_true, Option.map_some, Option.map_none, Nat.zero_add, Nat.add_zero, Nat.sub_self, Int.toNat_natCast, Int.reduceToNat, Int.reduceLT, Int.reduceLE, Int.reduceEq, Int.reduceBEq, beq_self_eq_true, Int.reduceNeg, decide_true, decide_false, IntKind.bits, Nat.min_eq_left, Int.reducePow, Nat.reducePow, Int.fdiv_eq_ediv_of_nonneg, Nat.lt_irrefl, Int.le_refl, Nat.le_refl, Int.natCast_nonneg, Nat.lt_add_one, Nat.zero_lt_succ, fJ, dX, dW, du, cV, aQ, D.sc, D.sc1, D.sc2, dZ, ek, cr, dm, cm, bk, cn, aD, aC, gA, ct, c0, Go.Vi.freeze, Go.Vi.bu, bv, bv.captL, au, dk, gC, List.flatten_cons, List.flatten_nil, dv, fM, dl, fr, D.ren, D.renL, List.getD_cons_zero, List.getD_cons_succ, List.nodup_cons, List.nodup_nil, List.mem_cons, or_false, false_or, cI, cJ, cd, cC, bQ, bR, bP, eA, List.reverse_nil, Option.some.injEq, D.bool.injEq, D.int.injEq, D.str.injEq, D.agg.injEq, D.tup.injEq, D.list.injEq, D.ptr.injEq, D.own.injEq, List.cons.injEq, dB]))
    refine gn (fin _ xs ⟨l2, false, true⟩ [Va 1 [.int kk v]]) ?_
    refine wk [] [] fw ?_
    exact fH [0, 1, 2, 3] (an fw (an plL allL))
   ·repeat' ((first | refine dV ?_ | refine cY ?_ | refine ci ?_ | refine dS ?_ | refine cW rfl ?_ | refine dT ?_ | refine cj ?_ | refine dU mixed ?_ | refine cX mixed ?_ | with_reducible refine bp ?_ | with_reducible refine bn ?_ | with_reducible refine bo ?_ | with_reducible refine gX (f := .t 45) ?_ | with_reducible refine gB (f := .t 45) ?_ | with_reducible refine da ?_ | with_reducible refine ck ?_ | with_reducible refine db (he) (hb := hg8) (by simp) ?_ | refine az (iA _ _) ?_ ?_ | simp (disch := omega) only [kL, il, iM, iL, lD, Int.tdiv_eq_ediv_of_nonneg, Int.tmod_eq_emod_of_nonneg] | (with_reducible refine bq rfl rfl ?_ ?_; (focus ((try simp only [Wr, co, ab, ac, ae, dc, List.length_map, reduceIte, Int.natCast_nonneg, Int.le_refl, List.length_append, List.length_map, Nat.sub_zero]) <;> ((repeat' (with_reducible refine And.intro ?_ ?_)) <;> first | exact trivial | assumption | (simp; done) | (simp only [List.length_map] at *; omega) | omega | (simp [D.cells, D.ok, D.one, D.pt, D.pt1]; done) | first | exact gH | (intro x hx; subst hx; first | exact ⟨k1, k2⟩ | (simp only [D.cells, D.ok]; exact ⟨k1, k2⟩)) | (intro x hx; subst hx; exact k1))))) | (refine ax (fun hc => ?_) (fun hc => ?_) <;> (try simp only [hc]) <;> (try simp at hc)) | (refine aN (fun hc => ?_) (fun hc => ?_) <;> (try simp only [hc]) <;> (try simp at hc)) | (with_reducible refine And.intro ?_ ?_; (focus ((repeat' (with_reducible refine And.intro ?_ ?_)) <;> first | exact trivial | assumption | (simp; done) | (simp only [List.length_map] at *; omega) | omega | (simp [D.cells, D.ok, D.one, D.pt, D.pt1]; done) | first | exact gH | (intro x hx; subst hx; first | exact ⟨k1, k2⟩ | (simp only [D.cells, D.ok]; exact ⟨k1, k2⟩)) | (intro x hx; subst hx; exact k1)))) | (with_reducible intro x hx) | omega) <;> (try simp only [Wr, co, ab, ac, ae, dc, List.length_map, c1, ft, eT, eQ, eP, eN, eS, eO, eI, eH, eF, eK, eM, eG, eL, eJ, eU, eV, fq, dN, dO, cL, dQ, dF, dE, fe, eY, gr, gw, dK, dP, eX, cO, fg, fh, ff, fk, gu, gt, cR, aX, aG, cf, dM, bL, bM, aW, aB, bN, eZ, cK, cS, aY, aH, aI, cQ, aF, aU, aw, aV, eW, dJ, bg, bZ, bY, bh, bf, bX, bW, aJ, bE, cy, cw, cx, cv, fc, cz, im, fu, cB, bO, dL, bF, aT, cM, aS, aE, aR, fm, cA, aM, aq, ao, am, dH, cD, cE, dI, cF, dG, bS, fv, dR, bU, bc, bT, ba, bV, be, D.names, D.namesL, aO, dg, aK, df, dh, aL, ay, cP, bK, bI, bG, bJ, bH, dD, dC, aZ, dj, di, cg, Nat.reduceBEq, cH, cG, iF, iE, dq, reduceIte, Nat.reduceEqDiff, Nat.reduceAdd, Nat.reduceSub, Nat.reduceMul, Nat.reduceLT, Nat.reduceLeDiff, reduceCtorEq, ia, em, eo, jA, dY, cT, kM, gf, kR, io, ky, gh, ip, gg, gi, iy, eu, ir, iu, iq, iv, kQ, kP, ee, dp, gb, fE, fN, splice, D.cells, D.ok, D.one, D.pt, D.pt1, D.pt0, D.norm1, D.norm, cond_true, cond_false, true_and, and_true, and_self, Bool.true_and, Bool.and_true, Bool.false_and, Bool.and_false, Bool.not_true, Bool.not_false, Bool.true_or, Bool.false_or, Bool.or_true, Bool.or_false, List.getElem?_cons_zero, List.getElem?_cons_succ, List.getElem?_nil, List.length_cons, List.length_nil, List.length_map, List.length_append, List.length_set, List.length_take, List.length_drop, List.length_replicate, List.take_succ_cons, List.take_zero, List.take_nil, List.drop_succ_cons, List.drop_zero, List.drop_nil, List.cons_append, List.nil_append, List.append_nil, List.map_cons, List.map_nil, List.all_cons, List.all_nil, List.set_cons_zero, List.set_cons_succ, List.isEmpty_cons, List.isEmpty_nil, List.forall_mem_cons, List.not_mem_nil, List.forall_mem_nil, false_imp_iff, implies_true, ne_eq, not_false_eq_true, Option.map_some, Option.map_none, Nat.zero_add, Nat.add_zero, Nat.sub_self, Int.toNat_natCast, Int.reduceToNat, Int.reduceLT, Int.reduceLE, Int.reduceEq, Int.reduceBEq, beq_self_eq_true, Int.reduceNeg, decide_true, decide_false, IntKind.bits, Nat.min_eq_left, Int.reducePow, Nat.reducePow, Int.fdiv_eq_ediv_of_nonneg, Nat.lt_irrefl, Int.le_refl, Nat.le_refl, Int.natCast_nonneg, Nat.lt_add_one, Nat.zero_lt_succ, fJ, dX, dW, du, cV, aQ, D.sc, D.sc1, D.sc2, dZ, ek, cr, dm, cm, bk, cn, aD, aC, gA, ct, c0, Go.Vi.freeze, Go.Vi.bu, bv, bv.captL, au, dk, gC, List.flatten_cons, List.flatten_nil, dv, fM, dl, fr, D.ren, D.renL, List.getD_cons_zero, List.getD_cons_succ, List.nodup_cons, List.nodup_nil, List.mem_cons, or_false, false_or, cI, cJ, cd, cC, bQ, bR, bP, eA, List.reverse_nil, Option.some.injEq, D.bool.injEq, D.int.injEq, D.str.injEq, D.agg.injEq, D.tup.injEq, D.list.injEq, D.ptr.injEq, D.own.injEq, List.cons.injEq, dB]))
    refine gn (fin _ xs ⟨l2, true, cb2⟩ [Va 1 [.int kk v]]) ?_
    refine wk [] [] fw ?_
    exact fH [0, 1, 2, 3] (an fw (an plL allL))
  ·rw [if_neg hb] at hk1
   obtain ⟨l2, rb2, cb2⟩ := s2
   dsimp only at he hb hle hk1 ⊢
   obtain ⟨rfl, rfl⟩ : rb2 = false ∧ cb2 = false := by simpa using hb
   have hu : ar kk xs ++ [[.int kk v]] = ar kk (xs ++ [v]) := by simp [ar]
   have uc1 := @iA
   refine wk [10045] [] (an fw (an c1 (an own1 (an own2 (an hz' hu))))) ?_
   refine hk ⟨(k, ⟨l2, false, false⟩, xs ++ [v]), hk1, by rw [List.length_append, List.length_cons, List.length_nil]; omega, by dsimp only; omega⟩ _ _ (by dsimp only; omega) ?_
   dsimp only
   simp only [List.length_append, List.length_cons, List.length_nil]
   exact fx [0, 1, 2, 3, 4] (an fw pl4)
   skip
 ·obtain rfl : k = 0 := by omega
  have c1 : (((xs.length : Nat) : Int) < ((n : Nat) : Int)) = False := by simp; omega
  unfold iP at hk1
  rw [← hk1]
  dsimp only
  refine gn (fin _ xs s1 []) ?_
  refine wk [] [] (an fw c1) ?_
  exact fH [0, 1, 2, 3] (an fw (an plL allL))
  skip
def rL (s : Rs) : (Int × Int) × Rs := ((((gT s).1 : Int), ((mb (-900) 900 (gT s).2).1 : Int)), (mb (-900) 900 (gT s).2).2)
theorem ud (s : Rs) : (rL s).2.l.length ≤ s.l.length := Nat.le_trans (lz _ _ _) (gQ _)
theorem BZ (s : Rs) (hl : s.l.length ≤ 1099511627776) :
  aa Tryz.prog 172 [.ptr 0 0 0 1, .ptr 1 0 0 1] [Va 2 [.int .i64 0, .int .i64 0], Bx 2, Cr 3 s.cb, Rd s.l s.rb] (.tup [])
   [Va 2 (AH (rL s).1), Bx 2, Cr 3 (rL s).2.cb, Rd (rL s).2.l (rL s).2.rb] := by
 refine aP Tryz.func172 low172 (by simp [c172]) ?_
 simp only [c172]
 unfold rL
 have g1 := gQ s
 have h1 : aa Tryz.prog 87 [.ptr 0 0 0 1, .ptr 2 0 0 1] [Cr 1 s.cb, Rd s.l s.rb, Va 2 [.int .i64 0, .int .i64 0]] (.tup []) [Cr 1 (gT s).2.cb, Rd (gT s).2.l (gT s).2.rb, Va 2 [.int .i64 (gT s).1, .int .i64 0]] := gU s.l s.rb s.cb 2 [.int .i64 0, .int .i64 0] 0 rfl (by omega) (by omega)
 generalize gT s = q1 at h1 g1 ⊢
 obtain ⟨v1, s1⟩ := q1
 dsimp only at h1 g1 ⊢
 have g2 := lz (-900) 900 s1
 have h2 : aa Tryz.prog 170 [.ptr 0 0 0 1, .ptr 2 0 1 1, .int .i64 (-900), .int .i64 900] [Cr 1 s1.cb, Rd s1.l s1.rb, Va 2 [.int .i64 v1, .int .i64 0]] (.tup []) [Cr 1 (mb (-900) 900 s1).2.cb, Rd (mb (-900) 900 s1).2.l (mb (-900) 900 s1).2.rb, Va 2 [.int .i64 v1, .int .i64 (mb (-900) 900 s1).1]] := rV s1.l s1.rb s1.cb 2 [.int .i64 v1, .int .i64 0] 1 (-900) 900 rfl (by omega) (by omega)
 generalize mb (-900) 900 s1 = q2 at h2 g2 ⊢
 obtain ⟨v2, s2⟩ := q2
 dsimp only at h2 g2 ⊢
 have hc : AH ((v1 : Int), (v2 : Int)) = [.int .i64 v1, .int .i64 v2] := rfl
 rw [hc]
 refine wk [87, 170] [] fw ?_
 exact fH [0, 1, 2, 3] fw
theorem Ag (s : Rs) (sz : Nat) (R : List D) (j most : Nat) (hR : R[j]? = some (.list (some true) true [])) (hz : R.length = sz) (hm : most < 1000000) (hl : s.l.length ≤ 1099511627776) :
  aa Tryz.prog 171 [.ptr 0 0 0 1, .ptr 2 0 j 1, .int .i64 most, .fn 172 [.ptr 3 0 0 1]] [Cr 1 s.cb, Rd s.l s.rb, Va sz R, Bx 0] (.tup [])
   [Cr 1 (ap rL most s).2.cb, Rd (ap rL most s).2.l (ap rL most s).2.rb, Va sz (R.set j (L (bz .i64 .i64 (ap rL most s).1))), Bx 0] :=
 kI (rw_ := AH) Tryz.func171 low171 (by decide) (by decide) (by decide) rfl (fun _ => rfl) rfl rfl (fun _ => rfl) (fun _ => rfl) (fun _ => rfl) ud BZ s sz R j most hR hz hm hl
def rI (s : Rs) : (Int × Int × Int) × Rs := ((((bx 127 s).1 : Int), ((bx 1440 (bx 127 s).2).1 : Int), ((bx 1440 (bx 1440 (bx 127 s).2).2).1 : Int)), (bx 1440 (bx 1440 (bx 127 s).2).2).2)
theorem ua (s : Rs) : (rI s).2.l.length ≤ s.l.length := Nat.le_trans (Nat.le_trans ((br _ (by omega) _).1) ((br _ (by omega) _).1)) ((br _ (by omega) _).1)
theorem BT (s : Rs) (hl : s.l.length ≤ 1099511627776) :
  aa Tryz.prog 174 [.ptr 0 0 0 1, .ptr 1 0 0 1] [Va 3 [.int .i64 0, .int .i64 0, .int .i64 0], Bx 2, Cr 3 s.cb, Rd s.l s.rb] (.tup [])
   [Va 3 (yJ (rI s).1), Bx 2, Cr 3 (rI s).2.cb, Rd (rI s).2.l (rI s).2.rb] := by
 refine aP Tryz.func174 low174 (by simp [c174]) ?_
 simp only [c174]
 unfold rI
 have g1 := (br 127 (by omega) s).1
 have h1 : aa Tryz.prog 131 [.ptr 0 0 0 1, .ptr 2 0 0 1, .int .u64 127] [Cr 1 s.cb, Rd s.l s.rb, Va 3 [.int .i64 0, .int .i64 0, .int .i64 0]] (.tup []) [Cr 1 (bx 127 s).2.cb, Rd (bx 127 s).2.l (bx 127 s).2.rb, Va 3 [.int .i64 (bx 127 s).1, .int .i64 0, .int .i64 0]] := hM s.l s.rb s.cb 3 [.int .i64 0, .int .i64 0, .int .i64 0] 0 127 rfl (by omega) (by omega) (by omega)
 generalize bx 127 s = q1 at h1 g1 ⊢
 obtain ⟨v1, s1⟩ := q1
 dsimp only at h1 g1 ⊢
 have g2 := (br 1440 (by omega) s1).1
 have h2 : aa Tryz.prog 131 [.ptr 0 0 0 1, .ptr 2 0 1 1, .int .u64 1440] [Cr 1 s1.cb, Rd s1.l s1.rb, Va 3 [.int .i64 v1, .int .i64 0, .int .i64 0]] (.tup []) [Cr 1 (bx 1440 s1).2.cb, Rd (bx 1440 s1).2.l (bx 1440 s1).2.rb, Va 3 [.int .i64 v1, .int .i64 (bx 1440 s1).1, .int .i64 0]] := hM s1.l s1.rb s1.cb 3 [.int .i64 v1, .int .i64 0, .int .i64 0] 1 1440 rfl (by omega) (by omega) (by omega)
 generalize bx 1440 s1 = q2 at h2 g2 ⊢
 obtain ⟨v2, s2⟩ := q2
 dsimp only at h2 g2 ⊢
 have g3 := (br 1440 (by omega) s2).1
 have h3 : aa Tryz.prog 131 [.ptr 0 0 0 1, .ptr 2 0 2 1, .int .u64 1440] [Cr 1 s2.cb, Rd s2.l s2.rb, Va 3 [.int .i64 v1, .int .i64 v2, .int .i64 0]] (.tup []) [Cr 1 (bx 1440 s2).2.cb, Rd (bx 1440 s2).2.l (bx 1440 s2).2.rb, Va 3 [.int .i64 v1, .int .i64 v2, .int .i64 (bx 1440 s2).1]] := hM s2.l s2.rb s2.cb 3 [.int .i64 v1, .int .i64 v2, .int .i64 0] 2 1440 rfl (by omega) (by omega) (by omega)
 generalize bx 1440 s2 = q3 at h3 g3 ⊢
 obtain ⟨v3, s3⟩ := q3
 dsimp only at h3 g3 ⊢
 have hc : yJ ((v1 : Int), (v2 : Int), (v3 : Int)) = [.int .i64 v1, .int .i64 v2, .int .i64 v3] := rfl
 rw [hc]
 refine wk [131] [] fw ?_
 exact fH [0, 1, 2, 3] fw
theorem Aa (s : Rs) (sz : Nat) (R : List D) (j most : Nat) (hR : R[j]? = some (.list (some true) true [])) (hz : R.length = sz) (hm : most < 1000000) (hl : s.l.length ≤ 1099511627776) :
  aa Tryz.prog 173 [.ptr 0 0 0 1, .ptr 2 0 j 1, .int .i64 most, .fn 174 [.ptr 3 0 0 1]] [Cr 1 s.cb, Rd s.l s.rb, Va sz R, Bx 0] (.tup [])
   [Cr 1 (ap rI most s).2.cb, Rd (ap rI most s).2.l (ap rI most s).2.rb, Va sz (R.set j (L (ed (ap rI most s).1))), Bx 0] :=
 kI (rw_ := yJ) Tryz.func173 low173 (by decide) (by decide) (by decide) rfl (fun _ => rfl) rfl rfl (fun _ => rfl) (fun _ => rfl) (fun _ => rfl) ua BT s sz R j most hR hz hm hl
def rG (s : Rs) : (Int) × Rs := (((bx 109937 s).1 : Int), (bx 109937 s).2)
theorem t7 (s : Rs) : (rG s).2.l.length ≤ s.l.length := (br _ (by omega) _).1
theorem BN (s : Rs) (hl : s.l.length ≤ 1099511627776) :
  aa Tryz.prog 152 [.ptr 0 0 0 1, .ptr 1 0 0 1] [Va 1 [.int .i64 0], Bx 2, Cr 3 s.cb, Rd s.l s.rb] (.tup [])
   [Va 1 (cOf (rG s).1), Bx 2, Cr 3 (rG s).2.cb, Rd (rG s).2.l (rG s).2.rb] := by
 refine aP Tryz.func152 low152 (by simp [c152]) ?_
 simp only [c152]
 unfold rG
 have g1 := (br 109937 (by omega) s).1
 have h1 : aa Tryz.prog 131 [.ptr 0 0 0 1, .ptr 2 0 0 1, .int .u64 109937] [Cr 1 s.cb, Rd s.l s.rb, Va 1 [.int .i64 0]] (.tup []) [Cr 1 (bx 109937 s).2.cb, Rd (bx 109937 s).2.l (bx 109937 s).2.rb, Va 1 [.int .i64 (bx 109937 s).1]] := hM s.l s.rb s.cb 1 [.int .i64 0] 0 109937 rfl (by omega) (by omega) (by omega)
 generalize bx 109937 s = q1 at h1 g1 ⊢
 obtain ⟨v1, s1⟩ := q1
 dsimp only at h1 g1 ⊢
 have hc : cOf (v1 : Int) = [.int .i64 v1] := rfl
 rw [hc]
 refine wk [131] [] fw ?_
 exact fH [0, 1, 2, 3] fw
theorem zR (s : Rs) (sz : Nat) (R : List D) (j most : Nat) (hR : R[j]? = some (.list (some true) true [])) (hz : R.length = sz) (hm : most < 1000000) (hl : s.l.length ≤ 1099511627776) :
  aa Tryz.prog 151 [.ptr 0 0 0 1, .ptr 2 0 j 1, .int .i64 most, .fn 152 [.ptr 3 0 0 1]] [Cr 1 s.cb, Rd s.l s.rb, Va sz R, Bx 0] (.tup [])
   [Cr 1 (ap rG most s).2.cb, Rd (ap rG most s).2.l (ap rG most s).2.rb, Va sz (R.set j (L (ar .i64 (ap rG most s).1))), Bx 0] :=
 nD (kk := .i64) Tryz.func151 low151 (by decide) (by decide) t7 BN s sz R j most hR hz hm hl
def rJ (s : Rs) : (Int) × Rs := (((mb (-400) 400 s).1 : Int), (mb (-400) 400 s).2)
theorem ub (s : Rs) : (rJ s).2.l.length ≤ s.l.length := lz _ _ _
theorem BV (s : Rs) (hl : s.l.length ≤ 1099511627776) :
  aa Tryz.prog 180 [.ptr 0 0 0 1, .ptr 1 0 0 1] [Va 1 [.int .i64 0], Bx 2, Cr 3 s.cb, Rd s.l s.rb] (.tup [])
   [Va 1 (cSm (rJ s).1), Bx 2, Cr 3 (rJ s).2.cb, Rd (rJ s).2.l (rJ s).2.rb] := by
 refine aP Tryz.func180 low180 (by simp [c180]) ?_
 simp only [c180]
 unfold rJ
 have g1 := lz (-400) 400 s
 have h1 : aa Tryz.prog 170 [.ptr 0 0 0 1, .ptr 2 0 0 1, .int .i64 (-400), .int .i64 400] [Cr 1 s.cb, Rd s.l s.rb, Va 1 [.int .i64 0]] (.tup []) [Cr 1 (mb (-400) 400 s).2.cb, Rd (mb (-400) 400 s).2.l (mb (-400) 400 s).2.rb, Va 1 [.int .i64 (mb (-400) 400 s).1]] := rV s.l s.rb s.cb 1 [.int .i64 0] 0 (-400) 400 rfl (by omega) (by omega)
 generalize mb (-400) 400 s = q1 at h1 g1 ⊢
 obtain ⟨v1, s1⟩ := q1
 dsimp only at h1 g1 ⊢
 have hc : cSm (v1 : Int) = [.int .i64 v1] := rfl
 rw [hc]
 refine wk [170] [] fw ?_
 exact fH [0, 1, 2, 3] fw
theorem Ac (s : Rs) (sz : Nat) (R : List D) (j most : Nat) (hR : R[j]? = some (.list (some true) true [])) (hz : R.length = sz) (hm : most < 1000000) (hl : s.l.length ≤ 1099511627776) :
  aa Tryz.prog 151 [.ptr 0 0 0 1, .ptr 2 0 j 1, .int .i64 most, .fn 180 [.ptr 3 0 0 1]] [Cr 1 s.cb, Rd s.l s.rb, Va sz R, Bx 0] (.tup [])
   [Cr 1 (ap rJ most s).2.cb, Rd (ap rJ most s).2.l (ap rJ most s).2.rb, Va sz (R.set j (L (ar .i64 (ap rJ most s).1))), Bx 0] :=
 nD (kk := .i64) Tryz.func151 low151 (by decide) (by decide) ub BV s sz R j most hR hz hm hl
def rD (s : Rs) : (Int × Int) × Rs := ((((mb (-5) 5 s).1 : Int), ((bx 6 (mb (-5) 5 s).2).1 : Int)), (bx 6 (mb (-5) 5 s).2).2)
theorem t3 (s : Rs) : (rD s).2.l.length ≤ s.l.length := Nat.le_trans ((br _ (by omega) _).1) (lz _ _ _)
theorem BD (s : Rs) (hl : s.l.length ≤ 1099511627776) :
  aa Tryz.prog 179 [.ptr 0 0 0 1, .ptr 1 0 0 1] [Va 2 [.int .i64 0, .int .i64 0], Bx 2, Cr 3 s.cb, Rd s.l s.rb] (.tup [])
   [Va 2 (AD (rD s).1), Bx 2, Cr 3 (rD s).2.cb, Rd (rD s).2.l (rD s).2.rb] := by
 refine aP Tryz.func179 low179 (by simp [c179]) ?_
 simp only [c179]
 unfold rD
 have g1 := lz (-5) 5 s
 have h1 : aa Tryz.prog 170 [.ptr 0 0 0 1, .ptr 2 0 0 1, .int .i64 (-5), .int .i64 5] [Cr 1 s.cb, Rd s.l s.rb, Va 2 [.int .i64 0, .int .i64 0]] (.tup []) [Cr 1 (mb (-5) 5 s).2.cb, Rd (mb (-5) 5 s).2.l (mb (-5) 5 s).2.rb, Va 2 [.int .i64 (mb (-5) 5 s).1, .int .i64 0]] := rV s.l s.rb s.cb 2 [.int .i64 0, .int .i64 0] 0 (-5) 5 rfl (by omega) (by omega)
 generalize mb (-5) 5 s = q1 at h1 g1 ⊢
 obtain ⟨v1, s1⟩ := q1
 dsimp only at h1 g1 ⊢
 have g2 := (br 6 (by omega) s1).1
 have h2 : aa Tryz.prog 131 [.ptr 0 0 0 1, .ptr 2 0 1 1, .int .u64 6] [Cr 1 s1.cb, Rd s1.l s1.rb, Va 2 [.int .i64 v1, .int .i64 0]] (.tup []) [Cr 1 (bx 6 s1).2.cb, Rd (bx 6 s1).2.l (bx 6 s1).2.rb, Va 2 [.int .i64 v1, .int .i64 (bx 6 s1).1]] := hM s1.l s1.rb s1.cb 2 [.int .i64 v1, .int .i64 0] 1 6 rfl (by omega) (by omega) (by omega)
 generalize bx 6 s1 = q2 at h2 g2 ⊢
 obtain ⟨v2, s2⟩ := q2
 dsimp only at h2 g2 ⊢
 have hc : AD ((v1 : Int), (v2 : Int)) = [.int .i64 v1, .int .i64 v2] := rfl
 rw [hc]
 refine wk [170, 131] [] fw ?_
 exact fH [0, 1, 2, 3] fw
theorem zG (s : Rs) (sz : Nat) (R : List D) (j most : Nat) (hR : R[j]? = some (.list (some true) true [])) (hz : R.length = sz) (hm : most < 1000000) (hl : s.l.length ≤ 1099511627776) :
  aa Tryz.prog 178 [.ptr 0 0 0 1, .ptr 2 0 j 1, .int .i64 most, .fn 179 [.ptr 3 0 0 1]] [Cr 1 s.cb, Rd s.l s.rb, Va sz R, Bx 0] (.tup [])
   [Cr 1 (ap rD most s).2.cb, Rd (ap rD most s).2.l (ap rD most s).2.rb, Va sz (R.set j (L (bz .i64 .i64 (ap rD most s).1))), Bx 0] :=
 kI (rw_ := AD) Tryz.func178 low178 (by decide) (by decide) (by decide) rfl (fun _ => rfl) rfl rfl (fun _ => rfl) (fun _ => rfl) (fun _ => rfl) t3 BD s sz R j most hR hz hm hl
def qK (s : Rs) : (Int) × Rs := (((gT s).1 : Int), (gT s).2)
theorem t5 (s : Rs) : (qK s).2.l.length ≤ s.l.length := gQ _
theorem BJ (s : Rs) (hl : s.l.length ≤ 1099511627776) :
  aa Tryz.prog 155 [.ptr 0 0 0 1, .ptr 1 0 0 1] [Va 1 [.int .i64 0], Bx 2, Cr 3 s.cb, Rd s.l s.rb] (.tup [])
   [Va 1 (cEx (qK s).1), Bx 2, Cr 3 (qK s).2.cb, Rd (qK s).2.l (qK s).2.rb] := by
 refine aP Tryz.func155 low155 (by simp [c155]) ?_
 simp only [c155]
 unfold qK
 have g1 := gQ s
 have h1 : aa Tryz.prog 87 [.ptr 0 0 0 1, .ptr 2 0 0 1] [Cr 1 s.cb, Rd s.l s.rb, Va 1 [.int .i64 0]] (.tup []) [Cr 1 (gT s).2.cb, Rd (gT s).2.l (gT s).2.rb, Va 1 [.int .i64 (gT s).1]] := gU s.l s.rb s.cb 1 [.int .i64 0] 0 rfl (by omega) (by omega)
 generalize gT s = q1 at h1 g1 ⊢
 obtain ⟨v1, s1⟩ := q1
 dsimp only at h1 g1 ⊢
 have hc : cEx (v1 : Int) = [.int .i64 v1] := rfl
 rw [hc]
 refine wk [87] [] fw ?_
 exact fH [0, 1, 2, 3] fw
theorem zM (s : Rs) (sz : Nat) (R : List D) (j most : Nat) (hR : R[j]? = some (.list (some true) true [])) (hz : R.length = sz) (hm : most < 1000000) (hl : s.l.length ≤ 1099511627776) :
  aa Tryz.prog 127 [.ptr 0 0 0 1, .ptr 2 0 j 1, .int .i64 most, .fn 155 [.ptr 3 0 0 1]] [Cr 1 s.cb, Rd s.l s.rb, Va sz R, Bx 0] (.tup [])
   [Cr 1 (ap qK most s).2.cb, Rd (ap qK most s).2.l (ap qK most s).2.rb, Va sz (R.set j (L (ar .i64 (ap qK most s).1))), Bx 0] :=
 nD (kk := .i64) Tryz.func127 low127 (by decide) (by decide) t5 BJ s sz R j most hR hz hm hl
def qL (s : Rs) : (Int) × Rs := (((gT s).1 : Int), (gT s).2)
theorem t9 (s : Rs) : (qL s).2.l.length ≤ s.l.length := gQ _
theorem BR (s : Rs) (hl : s.l.length ≤ 1099511627776) :
  aa Tryz.prog 156 [.ptr 0 0 0 1, .ptr 1 0 0 1] [Va 1 [.int .i64 0], Bx 2, Cr 3 s.cb, Rd s.l s.rb] (.tup [])
   [Va 1 (cPl (qL s).1), Bx 2, Cr 3 (qL s).2.cb, Rd (qL s).2.l (qL s).2.rb] := by
 refine aP Tryz.func156 low156 (by simp [c156]) ?_
 simp only [c156]
 unfold qL
 have g1 := gQ s
 have h1 : aa Tryz.prog 87 [.ptr 0 0 0 1, .ptr 2 0 0 1] [Cr 1 s.cb, Rd s.l s.rb, Va 1 [.int .i64 0]] (.tup []) [Cr 1 (gT s).2.cb, Rd (gT s).2.l (gT s).2.rb, Va 1 [.int .i64 (gT s).1]] := gU s.l s.rb s.cb 1 [.int .i64 0] 0 rfl (by omega) (by omega)
 generalize gT s = q1 at h1 g1 ⊢
 obtain ⟨v1, s1⟩ := q1
 dsimp only at h1 g1 ⊢
 have hc : cPl (v1 : Int) = [.int .i64 v1] := rfl
 rw [hc]
 refine wk [87] [] fw ?_
 exact fH [0, 1, 2, 3] fw
theorem zW (s : Rs) (sz : Nat) (R : List D) (j most : Nat) (hR : R[j]? = some (.list (some true) true [])) (hz : R.length = sz) (hm : most < 1000000) (hl : s.l.length ≤ 1099511627776) :
  aa Tryz.prog 127 [.ptr 0 0 0 1, .ptr 2 0 j 1, .int .i64 most, .fn 156 [.ptr 3 0 0 1]] [Cr 1 s.cb, Rd s.l s.rb, Va sz R, Bx 0] (.tup [])
   [Cr 1 (ap qL most s).2.cb, Rd (ap qL most s).2.l (ap qL most s).2.rb, Va sz (R.set j (L (ar .i64 (ap qL most s).1))), Bx 0] :=
 nD (kk := .i64) Tryz.func127 low127 (by decide) (by decide) t9 BR s sz R j most hR hz hm hl
def qI (s : Rs) : (Int × Int × Int) × Rs := ((((gT s).1 : Int), ((gT (gT s).2).1 : Int), ((bx 10080 (gT (gT s).2).2).1 : Int)), (bx 10080 (gT (gT s).2).2).2)
theorem t0 (s : Rs) : (qI s).2.l.length ≤ s.l.length := Nat.le_trans (Nat.le_trans ((br _ (by omega) _).1) (gQ _)) (gQ _)
theorem BB (s : Rs) (hl : s.l.length ≤ 1099511627776) :
  aa Tryz.prog 158 [.ptr 0 0 0 1, .ptr 1 0 0 1] [Va 3 [.int .i64 0, .int .i64 0, .int .i64 0], Bx 2, Cr 3 s.cb, Rd s.l s.rb] (.tup [])
   [Va 3 (yH (qI s).1), Bx 2, Cr 3 (qI s).2.cb, Rd (qI s).2.l (qI s).2.rb] := by
 refine aP Tryz.func158 low158 (by simp [c158]) ?_
 simp only [c158]
 unfold qI
 have g1 := gQ s
 have h1 : aa Tryz.prog 87 [.ptr 0 0 0 1, .ptr 2 0 0 1] [Cr 1 s.cb, Rd s.l s.rb, Va 3 [.int .i64 0, .int .i64 0, .int .i64 0]] (.tup []) [Cr 1 (gT s).2.cb, Rd (gT s).2.l (gT s).2.rb, Va 3 [.int .i64 (gT s).1, .int .i64 0, .int .i64 0]] := gU s.l s.rb s.cb 3 [.int .i64 0, .int .i64 0, .int .i64 0] 0 rfl (by omega) (by omega)
 generalize gT s = q1 at h1 g1 ⊢
 obtain ⟨v1, s1⟩ := q1
 dsimp only at h1 g1 ⊢
 have g2 := gQ s1
 have h2 : aa Tryz.prog 87 [.ptr 0 0 0 1, .ptr 2 0 1 1] [Cr 1 s1.cb, Rd s1.l s1.rb, Va 3 [.int .i64 v1, .int .i64 0, .int .i64 0]] (.tup []) [Cr 1 (gT s1).2.cb, Rd (gT s1).2.l (gT s1).2.rb, Va 3 [.int .i64 v1, .int .i64 (gT s1).1, .int .i64 0]] := gU s1.l s1.rb s1.cb 3 [.int .i64 v1, .int .i64 0, .int .i64 0] 1 rfl (by omega) (by omega)
 generalize gT s1 = q2 at h2 g2 ⊢
 obtain ⟨v2, s2⟩ := q2
 dsimp only at h2 g2 ⊢
 have g3 := (br 10080 (by omega) s2).1
 have h3 : aa Tryz.prog 131 [.ptr 0 0 0 1, .ptr 2 0 2 1, .int .u64 10080] [Cr 1 s2.cb, Rd s2.l s2.rb, Va 3 [.int .i64 v1, .int .i64 v2, .int .i64 0]] (.tup []) [Cr 1 (bx 10080 s2).2.cb, Rd (bx 10080 s2).2.l (bx 10080 s2).2.rb, Va 3 [.int .i64 v1, .int .i64 v2, .int .i64 (bx 10080 s2).1]] := hM s2.l s2.rb s2.cb 3 [.int .i64 v1, .int .i64 v2, .int .i64 0] 2 10080 rfl (by omega) (by omega) (by omega)
 generalize bx 10080 s2 = q3 at h3 g3 ⊢
 obtain ⟨v3, s3⟩ := q3
 dsimp only at h3 g3 ⊢
 have hc : yH ((v1 : Int), (v2 : Int), (v3 : Int)) = [.int .i64 v1, .int .i64 v2, .int .i64 v3] := rfl
 rw [hc]
 refine wk [87, 131] [] fw ?_
 exact fH [0, 1, 2, 3] fw
theorem zD (s : Rs) (sz : Nat) (R : List D) (j most : Nat) (hR : R[j]? = some (.list (some true) true [])) (hz : R.length = sz) (hm : most < 1000000) (hl : s.l.length ≤ 1099511627776) :
  aa Tryz.prog 157 [.ptr 0 0 0 1, .ptr 2 0 j 1, .int .i64 most, .fn 158 [.ptr 3 0 0 1]] [Cr 1 s.cb, Rd s.l s.rb, Va sz R, Bx 0] (.tup [])
   [Cr 1 (ap qI most s).2.cb, Rd (ap qI most s).2.l (ap qI most s).2.rb, Va sz (R.set j (L (ed (ap qI most s).1))), Bx 0] :=
 kI (rw_ := yH) Tryz.func157 low157 (by decide) (by decide) (by decide) rfl (fun _ => rfl) rfl rfl (fun _ => rfl) (fun _ => rfl) (fun _ => rfl) t0 BB s sz R j most hR hz hm hl
def rF (s : Rs) : (Int) × Rs := (((bx 4294967295 s).1 : Int), (bx 4294967295 s).2)
theorem t6 (s : Rs) : (rF s).2.l.length ≤ s.l.length := (br _ (by omega) _).1
theorem BL (s : Rs) (hl : s.l.length ≤ 1099511627776) :
  aa Tryz.prog 160 [.ptr 0 0 0 1, .ptr 1 0 0 1] [Va 1 [.int .u32 0], Bx 2, Cr 3 s.cb, Rd s.l s.rb] (.tup [])
   [Va 1 (cMu (rF s).1), Bx 2, Cr 3 (rF s).2.cb, Rd (rF s).2.l (rF s).2.rb] := by
 refine aP Tryz.func160 low160 (by simp [c160]) ?_
 simp only [c160]
 unfold rF
 have g1 := (br 4294967295 (by omega) s).1
 have h1 : aa Tryz.prog 94 [.ptr 0 0 0 1, .ptr 2 0 0 1] [Cr 1 s.cb, Rd s.l s.rb, Va 1 [.int .u32 0]] (.tup []) [Cr 1 (bx 4294967295 s).2.cb, Rd (bx 4294967295 s).2.l (bx 4294967295 s).2.rb, Va 1 [.int .u32 (bx 4294967295 s).1]] := kf s.l s.rb s.cb 1 [.int .u32 0] 0 rfl (by omega) (by omega)
 generalize bx 4294967295 s = q1 at h1 g1 ⊢
 obtain ⟨v1, s1⟩ := q1
 dsimp only at h1 g1 ⊢
 have hc : cMu (v1 : Int) = [.int .u32 v1] := rfl
 rw [hc]
 refine wk [94] [] fw ?_
 exact fH [0, 1, 2, 3] fw
theorem zP (s : Rs) (sz : Nat) (R : List D) (j most : Nat) (hR : R[j]? = some (.list (some true) true [])) (hz : R.length = sz) (hm : most < 1000000) (hl : s.l.length ≤ 1099511627776) :
  aa Tryz.prog 159 [.ptr 0 0 0 1, .ptr 2 0 j 1, .int .i64 most, .fn 160 [.ptr 3 0 0 1]] [Cr 1 s.cb, Rd s.l s.rb, Va sz R, Bx 0] (.tup [])
   [Cr 1 (ap rF most s).2.cb, Rd (ap rF most s).2.l (ap rF most s).2.rb, Va sz (R.set j (L (ar .u32 (ap rF most s).1))), Bx 0] :=
 nD (kk := .u32) Tryz.func159 low159 (by decide) (by decide) t6 BL s sz R j most hR hz hm hl
def rN (s : Rs) : (Int × Int) × Rs := ((((bx 4294967295 s).1 : Int), ((bx 1000 (bx 4294967295 s).2).1 : Int)), (bx 1000 (bx 4294967295 s).2).2)
theorem ug (s : Rs) : (rN s).2.l.length ≤ s.l.length := Nat.le_trans ((br _ (by omega) _).1) ((br _ (by omega) _).1)
theorem B3 (s : Rs) (hl : s.l.length ≤ 1099511627776) :
  aa Tryz.prog 162 [.ptr 0 0 0 1, .ptr 1 0 0 1] [Va 2 [.int .u32 0, .int .i64 0], Bx 2, Cr 3 s.cb, Rd s.l s.rb] (.tup [])
   [Va 2 (AJ (rN s).1), Bx 2, Cr 3 (rN s).2.cb, Rd (rN s).2.l (rN s).2.rb] := by
 refine aP Tryz.func162 low162 (by simp [c162]) ?_
 simp only [c162]
 unfold rN
 have g1 := (br 4294967295 (by omega) s).1
 have h1 : aa Tryz.prog 94 [.ptr 0 0 0 1, .ptr 2 0 0 1] [Cr 1 s.cb, Rd s.l s.rb, Va 2 [.int .u32 0, .int .i64 0]] (.tup []) [Cr 1 (bx 4294967295 s).2.cb, Rd (bx 4294967295 s).2.l (bx 4294967295 s).2.rb, Va 2 [.int .u32 (bx 4294967295 s).1, .int .i64 0]] := kf s.l s.rb s.cb 2 [.int .u32 0, .int .i64 0] 0 rfl (by omega) (by omega)
 generalize bx 4294967295 s = q1 at h1 g1 ⊢
 obtain ⟨v1, s1⟩ := q1
 dsimp only at h1 g1 ⊢
 have g2 := (br 1000 (by omega) s1).1
 have h2 : aa Tryz.prog 131 [.ptr 0 0 0 1, .ptr 2 0 1 1, .int .u64 1000] [Cr 1 s1.cb, Rd s1.l s1.rb, Va 2 [.int .u32 v1, .int .i64 0]] (.tup []) [Cr 1 (bx 1000 s1).2.cb, Rd (bx 1000 s1).2.l (bx 1000 s1).2.rb, Va 2 [.int .u32 v1, .int .i64 (bx 1000 s1).1]] := hM s1.l s1.rb s1.cb 2 [.int .u32 v1, .int .i64 0] 1 1000 rfl (by omega) (by omega) (by omega)
 generalize bx 1000 s1 = q2 at h2 g2 ⊢
 obtain ⟨v2, s2⟩ := q2
 dsimp only at h2 g2 ⊢
 have hc : AJ ((v1 : Int), (v2 : Int)) = [.int .u32 v1, .int .i64 v2] := rfl
 rw [hc]
 refine wk [94, 131] [] fw ?_
 exact fH [0, 1, 2, 3] fw
theorem Am (s : Rs) (sz : Nat) (R : List D) (j most : Nat) (hR : R[j]? = some (.list (some true) true [])) (hz : R.length = sz) (hm : most < 1000000) (hl : s.l.length ≤ 1099511627776) :
  aa Tryz.prog 161 [.ptr 0 0 0 1, .ptr 2 0 j 1, .int .i64 most, .fn 162 [.ptr 3 0 0 1]] [Cr 1 s.cb, Rd s.l s.rb, Va sz R, Bx 0] (.tup [])
   [Cr 1 (ap rN most s).2.cb, Rd (ap rN most s).2.l (ap rN most s).2.rb, Va sz (R.set j (L (bz .u32 .i64 (ap rN most s).1))), Bx 0] :=
 kI (rw_ := AJ) Tryz.func161 low161 (by decide) (by decide) (by decide) rfl (fun _ => rfl) rfl rfl (fun _ => rfl) (fun _ => rfl) (fun _ => rfl) ug B3 s sz R j most hR hz hm hl
def rH (s : Rs) : (Int × Int) × Rs := ((((bx 4294967295 s).1 : Int), ((bx 4294967295 (bx 4294967295 s).2).1 : Int)), (bx 4294967295 (bx 4294967295 s).2).2)
theorem t8 (s : Rs) : (rH s).2.l.length ≤ s.l.length := Nat.le_trans ((br _ (by omega) _).1) ((br _ (by omega) _).1)
theorem BP (s : Rs) (hl : s.l.length ≤ 1099511627776) :
  aa Tryz.prog 164 [.ptr 0 0 0 1, .ptr 1 0 0 1] [Va 2 [.int .u32 0, .int .u32 0], Bx 2, Cr 3 s.cb, Rd s.l s.rb] (.tup [])
   [Va 2 (AG (rH s).1), Bx 2, Cr 3 (rH s).2.cb, Rd (rH s).2.l (rH s).2.rb] := by
 refine aP Tryz.func164 low164 (by simp [c164]) ?_
 simp only [c164]
 unfold rH
 have g1 := (br 4294967295 (by omega) s).1
 have h1 : aa Tryz.prog 94 [.ptr 0 0 0 1, .ptr 2 0 0 1] [Cr 1 s.cb, Rd s.l s.rb, Va 2 [.int .u32 0, .int .u32 0]] (.tup []) [Cr 1 (bx 4294967295 s).2.cb, Rd (bx 4294967295 s).2.l (bx 4294967295 s).2.rb, Va 2 [.int .u32 (bx 4294967295 s).1, .int .u32 0]] := kf s.l s.rb s.cb 2 [.int .u32 0, .int .u32 0] 0 rfl (by omega) (by omega)
 generalize bx 4294967295 s = q1 at h1 g1 ⊢
 obtain ⟨v1, s1⟩ := q1
 dsimp only at h1 g1 ⊢
 have g2 := (br 4294967295 (by omega) s1).1
 have h2 : aa Tryz.prog 94 [.ptr 0 0 0 1, .ptr 2 0 1 1] [Cr 1 s1.cb, Rd s1.l s1.rb, Va 2 [.int .u32 v1, .int .u32 0]] (.tup []) [Cr 1 (bx 4294967295 s1).2.cb, Rd (bx 4294967295 s1).2.l (bx 4294967295 s1).2.rb, Va 2 [.int .u32 v1, .int .u32 (bx 4294967295 s1).1]] := kf s1.l s1.rb s1.cb 2 [.int .u32 v1, .int .u32 0] 1 rfl (by omega) (by omega)
 generalize bx 4294967295 s1 = q2 at h2 g2 ⊢
 obtain ⟨v2, s2⟩ := q2
 dsimp only at h2 g2 ⊢
 have hc : AG ((v1 : Int), (v2 : Int)) = [.int .u32 v1, .int .u32 v2] := rfl
 rw [hc]
 refine wk [94] [] fw ?_
 exact fH [0, 1, 2, 3] fw
theorem zT (s : Rs) (sz : Nat) (R : List D) (j most : Nat) (hR : R[j]? = some (.list (some true) true [])) (hz : R.length = sz) (hm : most < 1000000) (hl : s.l.length ≤ 1099511627776) :
  aa Tryz.prog 163 [.ptr 0 0 0 1, .ptr 2 0 j 1, .int .i64 most, .fn 164 [.ptr 3 0 0 1]] [Cr 1 s.cb, Rd s.l s.rb, Va sz R, Bx 0] (.tup [])
   [Cr 1 (ap rH most s).2.cb, Rd (ap rH most s).2.l (ap rH most s).2.rb, Va sz (R.set j (L (bz .u32 .u32 (ap rH most s).1))), Bx 0] :=
 kI (rw_ := AG) Tryz.func163 low163 (by decide) (by decide) (by decide) rfl (fun _ => rfl) rfl rfl (fun _ => rfl) (fun _ => rfl) (fun _ => rfl) t8 BP s sz R j most hR hz hm hl
def rK (s : Rs) : (Int) × Rs := (((gT s).1 : Int), (gT s).2)
theorem uc (s : Rs) : (rK s).2.l.length ≤ s.l.length := gQ _
theorem BX (s : Rs) (hl : s.l.length ≤ 1099511627776) :
  aa Tryz.prog 128 [.ptr 0 0 0 1, .ptr 1 0 0 1] [Va 1 [.int .i64 0], Bx 2, Cr 3 s.cb, Rd s.l s.rb] (.tup [])
   [Va 1 (cTs (rK s).1), Bx 2, Cr 3 (rK s).2.cb, Rd (rK s).2.l (rK s).2.rb] := by
 refine aP Tryz.func128 low128 (by simp [c128]) ?_
 simp only [c128]
 unfold rK
 have g1 := gQ s
 have h1 : aa Tryz.prog 87 [.ptr 0 0 0 1, .ptr 2 0 0 1] [Cr 1 s.cb, Rd s.l s.rb, Va 1 [.int .i64 0]] (.tup []) [Cr 1 (gT s).2.cb, Rd (gT s).2.l (gT s).2.rb, Va 1 [.int .i64 (gT s).1]] := gU s.l s.rb s.cb 1 [.int .i64 0] 0 rfl (by omega) (by omega)
 generalize gT s = q1 at h1 g1 ⊢
 obtain ⟨v1, s1⟩ := q1
 dsimp only at h1 g1 ⊢
 have hc : cTs (v1 : Int) = [.int .i64 v1] := rfl
 rw [hc]
 refine wk [87] [] fw ?_
 exact fH [0, 1, 2, 3] fw
theorem Ae (s : Rs) (sz : Nat) (R : List D) (j most : Nat) (hR : R[j]? = some (.list (some true) true [])) (hz : R.length = sz) (hm : most < 1000000) (hl : s.l.length ≤ 1099511627776) :
  aa Tryz.prog 127 [.ptr 0 0 0 1, .ptr 2 0 j 1, .int .i64 most, .fn 128 [.ptr 3 0 0 1]] [Cr 1 s.cb, Rd s.l s.rb, Va sz R, Bx 0] (.tup [])
   [Cr 1 (ap rK most s).2.cb, Rd (ap rK most s).2.l (ap rK most s).2.rb, Va sz (R.set j (L (ar .i64 (ap rK most s).1))), Bx 0] :=
 nD (kk := .i64) Tryz.func127 low127 (by decide) (by decide) uc BX s sz R j most hR hz hm hl
def rM (s : Rs) : (Int × Int) × Rs := ((((bx 4294967295 s).1 : Int), ((bx 40 (bx 4294967295 s).2).1 : Int)), (bx 40 (bx 4294967295 s).2).2)
theorem ue (s : Rs) : (rM s).2.l.length ≤ s.l.length := Nat.le_trans ((br _ (by omega) _).1) ((br _ (by omega) _).1)
theorem B1 (s : Rs) (hl : s.l.length ≤ 1099511627776) :
  aa Tryz.prog 130 [.ptr 0 0 0 1, .ptr 1 0 0 1] [Va 2 [.int .u32 0, .int .i64 0], Bx 2, Cr 3 s.cb, Rd s.l s.rb] (.tup [])
   [Va 2 (AI (rM s).1), Bx 2, Cr 3 (rM s).2.cb, Rd (rM s).2.l (rM s).2.rb] := by
 refine aP Tryz.func130 low130 (by simp [c130]) ?_
 simp only [c130]
 unfold rM
 have g1 := (br 4294967295 (by omega) s).1
 have h1 : aa Tryz.prog 94 [.ptr 0 0 0 1, .ptr 2 0 0 1] [Cr 1 s.cb, Rd s.l s.rb, Va 2 [.int .u32 0, .int .i64 0]] (.tup []) [Cr 1 (bx 4294967295 s).2.cb, Rd (bx 4294967295 s).2.l (bx 4294967295 s).2.rb, Va 2 [.int .u32 (bx 4294967295 s).1, .int .i64 0]] := kf s.l s.rb s.cb 2 [.int .u32 0, .int .i64 0] 0 rfl (by omega) (by omega)
 generalize bx 4294967295 s = q1 at h1 g1 ⊢
 obtain ⟨v1, s1⟩ := q1
 dsimp only at h1 g1 ⊢
 have g2 := (br 40 (by omega) s1).1
 have h2 : aa Tryz.prog 131 [.ptr 0 0 0 1, .ptr 2 0 1 1, .int .u64 40] [Cr 1 s1.cb, Rd s1.l s1.rb, Va 2 [.int .u32 v1, .int .i64 0]] (.tup []) [Cr 1 (bx 40 s1).2.cb, Rd (bx 40 s1).2.l (bx 40 s1).2.rb, Va 2 [.int .u32 v1, .int .i64 (bx 40 s1).1]] := hM s1.l s1.rb s1.cb 2 [.int .u32 v1, .int .i64 0] 1 40 rfl (by omega) (by omega) (by omega)
 generalize bx 40 s1 = q2 at h2 g2 ⊢
 obtain ⟨v2, s2⟩ := q2
 dsimp only at h2 g2 ⊢
 have hc : AI ((v1 : Int), (v2 : Int)) = [.int .u32 v1, .int .i64 v2] := rfl
 rw [hc]
 refine wk [94, 131] [] fw ?_
 exact fH [0, 1, 2, 3] fw
theorem Ak (s : Rs) (sz : Nat) (R : List D) (j most : Nat) (hR : R[j]? = some (.list (some true) true [])) (hz : R.length = sz) (hm : most < 1000000) (hl : s.l.length ≤ 1099511627776) :
  aa Tryz.prog 129 [.ptr 0 0 0 1, .ptr 2 0 j 1, .int .i64 most, .fn 130 [.ptr 3 0 0 1]] [Cr 1 s.cb, Rd s.l s.rb, Va sz R, Bx 0] (.tup [])
   [Cr 1 (ap rM most s).2.cb, Rd (ap rM most s).2.l (ap rM most s).2.rb, Va sz (R.set j (L (bz .u32 .i64 (ap rM most s).1))), Bx 0] :=
 kI (rw_ := AI) Tryz.func129 low129 (by decide) (by decide) (by decide) rfl (fun _ => rfl) rfl rfl (fun _ => rfl) (fun _ => rfl) (fun _ => rfl) ue B1 s sz R j most hR hz hm hl
def r9 (s : Rs) : (Int × Int × Int) × Rs := ((((bx 4294967295 s).1 : Int), ((bx 18446744073709551615 (bx 4294967295 s).2).1 : Int), ((bx 18446744073709551615 (bx 18446744073709551615 (bx 4294967295 s).2).2).1 : Int)), (bx 18446744073709551615 (bx 18446744073709551615 (bx 4294967295 s).2).2).2)
theorem xI (s : Rs) : (r9 s).2.l.length ≤ s.l.length := Nat.le_trans (Nat.le_trans ((br _ (by omega) _).1) ((br _ (by omega) _).1)) ((br _ (by omega) _).1)
theorem BF (s : Rs) (hl : s.l.length ≤ 1099511627776) :
  aa Tryz.prog 93 [.ptr 0 0 0 1, .ptr 1 0 0 1] [Va 3 [.int .u32 0, .int .u64 0, .int .u64 0], Bx 2, Cr 3 s.cb, Rd s.l s.rb] (.tup [])
   [Va 3 (yI (r9 s).1), Bx 2, Cr 3 (r9 s).2.cb, Rd (r9 s).2.l (r9 s).2.rb] := by
 refine aP Tryz.func93 low93 (by simp [c93]) ?_
 simp only [c93]
 unfold r9
 have g1 := (br 4294967295 (by omega) s).1
 have h1 : aa Tryz.prog 94 [.ptr 0 0 0 1, .ptr 2 0 0 1] [Cr 1 s.cb, Rd s.l s.rb, Va 3 [.int .u32 0, .int .u64 0, .int .u64 0]] (.tup []) [Cr 1 (bx 4294967295 s).2.cb, Rd (bx 4294967295 s).2.l (bx 4294967295 s).2.rb, Va 3 [.int .u32 (bx 4294967295 s).1, .int .u64 0, .int .u64 0]] := kf s.l s.rb s.cb 3 [.int .u32 0, .int .u64 0, .int .u64 0] 0 rfl (by omega) (by omega)
 generalize bx 4294967295 s = q1 at h1 g1 ⊢
 obtain ⟨v1, s1⟩ := q1
 dsimp only at h1 g1 ⊢
 have g2 := (br 18446744073709551615 (by omega) s1).1
 have h2 : aa Tryz.prog 95 [.ptr 0 0 0 1, .ptr 2 0 1 1, .int .u64 18446744073709551615] [Cr 1 s1.cb, Rd s1.l s1.rb, Va 3 [.int .u32 v1, .int .u64 0, .int .u64 0]] (.tup []) [Cr 1 (bx 18446744073709551615 s1).2.cb, Rd (bx 18446744073709551615 s1).2.l (bx 18446744073709551615 s1).2.rb, Va 3 [.int .u32 v1, .int .u64 (bx 18446744073709551615 s1).1, .int .u64 0]] := ml s1.l s1.rb s1.cb 3 [.int .u32 v1, .int .u64 0, .int .u64 0] 1 18446744073709551615 rfl (by omega) (by omega) (by omega)
 generalize bx 18446744073709551615 s1 = q2 at h2 g2 ⊢
 obtain ⟨v2, s2⟩ := q2
 dsimp only at h2 g2 ⊢
 have g3 := (br 18446744073709551615 (by omega) s2).1
 have h3 : aa Tryz.prog 95 [.ptr 0 0 0 1, .ptr 2 0 2 1, .int .u64 18446744073709551615] [Cr 1 s2.cb, Rd s2.l s2.rb, Va 3 [.int .u32 v1, .int .u64 v2, .int .u64 0]] (.tup []) [Cr 1 (bx 18446744073709551615 s2).2.cb, Rd (bx 18446744073709551615 s2).2.l (bx 18446744073709551615 s2).2.rb, Va 3 [.int .u32 v1, .int .u64 v2, .int .u64 (bx 18446744073709551615 s2).1]] := ml s2.l s2.rb s2.cb 3 [.int .u32 v1, .int .u64 v2, .int .u64 0] 2 18446744073709551615 rfl (by omega) (by omega) (by omega)
 generalize bx 18446744073709551615 s2 = q3 at h3 g3 ⊢
 obtain ⟨v3, s3⟩ := q3
 dsimp only at h3 g3 ⊢
 have hc : yI ((v1 : Int), (v2 : Int), (v3 : Int)) = [.int .u32 v1, .int .u64 v2, .int .u64 v3] := rfl
 rw [hc]
 refine wk [94, 95] [] fw ?_
 exact fH [0, 1, 2, 3] fw
theorem zI (s : Rs) (sz : Nat) (R : List D) (j most : Nat) (hR : R[j]? = some (.list (some true) true [])) (hz : R.length = sz) (hm : most < 1000000) (hl : s.l.length ≤ 1099511627776) :
  aa Tryz.prog 92 [.ptr 0 0 0 1, .ptr 2 0 j 1, .int .i64 most, .fn 93 [.ptr 3 0 0 1]] [Cr 1 s.cb, Rd s.l s.rb, Va sz R, Bx 0] (.tup [])
   [Cr 1 (ap r9 most s).2.cb, Rd (ap r9 most s).2.l (ap r9 most s).2.rb, Va sz (R.set j (L (nF (ap r9 most s).1))), Bx 0] :=
 kI (rw_ := yI) Tryz.func92 low92 (by decide) (by decide) (by decide) rfl (fun _ => rfl) rfl rfl (fun _ => rfl) (fun _ => rfl) (fun _ => rfl) xI BF s sz R j most hR hz hm hl
end Go.Proofs.YtapennlmboabeaaGreat
