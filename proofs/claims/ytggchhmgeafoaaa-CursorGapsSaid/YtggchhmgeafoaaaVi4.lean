import Derived.Test.YtggchhmgeafoaaaVi3
import Derived.Laws.Cover3
set_option linter.unusedVariables false
set_option linter.unusedSimpArgs false
set_option linter.unnecessarySimpa false
namespace Go.Vi
open Go Go.RowKit
section
variable {P : Program} {o : Oper} {k : LK} {C : Ctx} {a : Act} {ρ : LO → D} {K : D → List Ob → Prop}
theorem sound_bin {op : BinOp} {t u : TypeId} {x y : Operand} {lx ly : LO} (ho : o.op = .binOp op t x y u) (hx : loOf x = some lx) (hy : loOf y = some ly) : Sound P o (.bin op lx ly) := by
 intro dr C a ρ K hi hp hr h
 have rx := hr.at hp hx (by simp [ho, Op.operands])
 have ry := hr.at hp hy (by simp [ho, Op.operands])
 simp only [LK.run] at h
 split at h
 ·rename_i p d hd
  obtain ⟨hpr, hk⟩ := h
  unfold binD at hd
  split at hd
  ·rename_i k m k' n h1 h2
   rw [h1] at rx; rw [h2] at ry
   have ex := rep_int rx
   have ey := rep_int ry
   have grd : (eqGuard op t x y (.int k m) (.int k' n)).run P C.w = .ok () C.w := by
    cases op <;> rfl
   have fin : ∀ v, (binOp op t (.int k m) (.int k' n)).run P C.w = .ok v C.w → Rep C d v → Done P o a C K := fun v hv hrep =>
    .here hi (by simp only [execOp, ho, ex, ey, Sem.run_bind, grd, Result.andThen_ok, hv, Sem.run_pure]) hrep hk
   cases op <;> simp only [binInt] at hd <;> (try split at hd) <;> simp only [Option.some.injEq, Prod.mk.injEq, reduceCtorEq] at hd <;>
    (obtain ⟨hp', rfl⟩ := hd) <;> (try subst_vars) <;> first
    | (refine fin _ ?_ (.pure (.int _ _)); simp [binOp, Op.intArith]; done)
    | (refine fin _ ?_ (.pure (.int _ _)); simp [binOp, Op.intDiv, hpr]; done)
    | (refine fin _ ?_ (.pure (.int _ _)); simp [binOp, Op.intBits, bitAnd, bitOr, bitXor]; done)
    | (refine fin _ ?_ (.pure (.int _ _)); have hn : ¬ n < 0 := by omega
       simp [binOp, Op.shift, hn]; done)
    | (refine fin _ ?_ (.pure (.bool _)); simp [binOp, Op.intCmp]; done)
  ·rename_i s s' h1 h2
   rw [h1] at rx; rw [h2] at ry
   have ex := rep_str rx
   have ey := rep_str ry
   have grd : (eqGuard op t x y (.string s) (.string s')).run P C.w = .ok () C.w := by
    cases op <;> rfl
   have fin : ∀ v, (binOp op t (.string s) (.string s')).run P C.w = .ok v C.w → Rep C d v → Done P o a C K := fun v hv hrep =>
    .here hi (by simp only [execOp, ho, ex, ey, Sem.run_bind, grd, Result.andThen_ok, hv, Sem.run_pure]) hrep hk
   cases op <;> simp only [binStr, Option.some.injEq, Prod.mk.injEq, reduceCtorEq] at hd <;> (obtain ⟨hp', rfl⟩ := hd) <;> (try subst_vars)
   ·exact fin _ (by simp only [binOp]; exact run_string_add_sum C.w s s' hpr) (.pure (.str _))
   ·exact fin (.bool (s.toList == s'.toList)) (by simp [binOp, Op.stringOp]) (by rw [← beq_toListBytes]; exact .pure (.bool _))
   ·exact fin (.bool (!(s.toList == s'.toList))) (by simp [binOp, Op.stringOp]) (by rw [← beq_toListBytes]; exact .pure (.bool _))
  ·cases hd
 ·exact h.elim
def rowKinds (P : Program) : Nat → List Field → Option (List FK)
 | _, [] => some []
 | i, f :: fs =>
  if f.offset = i ∧ f.name ≠ "_" then
   match P.underlying f.type, rowKinds P (i + 1) fs with
   | some (.int _), some ks => some (.int :: ks)
   | some .bool, some ks => some (.bool :: ks)
   | some .string, some ks => some (.str :: ks)
   | _, _ => none
  else none
def lowET (P : Program) (t : TypeId) : Option ET :=
 match P.underlying t with
 | some .bool => some .bool
 | some (.pointer _) => some .ptr
 | some (.slice _) => some .slice
 | some (.func _ _ _) => some .func
 | some (.struct fs) => if P.eqGuardType P.depth t = false ∧ P.stoodInHeld t = false then (rowKinds P 0 fs.toList).map .row else none
 | _ => none
theorem rep_agg {cs : List D} {v : Value} (h : Rep C (.agg cs) v) : ∃ vs : List Value, v = .agg vs.toArray ∧ cs.length = vs.length ∧ ∀ (i : Nat) d v, cs[i]? = some d → vs[i]? = some v → Rep C d v := by
 cases h with
 | pure h => cases h with
  | agg cs vs hl h => exact ⟨vs, rfl, hl, fun i d v h1 h2 => .pure (h i d v h1 h2)⟩
 | agg cs vs hl h => exact ⟨vs, rfl, hl, h⟩
theorem eq_fields (dd : Nat) : ∀ (fs : List Field) (ks : List FK) (i : Nat) (xs ys : List D) (vs us : List Value) (r : Bool), rowKinds P i fs = some ks → eqCells ks (xs.drop i) (ys.drop i) = some r →
  xs.length = vs.length → ys.length = us.length → (∀ (i : Nat) d v, xs[i]? = some d → vs[i]? = some v → Rep C d v) → (∀ (i : Nat) d v, ys[i]? = some d → us[i]? = some v → Rep C d v) →
  (Op.eqFields (dd + 1) vs.toArray us.toArray fs).run P C.w = .ok r C.w
 | [], ks, i, xs, ys, vs, us, r, hk, he, hx, hy, hX, hY => by
  simp [rowKinds] at hk; subst hk
  have : r = true := by
   cases h1 : xs.drop i <;> cases h2 : ys.drop i <;> simp [h1, h2, eqCells] at he
   exact he
  subst this
  simp [Op.eqFields]
 | f :: fs, ks, i, xs, ys, vs, us, r, hk, he, hx, hy, hX, hY => by
  simp only [rowKinds] at hk
  split at hk
  ·rename_i hf
   obtain ⟨hoff, hname⟩ := hf
   have step : ∀ (kk : FK) (ks' : List FK), rowKinds P (i + 1) fs = some ks' → ks = kk :: ks' →
     (∀ (x y : D) (v u : Value) (r1 : Bool), Rep C x v → Rep C y u → eqCell kk x y = some r1 → (part f.type vs.toArray i).run P C.w = (if h : i < vs.length then .ok vs[i] C.w else (part f.type vs.toArray i).run P C.w) →
      (Op.equalIn (dd + 1) f.type v u).run P C.w = .ok r1 C.w) →
     (∀ (ws : List Value) (h : i < ws.length), (part f.type ws.toArray i).run P C.w = .ok ws[i] C.w) →
     (Op.eqFields (dd + 1) vs.toArray us.toArray (f :: fs)).run P C.w = .ok r C.w := by
    intro kk ks' hks hkk heq hpart
    subst hkk
    cases hxd : xs.drop i with
    | nil => rw [hxd] at he; cases hyd : ys.drop i <;> rw [hyd] at he <;> simp [eqCells] at he
    | cons x xs' =>
     cases hyd : ys.drop i with
     | nil => rw [hxd, hyd] at he; simp [eqCells] at he
     | cons y ys' =>
      rw [hxd, hyd] at he
      simp only [eqCells] at he
      split at he
      ·rename_i r1 r2 h1 h2
       cases he
       have hxi : xs[i]? = some x := by
        have := congrArg List.head? hxd; simpa [List.head?_drop] using this
       have hyi : ys[i]? = some y := by
        have := congrArg List.head? hyd; simpa [List.head?_drop] using this
       have hvl : i < vs.length := by rw [← hx]; exact (List.getElem?_eq_some_iff.1 hxi).1
       have hul : i < us.length := by rw [← hy]; exact (List.getElem?_eq_some_iff.1 hyi).1
       have e1 := heq x y vs[i] us[i] r1 (hX i x _ hxi (List.getElem?_eq_getElem hvl)) (hY i y _ hyi (List.getElem?_eq_getElem hul)) h1 (by rw [dif_pos hvl]; exact hpart vs hvl)
       have hx' : xs.drop (i + 1) = xs' := by rw [← List.tail_drop, hxd]; rfl
       have hy' : ys.drop (i + 1) = ys' := by rw [← List.tail_drop, hyd]; rfl
       have ih := eq_fields dd fs ks' (i + 1) xs ys vs us r2 hks (by rw [hx', hy']; exact h2) hx hy hX hY
       simp only [Op.eqFields, hname, ne_eq, not_false_eq_true, if_true, Sem.run_bind, hoff, hpart vs hvl, hpart us hul, Result.andThen_ok, e1]
       cases r1
       ·simp
       ·simpa using ih
      ·cases he
   have plainPart : P.plainKey f.type = true → ∀ (ws : List Value) (h : i < ws.length), (part f.type ws.toArray i).run P C.w = .ok ws[i] C.w := fun hp ws h =>
    run_part_plain C.w hp (by simp [h])
   split at hk
   ·rename_i kq ks' hu hks
    refine step .int ks' hks (by simpa using hk.symm) (fun x y v u r1 hx hy h1 _ => ?_) (plainPart (by simp [Program.plainKey, hu]))
    cases x <;> cases y <;> simp only [eqCell] at h1 <;> (try cases h1)
    split at h1
    ·rename_i hkk; cases h1; subst hkk
     rw [rep_int hx, rep_int hy]; exact run_equalIn_int C.w dd _ _ _ _ _ hu
    ·cases h1
   ·rename_i ks' hu hks
    refine step .bool ks' hks (by simpa using hk.symm) (fun x y v u r1 hx hy h1 _ => ?_) (plainPart (by simp [Program.plainKey, hu]))
    cases x <;> cases y <;> simp only [eqCell] at h1 <;> (try cases h1)
    rw [rep_bool hx, rep_bool hy]; exact run_equalIn_bool C.w dd _ _ _ hu
   ·rename_i ks' hu hks
    refine step .str ks' hks (by simpa using hk.symm) (fun x y v u r1 hx hy h1 _ => ?_) (plainPart (by simp [Program.plainKey, hu]))
    cases x <;> cases y <;> simp only [eqCell] at h1 <;> (try cases h1)
    rw [rep_str hx, rep_str hy, beq_toListBytes]; exact run_equalIn_string C.w dd _ _ _ hu
   ·cases hk
  ·cases hk
theorem run_equalIn_ptr (w : World) (d : Nat) (t e : TypeId) (h : P.underlying t = some (.pointer e)) : (Op.equalIn (d + 1) t (.pointer none) (.pointer none)).run P w = .ok true w ∧
  (∀ ad, (Op.equalIn (d + 1) t (.pointer none) (.pointer (some ad))).run P w = .ok false w) ∧ (∀ ad, (Op.equalIn (d + 1) t (.pointer (some ad)) (.pointer none)).run P w = .ok false w) := by
 refine ⟨?_, fun ad => ?_, fun ad => ?_⟩ <;> simp [Op.equalIn, run_underlying h]
theorem run_equalIn_func (w : World) (d : Nat) (t : TypeId) (p q : Array TypeId) (r : Bool) (h : P.underlying t = some (.func p q r)) : (Op.equalIn (d + 1) t .nilFunc .nilFunc).run P w = .ok true w ∧
  (∀ f a b, (Op.equalIn (d + 1) t .nilFunc (.func f a b)).run P w = .ok false w) ∧ (∀ f a b, (Op.equalIn (d + 1) t (.func f a b) .nilFunc).run P w = .ok false w) := by
 refine ⟨?_, fun f a b => ?_, fun f a b => ?_⟩ <;> simp [Op.equalIn, run_underlying h]
theorem eqD_slice {dx dy : D} {b : Bool} (h : eqD .slice dx dy = some b) : ∃ tg rows, dx = .list (some b) tg rows ∧ dy = .list (some true) true [] := by
 unfold eqD at h
 split at h <;> first | (simp at *; done) | (simp only [Option.some.injEq] at h; subst h; exact ⟨_, _, rfl, rfl⟩)
theorem rep_own {l i k n sz : Nat} {cl : Option Nat} {v : Value} (h : Rep C (.own l i k n sz cl) v) : ∃ A cap ob b, v = .slice A k cap ∧ C.σ[l]? = some ob ∧ C.bs[l]? = some b ∧ n ≤ ob.rows.length ∧ i + k ≤ n ∧ ob.sz = sz ∧ (A = none → k = 0) ∧ k ≤ cap ∧
  (ob.rows.length = n → ob.real = true → (∃ ad, A = some ad ∧ (cap ≠ 0 → ad = ⟨b, i * ob.sz, none⟩)) ∧ k ≤ cap ∧ cap ≤ maxLen ∧ (∀ m, cl = some m → i + cap = m) ∧
    ∃ arr e, C.w.heap[b]? = some (.cells arr e (0, 0)) ∧ (i + cap) * ob.sz ≤ arr.size ∧ (cl = none → arr.size = (i + cap) * ob.sz)) ∧
  (ob.rows.length = n → ob.real = false → k = 0 ∧ cap = 0 ∧ ob.nl = A.isNone) := by
 cases h with
 | pure h => cases h
 | own l i k n sz cl A cap ob b h1 h2 h3 h4 h5 h6 h7 h8 h9 => exact ⟨A, cap, ob, b, rfl, h1, h2, h3, h4, h5, h6, h7, h8, h9⟩
theorem eqO_other {σ : List Ob} {t : ET} {x y : D} (h : t ≠ .slice) : eqO σ t x y = eqD t x y := by
 cases t <;> first | exact absurd rfl h | rfl
theorem eqO_slice {σ : List Ob} {x y : D} {b : Bool} (h : eqO σ .slice x y = some b) : eqD .slice x y = some b ∨ ∃ l i k n z cl o, x = .own l i k n z cl ∧ y = .list (some true) true [] ∧ σ[l]? = some o ∧ o.rows.length = n ∧ b = (!o.real && o.nl) := by
 unfold eqO at h
 split at h
 ·split at h
  ·rename_i o ho
   split at h
   ·rename_i hn
    cases h
    exact .inr ⟨_, _, _, _, _, _, o, rfl, rfl, ho, hn, rfl⟩
   ·cases h
  ·cases h
 ·exact .inl h
theorem sound_eq {op : BinOp} {neg : Bool} {t u : TypeId} {x y : Operand} {lx ly : LO} {et : ET} (hop : op = if neg then .neq else .eql) (ho : o.op = .binOp op t x y u) (ht : lowET P t = some et) (hx : loOf x = some lx) (hy : loOf y = some ly) : Sound P o (.eq et neg lx ly) := by
 intro dr C a ρ K hi hp hr h
 have rx := hr.at hp hx (by simp [ho, Op.operands])
 have ry := hr.at hp hy (by simp [ho, Op.operands])
 simp only [LK.run] at h
 split at h
 case h_2 => exact h.elim
 rename_i b hbO
 have hbD : et ≠ .slice → eqD et (ρ lx) (ρ ly) = some b := fun hne => by rw [← eqO_other hne]; exact hbO
 have fin : ∀ vx vy : Value, a.eval x = vx → a.eval y = vy → (binOp .eql t vx vy = do pure (.bool (← Op.equal t vx vy))) → (binOp .neq t vx vy = do pure (.bool (!(← Op.equal t vx vy)))) →
   (eqGuard .eql t x y vx vy).run P C.w = .ok () C.w → (eqGuard .neq t x y vx vy).run P C.w = .ok () C.w → (Op.equal t vx vy).run P C.w = .ok b C.w → Done P o a C K := by
  intro vx vy ex ey e1 e2 g1 g2 he
  refine .here (v := .bool (bif neg then !b else b)) hi ?_ (.pure (.bool _)) h
  cases neg
  ·simp only [Bool.false_eq_true, if_false] at hop; subst hop
   simp only [execOp, ho, ex, ey, Sem.run_bind, g1, Result.andThen_ok, e1, he, Sem.run_pure, cond_false]
  ·simp only [if_true] at hop; subst hop
   simp only [execOp, ho, ex, ey, Sem.run_bind, g2, Result.andThen_ok, e2, he, Sem.run_pure, cond_true]
 unfold lowET at ht
 obtain ⟨vx, hvx⟩ : ∃ v, a.eval x = v := ⟨_, rfl⟩
 obtain ⟨vy, hvy⟩ : ∃ v, a.eval y = v := ⟨_, rfl⟩
 rw [hvx] at rx
 rw [hvy] at ry
 split at ht
 ·rename_i hu
  cases ht
  have hb := hbD (by simp)
  cases hdx : ρ lx <;> cases hdy : ρ ly <;> simp only [hdx, hdy, eqD, reduceCtorEq] at hb
  rw [hdx] at rx; rw [hdy] at ry
  cases rep_bool rx; cases rep_bool ry
  cases hb
  exact fin _ _ hvx hvy rfl rfl rfl rfl (run_equalIn_bool C.w 9999 t _ _ hu)
 ·rename_i el hu
  cases ht
  have hb := hbD (by simp)
  have nn : ∀ vx vy : Value, (Op.equal t vx vy).run P C.w = .ok b C.w → (vx = .pointer none ∨ ∃ ad, vx = .pointer (some ad)) → (vy = .pointer none ∨ ∃ ad, vy = .pointer (some ad)) → a.eval x = vx → a.eval y = vy → Done P o a C K := by
   intro vx vy he h1 h2 e1 e2
   rcases h1 with rfl | ⟨ad, rfl⟩ <;> rcases h2 with rfl | ⟨ad', rfl⟩ <;> exact fin _ _ e1 e2 rfl rfl rfl rfl he
  have rp : ∀ {d : D} {v : Value}, Rep C d v → (d = .nilp → v = .pointer none) ∧ (∀ l j i n, d = .ptr l j i n → ∃ ad, v = .pointer (some ad)) ∧ (∀ r i, d = .elt r i → ∃ ad, v = .pointer (some ad)) := by
   intro d v hr
   refine ⟨fun e => ?_, fun l j i n e => ?_, fun r i e => ?_⟩ <;> subst e
   ·cases hr with | pure h => cases h; rfl
   ·obtain ⟨ad, _, _, h, _⟩ := rep_ptr hr; exact ⟨ad, h⟩
   ·obtain ⟨ad, _, h, _⟩ := rep_elt hr; exact ⟨ad, h⟩
  obtain ⟨x1, x2, x3⟩ := rp rx
  obtain ⟨y1, y2, y3⟩ := rp ry
  cases hdx : ρ lx <;> cases hdy : ρ ly <;> simp only [hdx, hdy, eqD, reduceCtorEq, Option.some.injEq] at hb <;> subst hb
  ·refine nn vx vy ?_ (.inl (x1 hdx)) (.inl (y1 hdy)) hvx hvy
   rw [x1 hdx, y1 hdy]; exact (run_equalIn_ptr C.w 9999 t el hu).1
  ·obtain ⟨ad, hy⟩ := y2 _ _ _ _ hdy
   refine nn vx vy ?_ (.inl (x1 hdx)) (.inr ⟨ad, hy⟩) hvx hvy
   rw [x1 hdx, hy]; exact (run_equalIn_ptr C.w 9999 t el hu).2.1 ad
  ·obtain ⟨ad, hy⟩ := y3 _ _ hdy
   refine nn vx vy ?_ (.inl (x1 hdx)) (.inr ⟨ad, hy⟩) hvx hvy
   rw [x1 hdx, hy]; exact (run_equalIn_ptr C.w 9999 t el hu).2.1 ad
  ·obtain ⟨ad, hx⟩ := x2 _ _ _ _ hdx
   refine nn vx vy ?_ (.inr ⟨ad, hx⟩) (.inl (y1 hdy)) hvx hvy
   rw [y1 hdy, hx]; exact (run_equalIn_ptr C.w 9999 t el hu).2.2 ad
  ·obtain ⟨ad, hx⟩ := x3 _ _ hdx
   refine nn vx vy ?_ (.inr ⟨ad, hx⟩) (.inl (y1 hdy)) hvx hvy
   rw [y1 hdy, hx]; exact (run_equalIn_ptr C.w 9999 t el hu).2.2 ad
 ·rename_i el hu
  cases ht
  have nily : ∀ {vy : Value}, Rep C (.list (some true) true []) vy → vy = .slice none 0 0 := fun ry => by
   cases ry with
   | pure h => cases h with
    | list nl tg rows A cap sz vf h1 h2 h3 h4 h5 h9 h6 h7 h8 =>
     have : A = none := by have := h1 true rfl; simpa using this.symm
     subst this
     rw [h2 rfl]; rfl
  rcases eqO_slice hbO with hb | ⟨l, i, k, n, z, cl, o', hdx, hdy, ho', hn', hb⟩
  case inr =>
   rw [hdx] at rx; rw [hdy] at ry
   have hy := nily ry
   obtain ⟨A, cap, ob, bb, hx, q1, q2, q3, q3', q4, q5, q5', q6, q7⟩ := rep_own rx
   rw [ho'] at q1; cases q1
   have hbA : b = A.isNone := by
    by_cases hreal : o'.real = true
    ·obtain ⟨⟨ad, hA, _⟩, _⟩ := q6 hn' hreal
     rw [hb, hA, hreal]; rfl
    ·have hr : o'.real = false := by simpa using hreal
     rw [hb, hr, (q7 hn' hr).2.2]; simp
   refine fin vx vy hvx hvy (by rw [hx, hy]; rfl) (by rw [hx, hy]; rfl) (by rw [hx, hy]; rfl) (by rw [hx, hy]; rfl) ?_
   rw [hx, hy, hbA]; exact run_equal_slice_nil C.w t el A k cap hu
  obtain ⟨tg, rows, hdx, hdy⟩ := eqD_slice hb
  rw [hdx] at rx; rw [hdy] at ry
  have hy := nily ry
  have hx : ∃ A n c, vx = .slice A n c ∧ b = A.isNone := by
   cases rx with
   | pure h => cases h with
    | list nl tg rows A cap sz vf h1 h2 h3 h4 h5 h9 h6 h7 h8 => exact ⟨A, _, _, rfl, h1 b rfl⟩
  obtain ⟨A, n, c, hx, hb⟩ := hx
  refine fin vx vy hvx hvy (by rw [hx, hy]; rfl) (by rw [hx, hy]; rfl) (by rw [hx, hy]; rfl) (by rw [hx, hy]; rfl) ?_
  rw [hx, hy, hb]; exact run_equal_slice_nil C.w t el A n c hu
 ·rename_i p q r hu
  cases ht
  have hb := hbD (by simp)
  have rf : ∀ {d : D} {v : Value}, Rep C d v → (d = .nilfn → v = .nilFunc) ∧ (∀ f cs, d = .fn f cs → ∃ f' a b, v = .func f' a b) := by
   intro d v hr
   refine ⟨fun e => ?_, fun f cs e => ?_⟩ <;> subst e
   ·cases hr with | pure h => cases h; rfl
   ·cases hr with
    | pure h => cases h; obtain ⟨g, b, c, h⟩ := fnV_func _ _; exact ⟨_, _, _, h⟩
    | fn f cs vs h1 h2 => obtain ⟨g, b, c, h⟩ := fnV_func _ _; exact ⟨_, _, _, h⟩
  obtain ⟨x1, x2⟩ := rf rx
  obtain ⟨y1, y2⟩ := rf ry
  cases hdx : ρ lx <;> cases hdy : ρ ly <;> simp only [hdx, hdy, eqD, reduceCtorEq, Option.some.injEq] at hb <;> subst hb
  ·rw [x1 hdx] at hvx; rw [y1 hdy] at hvy
   exact fin _ _ hvx hvy rfl rfl rfl rfl (run_equalIn_func C.w 9999 t p q r hu).1
  ·obtain ⟨f', a', b', hy⟩ := y2 _ _ hdy
   rw [x1 hdx] at hvx; rw [hy] at hvy
   exact fin _ _ hvx hvy rfl rfl rfl rfl ((run_equalIn_func C.w 9999 t p q r hu).2.1 _ _ _)
  ·obtain ⟨f', a', b', hx⟩ := x2 _ _ hdx
   rw [hx] at hvx; rw [y1 hdy] at hvy
   exact fin _ _ hvx hvy rfl rfl rfl rfl ((run_equalIn_func C.w 9999 t p q r hu).2.2 _ _ _)
 ·rename_i fs hu
  split at ht
  case isFalse => cases ht
  rename_i hcond
  simp only [Option.map_eq_some_iff] at ht
  obtain ⟨ks, hks, rfl⟩ := ht
  have hb := hbD (by simp)
  cases hdx : ρ lx <;> cases hdy : ρ ly <;> simp only [hdx, hdy, eqD, reduceCtorEq] at hb
  rw [hdx] at rx; rw [hdy] at ry
  obtain ⟨vs, rfl, hl1, hr1⟩ := rep_agg rx
  obtain ⟨us, rfl, hl2, hr2⟩ := rep_agg ry
  have hf : P.fieldsOf t = fs := by simp [Program.fieldsOf, hu]
  have he : (Op.equal t (.agg vs.toArray) (.agg us.toArray)).run P C.w = .ok b C.w := by
   rw [Op.equal, Op.maxDepth, run_equalIn_struct C.w 9999 t _ _ (by rw [hf]; exact hu) hcond.2, hf]
   exact eq_fields (P := P) 9998 fs.toList ks 0 _ _ vs us b hks (by simpa using hb) hl1 hl2 hr1 hr2
  exact fin _ _ hvx hvy rfl rfl (run_eqGuard_agg C.w _ _ _ _ _ _ hcond.1) (run_eqGuard_agg C.w _ _ _ _ _ _ hcond.1) he
 ·cases ht
end
end Go.Vi
