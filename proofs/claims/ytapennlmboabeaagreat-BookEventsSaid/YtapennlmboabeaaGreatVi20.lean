import Derived.Test.YtapennlmboabeaaGreatVi19
set_option linter.unusedVariables false
set_option linter.unusedSimpArgs false
set_option linter.unnecessarySimpa false
namespace Go.Vi
open Go Go.RowKit
def pU (g : Bool) (q : List Nat) (σ : List Ob) (o : Option Ob) (w : Ob) : Prop := match o with
 | some o => match c0 g q σ o with
  | some o' => uL o' w
  | none => False
 | none => False
def i3 (g : Bool) (q : List Nat) (σ : List Ob) : List Nat → List Ob → Prop
 | [], [] => True
 | l :: ls, w :: ws => pU g q σ (σ[l]?) w ∧ i3 g q σ ls ws
 | _, _ => False
theorem mi {g : Bool} {q : List Nat} {σ : List Ob} : ∀ {ls : List Nat} {ws : List Ob}, i3 g q σ ls ws → ∃ os, ct g q σ ls = some os ∧ tu os ws
 | [], [], _ => ⟨[], rfl, trivial⟩
 | l :: ls, w :: ws, h => by
  obtain ⟨h1, h2⟩ := h
  obtain ⟨os, h3, h4⟩ := mi h2
  unfold pU at h1
  split at h1
  ·rename_i o ho
   split at h1
   ·rename_i o' ho'
    exact ⟨o' :: os, by simp only [ct, ho, ho', h3], h1, h4⟩
   ·exact h1.elim
  ·exact h1.elim
def nk : List Ob → Nat → List Nat → Bool
 | [], _, _ => true
 | _ :: os, n, x :: q => (x == n) && nk os (n + 1) q
 | _ :: _, _, [] => false
theorem qD : ∀ {base : List Ob} {n : Nat} {q : List Nat}, nk base n q = true → ∀ l, l < base.length → q[l]? = some (n + l)
 | [], n, q, _, l, hl => by simp at hl
 | _ :: os, n, [], h, l, hl => by simp [nk] at h
 | _ :: os, n, x :: q, h, l, hl => by
  simp only [nk, Bool.and_eq_true, beq_iff_eq] at h
  cases l with
  | zero => simp [h.1]
  | succ l =>
   have := qD h.2 l (by simpa using hl)
   simp [this]; omega
section
variable {P : Program} {N : Nat} {base : List Ob} {env env' : fy} {σ σ' : List Ob} {q : List Nat} {k : List LI} {post : fy → List Ob → Prop}
theorem xn {C : fZ} : (C.kept true q σ').F = C.F := by
 funext b
 simp [fZ.kept, y4]
theorem xo {C0 C : fZ} (hb : C0.σ = base) (hx : jq C0 C) (hi : i2 C) (hk : i6 C true q σ') (hq : ∀ l, l < base.length → q[l]? = some l) : jq C0 (C.kept true q σ') := by
 refine ⟨by rw [xn]; exact hx.F, hx.os, hx.tape, hx.output, hx.size, fun b hb ho => ⟨(hx.blk b hb ho).1, fun ho' => (hx.blk b hb ho).2 (iI hk ho')⟩, fun l o b ho hb' => ?_⟩
 obtain ⟨o', b', k1, k2, k3, k4, k5⟩ := hx.ob l o b ho hb'
 have hl : l < base.length := by rw [← hb]; exact (List.getElem?_eq_some_iff.1 ho).1
 have hql := hq l hl
 obtain ⟨o2, w, b2, h1, h2, h3, r1, r2, r3, r4, r5, r6, r7, r8⟩ := hk.ob l l hql
 rw [k1] at h1; cases h1
 rw [k2] at h3; cases h3
 refine ⟨w, b', h2, by simp [fZ.kept, hql, k2], by rw [r4]; exact k3, by rw [r7]; exact k4, fun he => ?_⟩
 rw [r7] at he
 obtain ⟨e1, e2, e3, e4⟩ := k5 he
 exact ⟨e1, by rw [r1]; exact e2, by rw [r2]; exact e3, e4⟩
def pW (σ : List Ob) : List Ob → Nat → List Nat → Prop
 | [], _, _ => True
 | o :: os, n, x :: q => (x = n ∨ ∃ ox, σ[x]? = some ox ∧ ox.sz = o.sz ∧ o.rows.length < ox.rows.length) ∧ pW σ os (n + 1) q
 | _ :: _, _, [] => False
theorem rA {σ : List Ob} : ∀ {base : List Ob} {n : Nat} {q : List Nat}, nk base n q = true → pW σ base n q
 | [], n, q, _ => by cases q <;> exact trivial
 | o :: os, n, [], h => by simp [nk] at h
 | o :: os, n, x :: q, h => by
  simp only [nk, Bool.and_eq_true, beq_iff_eq] at h
  exact ⟨.inl h.1, rA h.2⟩
theorem qE {σ : List Ob} : ∀ {base : List Ob} {n : Nat} {q : List Nat}, pW σ base n q → ∀ l o, base[l]? = some o → ∃ x, q[l]? = some x ∧ (x = n + l ∨ ∃ ox, σ[x]? = some ox ∧ ox.sz = o.sz ∧ o.rows.length < ox.rows.length)
 | [], n, q, _, l, o, h => by simp at h
 | o :: os, n, [], h, _, _, _ => h.elim
 | o :: os, n, x :: q, h, l, o', ho => by
  obtain ⟨h1, h2⟩ := h
  cases l with
  | zero =>
   simp only [List.getElem?_cons_zero, Option.some.injEq] at ho
   subst ho
   exact ⟨x, rfl, by simpa using h1⟩
  | succ l =>
   obtain ⟨y, hy, h3⟩ := qE h2 l o' (by simpa using ho)
   exact ⟨y, by simpa using hy, by rwa [show n + (l + 1) = n + 1 + l by omega]⟩
theorem vI {C0 C : fZ} (hb : C0.σ = base) (hx : jq C0 C) (hi : i2 C) (hk : i6 C true q σ') (hq : pW C.σ base 0 q) : jq C0 (C.kept true q σ') := by
 refine ⟨by rw [xn]; exact hx.F, hx.os, hx.tape, hx.output, hx.size, fun b hb ho => ⟨(hx.blk b hb ho).1, fun ho' => (hx.blk b hb ho).2 (iI hk ho')⟩, fun l o b ho hb' => ?_⟩
 obtain ⟨o', b', k1, k2, k3, k4, k5⟩ := hx.ob l o b ho hb'
 obtain ⟨x, hql, hcase⟩ := qE hq l o (by rw [← hb]; exact ho)
 obtain ⟨o2, w, b2, h1, h2, h3, r1, r2, r3, r4, r5, r6, r7, r8⟩ := hk.ob l x hql
 rcases hcase with rfl | ⟨ox, g1, g2, g3⟩
 ·rw [Nat.zero_add] at h1 h3 hql
  rw [k1] at h1; cases h1
  rw [k2] at h3; cases h3
  refine ⟨w, b', h2, by simp [fZ.kept, hql, k2], by rw [r4]; exact k3, by rw [r7]; exact k4, fun he => ?_⟩
  rw [r7] at he
  obtain ⟨e1, e2, e3, e4⟩ := k5 he
  exact ⟨e1, by rw [r1]; exact e2, by rw [r2]; exact e3, e4⟩
 ·rw [g1] at h1; cases h1
  refine ⟨w, b2, h2, by simp [fZ.kept, hql, h3], by rw [r4]; exact g2, by rw [r7]; omega, fun he => ?_⟩
  rw [r7] at he; omega
theorem qW (q : List Nat) (hq0 : nk base 0 q = true) (hnd : q.Nodup) (hg : i3 true q σ q σ') (he : ∀ p ∈ env', dZ true q σ (lk env p.1) = some p.2) : lV base env σ env' σ' := by
 intro C0 C a N h0 hx hσ hst
 subst hσ
 have hq : ∀ l, l < base.length → q[l]? = some l := fun l hl => by simpa using qD hq0 l hl
 obtain ⟨os, h1, h2⟩ := mi hg
 have hk := rq hst.inv hnd h1 h2
 refine ⟨C.kept true q σ', rfl, rfl, xo h0 hx hst.inv hk hq, o9 hst.inv hk, hst.size, hst.defers, fun t => ?_⟩
 rcases xq (e := env') (t := t) with h' | ⟨d, hm, h'⟩
 ·rw [h']; exact .undef _
 ·rw [h']
  exact mS hst.inv hk (hst.rep t) (he _ hm)
theorem qV {t : Nat} {b : Bool} (z : Nat) (pu : Bool) (hz : 0 < z) (h : lk env t = .list (some b) true []) : lV base env σ ((t, .own σ.length 0 0 0 z none) :: env) (σ ++ [bw b z pu []]) := by
 intro C0 C a N h0 hx hσ hst
 subst hσ
 obtain ⟨hx', hi'⟩ := nX hst.inv (Below.refl _ C.w) (bw b z pu []) 0 rfl hz (by simp [bw]) (by simp [bw]) (by simp [bw]) (by simp [bw]) (by simp [bw])
 refine ⟨⟨C.F, C.σ ++ [bw b z pu []], C.bs ++ [0], C.w⟩, rfl, rfl, hx.trans hx', hi', hst.size, hst.defers, fun t' => ?_⟩
 show ef _ (if t = t' then _ else lk env t') _
 by_cases e : t = t'
 ·subst e
  rw [if_pos rfl]
  have hr := hst.rep t
  rw [h] at hr
  obtain ⟨A, cap, sz, hv, q1, q2, q3, q4, _⟩ := iw hr
  have hc : cap = 0 := by simpa using q4 rfl
  subst hc
  rw [hv]
  have hl := hst.inv.len
  exact .own C.σ.length 0 0 0 z none A 0 (bw b z pu []) 0 (by simp) (by rw [← hl]; simp) (by simp) (by simp) rfl (fun _ => rfl) (by simp) (fun _ h => by simp [bw] at h) (fun _ _ => ⟨rfl, rfl, by simp [bw, q1 b rfl]⟩)
 ·rw [if_neg e]; exact (hst.rep t').ext hx'
theorem kz (l : Nat) : lV base env σ env (bu σ l) := by
 intro C0 C a N h0 hx hσ hst
 subst hσ
 obtain ⟨h1, h2⟩ := o4 hst.inv l
 exact ⟨⟨C.F, bu C.σ l, C.bs, C.w⟩, rfl, rfl, hx.trans h1, h2, hst.size, hst.defers, fun t => (hst.rep t).ext h1⟩
theorem wF (l : Nat) {o : Ob} (ho : σ[l]? = some o) (hfz : o.fz = false) (hp : (o.rows.all fun r => r.all D.pt1) = true) : lV base env σ env (σ.set l { o with pure := true }) := by
 intro C0 C a N h0 hx hσ hst
 subst hσ
 have hi := hst.inv
 obtain ⟨b, hb⟩ : ∃ b, C.bs[l]? = some b := ⟨_, List.getElem?_eq_getElem (by rw [hi.len]; exact (List.getElem?_eq_some_iff.1 ho).1)⟩
 have hO := hi.ob l o b ho hb
 have hp' : ∀ r ∈ o.rows, ∀ d ∈ r, d.pt1 = true := fun r hr d hd => List.all_eq_true.1 (List.all_eq_true.1 hp r hr) d hd
 obtain ⟨h1, h2⟩ := j0 hi ho hb { o with pure := true } b (w' := C.w) ⟨rfl, rfl, rfl⟩ (Nat.le_refl _) (fun _ _ _ => rfl) hfz hfz rfl hO.sz hO.one hO.rows
  (fun _ => hp') (Nat.le_refl _) (fun _ => ⟨rfl, rfl, rfl⟩) (fun hq => .inl ⟨hq, rfl⟩) (fun _ arr e h => ⟨arr, h, rfl⟩) (fun hreal => (hO.block hreal).2)
 exact ⟨⟨C.F, C.σ.set l { o with pure := true }, C.bs.set l b, C.w⟩, rfl, rfl, hx.trans h1, h2, hst.size, hst.defers, fun t => (hst.rep t).ext h1⟩
theorem qt {C : fZ} {tg : Bool} {rows : List (List D)} {v : Value} (h : ef C (.list none tg rows) v) : ∃ b, (b = true → rows = []) ∧ ef C (.list (some b) tg rows) v := by
 cases h with
 | pure h =>
  cases h with
  | list nl tg rows A cap sz vf h1 h2 h3 h4 h5 h9 h6 h7 h8 =>
   refine ⟨A.isNone, fun hA => ?_, .pure (.list (some A.isNone) tg rows A cap sz vf (by simp) h2 h3 h4 h5 h9 h6 h7 h8)⟩
   have : A = none := by simpa using hA
   exact List.eq_nil_of_length_eq_zero (by have := h2 this; omega)
theorem oS (t : Nat) {tg : Bool} {rows : List (List D)} (h : lk env t = .list none tg rows) (hr : ∀ b, (b = true → rows = []) → jf P N base k post ((t, .list (some b) tg rows) :: env) σ) : jf P N base k post env σ := by
 intro its hl C0 C a h0 hx hσ hst bb cs
 have hrep := hst.rep t
 rw [h] at hrep
 obtain ⟨b, hb, hrep'⟩ := qt hrep
 refine hr b hb its hl C0 C a h0 hx hσ ⟨hst.inv, hst.size, hst.defers, fun t' => ?_⟩ bb cs
 show ef C (if t = t' then _ else lk env t') _
 by_cases e : t = t'
 ·subst e; rw [if_pos rfl]; exact hrep'
 ·rw [if_neg e]; exact hst.rep t'
end
def aa (P : Program) (f : FuncId) (ds : List D) (σ : List Ob) (r : D) (τ : List Ob) : Prop := ib P f ds σ fun d σ' => d = r ∧ σ' = τ
def D.nrm : D → D
 | .tup ds => .tup (ds.map D.norm)
 | d => d.norm
theorem ef.norm1 {C : fZ} {d : D} {v : Value} (h : ef C d v) : ef C d.norm1 v := by
 cases d with
 | list nl tg rows => cases h with
  | pure h => exact .pure h.norm1
 | _ => exact h
theorem ef.norm {C : fZ} {d : D} {v : Value} (h : ef C d v) : ef C d.norm v := by
 cases d with
 | agg cs =>
  obtain ⟨vs, rfl, hl, hr⟩ := j8 h
  refine .agg _ vs (by simp [hl]) fun i d v hd hv => ?_
  simp only [List.getElem?_map, Option.map_eq_some_iff] at hd
  obtain ⟨d', hd', rfl⟩ := hd
  exact (hr i d' v hd' hv).norm1
 | _ => exact h.norm1
theorem ef.nrm {C : fZ} {d : D} {v : Value} (h : ef C d v) : ef C d.nrm v := by
 cases d with
 | tup ds =>
  obtain ⟨vs, rfl, hl, hr⟩ := oJ h
  refine .tup _ vs (by simp [hl]) fun i d v hd hv => ?_
  simp only [List.getElem?_map, Option.map_eq_some_iff] at hd
  obtain ⟨d', hd', rfl⟩ := hd
  exact (hr i d' v hd' hv).norm
 | _ => exact h.norm
def zh : Option D → Option D
 | some d => some d.nrm
 | none => none
def oP (base : List Ob) (d r : D) (τ σ : List Ob) : Prop := ∃ q, pW σ base 0 q ∧ q.Nodup ∧ i3 true q σ q τ ∧ (dZ true q σ d = some r ∨ zh (dZ true q σ d) = some r)
theorem ib.gc {P : Program} {f : FuncId} {ds : List D} {σ : List Ob} {Q : D → List Ob → Prop} (h : ib P f ds σ fun d σ' => ∃ r τ, oP σ d r τ σ' ∧ Q r τ) : ib P f ds σ Q := by
 refine ⟨h.enters, fun C vs hσ hi hrow => (h.calls C vs hσ hi hrow).mono ?_⟩
 rintro e w' ⟨v, C', d, rfl, rfl, hx, hi', hrep, r, τ, ⟨q, hq0, hnd, hg, hp⟩, hQ⟩
 obtain ⟨os, h1, h2⟩ := mi hg
 have hk := rq hi' hnd h1 h2
 refine ⟨v, C'.kept true q τ, r, rfl, rfl, vI hσ hx hi' hk hq0, o9 hi' hk, ?_, hQ⟩
 rcases hp with hp | hp
 ·exact mS hi' hk hrep hp
 ·cases hpp : dZ true q C'.σ d with
  | none => rw [hpp] at hp; cases hp
  | some r0 =>
   rw [hpp] at hp
   cases hp
   exact (mS hi' hk hrep hpp).nrm
def Ay (base : List Ob) (res : List RL) (r : D) (τ : List Ob) (env : fy) (σ : List Ob) : Prop := jN env σ res fun rs => oP base (eA rs) r τ σ
def Az (base : List Ob) (res : List RL) (Q : D → List Ob → Prop) (env : fy) (σ : List Ob) : Prop := jN env σ res fun rs => ∃ r τ, oP base (eA rs) r τ σ ∧ Q r τ
theorem nu {env : fy} {σ : List Ob} : ∀ {res : List RL} {K K' : List D → Prop}, (∀ ds, K ds → K' ds) → jN env σ res K → jN env σ res K'
 | [], K, K', h, hr => h _ hr
 | .tmp t :: rs, K, K', h, hr => by
  simp only [jN] at hr ⊢
  exact nu (fun ds => h _) hr
 | .cell a ag :: rs, K, K', h, hr => by
  simp only [jN] at hr ⊢
  split at hr
  ·split at hr
   ·obtain ⟨h1, h2, h3, h4⟩ := hr
    refine ⟨h1, h2, h3, fun r hr => ?_⟩
    have := h4 r hr
    rw [kl] at this ⊢
    split at this
    ·exact ⟨this.1, nu (fun ds => h _) this.2⟩
    ·exact this.elim
   ·exact hr.elim
  ·exact hr.elim
theorem callQ {P : Program} {f : FuncId} {fn : Func} {l : LF} {ds : List D} {σ : List Ob} {Q : D → List Ob → Prop} (hf : P.funcs[f]? = some fn) (hl : al P fn = some l) (hds : ds.length ≤ l.n)
  (h : jf P l.n σ [.code l.code] (Az σ l.res Q) (dq 0 ds) σ) : ib P f ds σ Q := (AK hf hl hds h).gc
theorem aP {P : Program} {f : FuncId} {fn : Func} {l : LF} {ds : List D} {σ : List Ob} {r : D} {τ : List Ob} (hf : P.funcs[f]? = some fn) (hl : al P fn = some l) (hds : ds.length ≤ l.n)
  (h : jf P l.n σ [.code l.code] (Ay σ l.res r τ) (dq 0 ds) σ) : aa P f ds σ r τ := by
 refine callQ hf hl hds ?_
 intro its hli C0 C a h0 hx hσ hst b cs
 obtain ⟨a', C', env', todo, h1, h2, h3, h4⟩ := h its hli C0 C a h0 hx hσ hst b cs
 exact ⟨a', C', env', todo, h1, h2, h3, nu (fun ds h => ⟨r, τ, h, rfl, rfl⟩) h4⟩
theorem bn {base : List Ob} {res : List RL} {r : D} {τ : List Ob} {env : fy} {σ : List Ob} (h : jN env σ res fun rs => oP base (eA rs) r τ σ) : Ay base res r τ env σ := h
theorem bo {base : List Ob} {res : List RL} {Q : D → List Ob → Prop} {env : fy} {σ : List Ob} (h : jN env σ res fun rs => ∃ r τ, oP base (eA rs) r τ σ ∧ Q r τ) : Az base res Q env σ := h
theorem sg {base : List Ob} {d r : D} {τ σ : List Ob} (q : List Nat) (hq : nk base 0 q = true) (hnd : q.Nodup) (h : i3 true q σ q τ ∧ dZ true q σ d = some r) : oP base d r τ σ := ⟨q, rA hq, hnd, h.1, .inl h.2⟩
theorem wG {base : List Ob} {d r : D} {τ σ : List Ob} (q : List Nat) (hq : nk base 0 q = true) (hnd : q.Nodup) (h : i3 true q σ q τ ∧ zh (dZ true q σ d) = some r) : oP base d r τ σ := ⟨q, rA hq, hnd, h.1, .inr h.2⟩
theorem wH {base : List Ob} {d r : D} {τ σ : List Ob} (q : List Nat) (hq : pW σ base 0 q) (hnd : q.Nodup) (h : i3 true q σ q τ ∧ dZ true q σ d = some r) : oP base d r τ σ := ⟨q, hq, hnd, h.1, .inl h.2⟩
end Go.Vi
