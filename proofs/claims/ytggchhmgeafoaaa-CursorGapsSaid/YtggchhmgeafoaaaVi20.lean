import Derived.Test.YtggchhmgeafoaaaVi19
set_option linter.unusedVariables false
set_option linter.unusedSimpArgs false
set_option linter.unnecessarySimpa false
namespace Go.Vi
open Go Go.RowKit
def ObKW (g : Bool) (q : List Nat) (σ : List Ob) (o : Option Ob) (w : Ob) : Prop := match o with
 | some o => match pullOb g q σ o with
  | some o' => ObW o' w
  | none => False
 | none => False
def keptW (g : Bool) (q : List Nat) (σ : List Ob) : List Nat → List Ob → Prop
 | [], [] => True
 | l :: ls, w :: ws => ObKW g q σ (σ[l]?) w ∧ keptW g q σ ls ws
 | _, _ => False
theorem keptW_spec {g : Bool} {q : List Nat} {σ : List Ob} : ∀ {ls : List Nat} {ws : List Ob}, keptW g q σ ls ws → ∃ os, pullσ g q σ ls = some os ∧ AllW os ws
 | [], [], _ => ⟨[], rfl, trivial⟩
 | l :: ls, w :: ws, h => by
  obtain ⟨h1, h2⟩ := h
  obtain ⟨os, h3, h4⟩ := keptW_spec h2
  unfold ObKW at h1
  split at h1
  ·rename_i o ho
   split at h1
   ·rename_i o' ho'
    exact ⟨o' :: os, by simp only [pullσ, ho, ho', h3], h1, h4⟩
   ·exact h1.elim
  ·exact h1.elim
def preK : List Ob → Nat → List Nat → Bool
 | [], _, _ => true
 | _ :: os, n, x :: q => (x == n) && preK os (n + 1) q
 | _ :: _, _, [] => false
theorem preK_spec : ∀ {base : List Ob} {n : Nat} {q : List Nat}, preK base n q = true → ∀ l, l < base.length → q[l]? = some (n + l)
 | [], n, q, _, l, hl => by simp at hl
 | _ :: os, n, [], h, l, hl => by simp [preK] at h
 | _ :: os, n, x :: q, h, l, hl => by
  simp only [preK, Bool.and_eq_true, beq_iff_eq] at h
  cases l with
  | zero => simp [h.1]
  | succ l =>
   have := preK_spec h.2 l (by simpa using hl)
   simp [this]; omega
section
variable {P : Program} {N : Nat} {base : List Ob} {env env' : Env} {σ σ' : List Ob} {q : List Nat} {k : List LI} {post : Env → List Ob → Prop}
theorem kept_F {C : Ctx} : (C.kept true q σ').F = C.F := by
 funext b
 simp [Ctx.kept, hide]
theorem kept_ext {C0 C : Ctx} (hb : C0.σ = base) (hx : Ext C0 C) (hi : Inv C) (hk : KeptOK C true q σ') (hq : ∀ l, l < base.length → q[l]? = some l) : Ext C0 (C.kept true q σ') := by
 refine ⟨by rw [kept_F]; exact hx.F, hx.os, hx.tape, hx.output, hx.size, fun b hb ho => ⟨(hx.blk b hb ho).1, fun ho' => (hx.blk b hb ho).2 (kept_owned' hk ho')⟩, fun l o b ho hb' => ?_⟩
 obtain ⟨o', b', k1, k2, k3, k4, k5⟩ := hx.ob l o b ho hb'
 have hl : l < base.length := by rw [← hb]; exact (List.getElem?_eq_some_iff.1 ho).1
 have hql := hq l hl
 obtain ⟨o2, w, b2, h1, h2, h3, r1, r2, r3, r4, r5, r6, r7, r8⟩ := hk.ob l l hql
 rw [k1] at h1; cases h1
 rw [k2] at h3; cases h3
 refine ⟨w, b', h2, by simp [Ctx.kept, hql, k2], by rw [r4]; exact k3, by rw [r7]; exact k4, fun he => ?_⟩
 rw [r7] at he
 obtain ⟨e1, e2, e3, e4⟩ := k5 he
 exact ⟨e1, by rw [r1]; exact e2, by rw [r2]; exact e3, e4⟩
def preW (σ : List Ob) : List Ob → Nat → List Nat → Prop
 | [], _, _ => True
 | o :: os, n, x :: q => (x = n ∨ ∃ ox, σ[x]? = some ox ∧ ox.sz = o.sz ∧ o.rows.length < ox.rows.length) ∧ preW σ os (n + 1) q
 | _ :: _, _, [] => False
theorem preW_of {σ : List Ob} : ∀ {base : List Ob} {n : Nat} {q : List Nat}, preK base n q = true → preW σ base n q
 | [], n, q, _ => by cases q <;> exact trivial
 | o :: os, n, [], h => by simp [preK] at h
 | o :: os, n, x :: q, h => by
  simp only [preK, Bool.and_eq_true, beq_iff_eq] at h
  exact ⟨.inl h.1, preW_of h.2⟩
theorem preW_spec {σ : List Ob} : ∀ {base : List Ob} {n : Nat} {q : List Nat}, preW σ base n q → ∀ l o, base[l]? = some o → ∃ x, q[l]? = some x ∧ (x = n + l ∨ ∃ ox, σ[x]? = some ox ∧ ox.sz = o.sz ∧ o.rows.length < ox.rows.length)
 | [], n, q, _, l, o, h => by simp at h
 | o :: os, n, [], h, _, _, _ => h.elim
 | o :: os, n, x :: q, h, l, o', ho => by
  obtain ⟨h1, h2⟩ := h
  cases l with
  | zero =>
   simp only [List.getElem?_cons_zero, Option.some.injEq] at ho
   subst ho
   exact ⟨x, rfl, by simpa using h1⟩
  | succ l =>
   obtain ⟨y, hy, h3⟩ := preW_spec h2 l o' (by simpa using ho)
   exact ⟨y, by simpa using hy, by rwa [show n + (l + 1) = n + 1 + l by omega]⟩
theorem kept_extW {C0 C : Ctx} (hb : C0.σ = base) (hx : Ext C0 C) (hi : Inv C) (hk : KeptOK C true q σ') (hq : preW C.σ base 0 q) : Ext C0 (C.kept true q σ') := by
 refine ⟨by rw [kept_F]; exact hx.F, hx.os, hx.tape, hx.output, hx.size, fun b hb ho => ⟨(hx.blk b hb ho).1, fun ho' => (hx.blk b hb ho).2 (kept_owned' hk ho')⟩, fun l o b ho hb' => ?_⟩
 obtain ⟨o', b', k1, k2, k3, k4, k5⟩ := hx.ob l o b ho hb'
 obtain ⟨x, hql, hcase⟩ := preW_spec hq l o (by rw [← hb]; exact ho)
 obtain ⟨o2, w, b2, h1, h2, h3, r1, r2, r3, r4, r5, r6, r7, r8⟩ := hk.ob l x hql
 rcases hcase with rfl | ⟨ox, g1, g2, g3⟩
 ·rw [Nat.zero_add] at h1 h3 hql
  rw [k1] at h1; cases h1
  rw [k2] at h3; cases h3
  refine ⟨w, b', h2, by simp [Ctx.kept, hql, k2], by rw [r4]; exact k3, by rw [r7]; exact k4, fun he => ?_⟩
  rw [r7] at he
  obtain ⟨e1, e2, e3, e4⟩ := k5 he
  exact ⟨e1, by rw [r1]; exact e2, by rw [r2]; exact e3, e4⟩
 ·rw [g1] at h1; cases h1
  refine ⟨w, b2, h2, by simp [Ctx.kept, hql, h3], by rw [r4]; exact g2, by rw [r7]; omega, fun he => ?_⟩
  rw [r7] at he; omega
theorem Ent_gc (q : List Nat) (hq0 : preK base 0 q = true) (hnd : q.Nodup) (hg : keptW true q σ q σ') (he : ∀ p ∈ env', pull true q σ (lk env p.1) = some p.2) : Ent base env σ env' σ' := by
 intro C0 C a N h0 hx hσ hst
 subst hσ
 have hq : ∀ l, l < base.length → q[l]? = some l := fun l hl => by simpa using preK_spec hq0 l hl
 obtain ⟨os, h1, h2⟩ := keptW_spec hg
 have hk := kept_ok hst.inv hnd h1 h2
 refine ⟨C.kept true q σ', rfl, rfl, kept_ext h0 hx hst.inv hk hq, kept_inv hst.inv hk, hst.size, hst.defers, fun t => ?_⟩
 rcases lk_mem (e := env') (t := t) with h' | ⟨d, hm, h'⟩
 ·rw [h']; exact .undef _
 ·rw [h']
  exact pull_rep hst.inv hk (hst.rep t) (he _ hm)
theorem Ent_acc {t : Nat} {b : Bool} (z : Nat) (pu : Bool) (hz : 0 < z) (h : lk env t = .list (some b) true []) : Ent base env σ ((t, .own σ.length 0 0 0 z none) :: env) (σ ++ [acc b z pu []]) := by
 intro C0 C a N h0 hx hσ hst
 subst hσ
 obtain ⟨hx', hi'⟩ := newOb hst.inv (Below.refl _ C.w) (acc b z pu []) 0 rfl hz (by simp [acc]) (by simp [acc]) (by simp [acc]) (by simp [acc]) (by simp [acc])
 refine ⟨⟨C.F, C.σ ++ [acc b z pu []], C.bs ++ [0], C.w⟩, rfl, rfl, hx.trans hx', hi', hst.size, hst.defers, fun t' => ?_⟩
 show Rep _ (if t = t' then _ else lk env t') _
 by_cases e : t = t'
 ·subst e
  rw [if_pos rfl]
  have hr := hst.rep t
  rw [h] at hr
  obtain ⟨A, cap, sz, hv, q1, q2, q3, q4, _⟩ := rep_list hr
  have hc : cap = 0 := by simpa using q4 rfl
  subst hc
  rw [hv]
  have hl := hst.inv.len
  exact .own C.σ.length 0 0 0 z none A 0 (acc b z pu []) 0 (by simp) (by rw [← hl]; simp) (by simp) (by simp) rfl (fun _ => rfl) (by simp) (fun _ h => by simp [acc] at h) (fun _ _ => ⟨rfl, rfl, by simp [acc, q1 b rfl]⟩)
 ·rw [if_neg e]; exact (hst.rep t').ext hx'
theorem list_nils {C : Ctx} {tg : Bool} {rows : List (List D)} {v : Value} (h : Rep C (.list none tg rows) v) : ∃ b, (b = true → rows = []) ∧ Rep C (.list (some b) tg rows) v := by
 cases h with
 | pure h =>
  cases h with
  | list nl tg rows A cap sz vf h1 h2 h3 h4 h5 h9 h6 h7 h8 =>
   refine ⟨A.isNone, fun hA => ?_, .pure (.list (some A.isNone) tg rows A cap sz vf (by simp) h2 h3 h4 h5 h9 h6 h7 h8)⟩
   have : A = none := by simpa using hA
   exact List.eq_nil_of_length_eq_zero (by have := h2 this; omega)
theorem Run_nils (t : Nat) {tg : Bool} {rows : List (List D)} (h : lk env t = .list none tg rows) (hr : ∀ b, (b = true → rows = []) → Run P N base k post ((t, .list (some b) tg rows) :: env) σ) : Run P N base k post env σ := by
 intro its hl C0 C a h0 hx hσ hst bb cs
 have hrep := hst.rep t
 rw [h] at hrep
 obtain ⟨b, hb, hrep'⟩ := list_nils hrep
 refine hr b hb its hl C0 C a h0 hx hσ ⟨hst.inv, hst.size, hst.defers, fun t' => ?_⟩ bb cs
 show Rep C (if t = t' then _ else lk env t') _
 by_cases e : t = t'
 ·subst e; rw [if_pos rfl]; exact hrep'
 ·rw [if_neg e]; exact hst.rep t'
end
def CallG (P : Program) (f : FuncId) (ds : List D) (σ : List Ob) (r : D) (τ : List Ob) : Prop := CallD P f ds σ fun d σ' => d = r ∧ σ' = τ
def D.nrm : D → D
 | .tup ds => .tup (ds.map D.norm)
 | d => d.norm
theorem Rep.norm1 {C : Ctx} {d : D} {v : Value} (h : Rep C d v) : Rep C d.norm1 v := by
 cases d with
 | list nl tg rows => cases h with
  | pure h => exact .pure h.norm1
 | _ => exact h
theorem Rep.norm {C : Ctx} {d : D} {v : Value} (h : Rep C d v) : Rep C d.norm v := by
 cases d with
 | agg cs =>
  obtain ⟨vs, rfl, hl, hr⟩ := rep_agg h
  refine .agg _ vs (by simp [hl]) fun i d v hd hv => ?_
  simp only [List.getElem?_map, Option.map_eq_some_iff] at hd
  obtain ⟨d', hd', rfl⟩ := hd
  exact (hr i d' v hd' hv).norm1
 | _ => exact h.norm1
theorem Rep.nrm {C : Ctx} {d : D} {v : Value} (h : Rep C d v) : Rep C d.nrm v := by
 cases d with
 | tup ds =>
  obtain ⟨vs, rfl, hl, hr⟩ := rep_tup h
  refine .tup _ vs (by simp [hl]) fun i d v hd hv => ?_
  simp only [List.getElem?_map, Option.map_eq_some_iff] at hd
  obtain ⟨d', hd', rfl⟩ := hd
  exact (hr i d' v hd' hv).norm
 | _ => exact h.norm
def nrmO : Option D → Option D
 | some d => some d.nrm
 | none => none
def GcTo (base : List Ob) (d r : D) (τ σ : List Ob) : Prop := ∃ q, preW σ base 0 q ∧ q.Nodup ∧ keptW true q σ q τ ∧ (pull true q σ d = some r ∨ nrmO (pull true q σ d) = some r)
theorem CallD.gc {P : Program} {f : FuncId} {ds : List D} {σ : List Ob} {Q : D → List Ob → Prop} (h : CallD P f ds σ fun d σ' => ∃ r τ, GcTo σ d r τ σ' ∧ Q r τ) : CallD P f ds σ Q := by
 refine ⟨h.enters, fun C vs hσ hi hrow => (h.calls C vs hσ hi hrow).mono ?_⟩
 rintro e w' ⟨v, C', d, rfl, rfl, hx, hi', hrep, r, τ, ⟨q, hq0, hnd, hg, hp⟩, hQ⟩
 obtain ⟨os, h1, h2⟩ := keptW_spec hg
 have hk := kept_ok hi' hnd h1 h2
 refine ⟨v, C'.kept true q τ, r, rfl, rfl, kept_extW hσ hx hi' hk hq0, kept_inv hi' hk, ?_, hQ⟩
 rcases hp with hp | hp
 ·exact pull_rep hi' hk hrep hp
 ·cases hpp : pull true q C'.σ d with
  | none => rw [hpp] at hp; cases hp
  | some r0 =>
   rw [hpp] at hp
   cases hp
   exact (pull_rep hi' hk hrep hpp).nrm
def PostG (base : List Ob) (res : List RL) (r : D) (τ : List Ob) (env : Env) (σ : List Ob) : Prop := resK env σ res fun rs => GcTo base (ofRes rs) r τ σ
def PostQ (base : List Ob) (res : List RL) (Q : D → List Ob → Prop) (env : Env) (σ : List Ob) : Prop := resK env σ res fun rs => ∃ r τ, GcTo base (ofRes rs) r τ σ ∧ Q r τ
theorem resK_mono {env : Env} {σ : List Ob} : ∀ {res : List RL} {K K' : List D → Prop}, (∀ ds, K ds → K' ds) → resK env σ res K → resK env σ res K'
 | [], K, K', h, hr => h _ hr
 | .tmp t :: rs, K, K', h, hr => by
  simp only [resK] at hr ⊢
  exact resK_mono (fun ds => h _) hr
 | .cell a ag :: rs, K, K', h, hr => by
  simp only [resK] at hr ⊢
  split at hr
  ·split at hr
   ·obtain ⟨h1, h2, h3, h4⟩ := hr
    refine ⟨h1, h2, h3, fun r hr => ?_⟩
    have := h4 r hr
    rw [loadRow_D] at this ⊢
    split at this
    ·exact ⟨this.1, resK_mono (fun ds => h _) this.2⟩
    ·exact this.elim
   ·exact hr.elim
  ·exact hr.elim
theorem callQ {P : Program} {f : FuncId} {fn : Func} {l : LF} {ds : List D} {σ : List Ob} {Q : D → List Ob → Prop} (hf : P.funcs[f]? = some fn) (hl : lowFn P fn = some l) (hds : ds.length ≤ l.n)
  (h : Run P l.n σ [.code l.code] (PostQ σ l.res Q) (argEnv 0 ds) σ) : CallD P f ds σ Q := (callD hf hl hds h).gc
theorem callG {P : Program} {f : FuncId} {fn : Func} {l : LF} {ds : List D} {σ : List Ob} {r : D} {τ : List Ob} (hf : P.funcs[f]? = some fn) (hl : lowFn P fn = some l) (hds : ds.length ≤ l.n)
  (h : Run P l.n σ [.code l.code] (PostG σ l.res r τ) (argEnv 0 ds) σ) : CallG P f ds σ r τ := by
 refine callQ hf hl hds ?_
 intro its hli C0 C a h0 hx hσ hst b cs
 obtain ⟨a', C', env', todo, h1, h2, h3, h4⟩ := h its hli C0 C a h0 hx hσ hst b cs
 exact ⟨a', C', env', todo, h1, h2, h3, resK_mono (fun ds h => ⟨r, τ, h, rfl, rfl⟩) h4⟩
theorem PostG_open {base : List Ob} {res : List RL} {r : D} {τ : List Ob} {env : Env} {σ : List Ob} (h : resK env σ res fun rs => GcTo base (ofRes rs) r τ σ) : PostG base res r τ env σ := h
theorem PostQ_open {base : List Ob} {res : List RL} {Q : D → List Ob → Prop} {env : Env} {σ : List Ob} (h : resK env σ res fun rs => ∃ r τ, GcTo base (ofRes rs) r τ σ ∧ Q r τ) : PostQ base res Q env σ := h
theorem GcTo_own {base : List Ob} {d r : D} {τ σ : List Ob} (q : List Nat) (hq : preK base 0 q = true) (hnd : q.Nodup) (h : keptW true q σ q τ ∧ pull true q σ d = some r) : GcTo base d r τ σ := ⟨q, preW_of hq, hnd, h.1, .inl h.2⟩
end Go.Vi
