import Derived.Test.YtgefljdclekadaaGreatVi19
set_option linter.unusedVariables false
set_option linter.unusedSimpArgs false
set_option linter.unnecessarySimpa false
namespace Go.Vi
open Go Go.RowKit
def rH (g : Bool) (q : List Nat) (σ : List Ob) (o : Option Ob) (w : Ob) : Prop := match o with
 | some o => match fX g q σ o with
  | some o' => xl o' w
  | none => False
 | none => False
def bx (g : Bool) (q : List Nat) (σ : List Ob) : List Nat → List Ob → Prop
 | [], [] => True
 | l :: ls, w :: ws => rH g q σ (σ[l]?) w ∧ bx g q σ ls ws
 | _, _ => False
theorem iq {g : Bool} {q : List Nat} {σ : List Ob} : ∀ {ls : List Nat} {ws : List Ob}, bx g q σ ls ws → ∃ os, cV g q σ ls = some os ∧ pn os ws
 | [], [], _ => ⟨[], rfl, trivial⟩
 | l :: ls, w :: ws, h => by
  obtain ⟨h1, h2⟩ := h
  obtain ⟨os, h3, h4⟩ := iq h2
  unfold rH at h1
  split at h1
  ·rename_i o ho
   split at h1
   ·rename_i o' ho'
    exact ⟨o' :: os, by simp only [cV, ho, ho', h3], h1, h4⟩
   ·exact h1.elim
  ·exact h1.elim
def lw : List Ob → Nat → List Nat → Bool
 | [], _, _ => true
 | _ :: os, n, x :: q => (x == n) && lw os (n + 1) q
 | _ :: _, _, [] => false
theorem mo : ∀ {base : List Ob} {n : Nat} {q : List Nat}, lw base n q = true → ∀ l, l < base.length → q[l]? = some (n + l)
 | [], n, q, _, l, hl => by simp at hl
 | _ :: os, n, [], h, l, hl => by simp [lw] at h
 | _ :: os, n, x :: q, h, l, hl => by
  simp only [lw, Bool.and_eq_true, beq_iff_eq] at h
  cases l with
  | zero => simp [h.1]
  | succ l =>
   have := mo h.2 l (by simpa using hl)
   simp [this]; omega
section
variable {P : Program} {N : Nat} {base : List Ob} {env env' : bK} {σ σ' : List Ob} {q : List Nat} {k : List LI} {post : bK → List Ob → Prop}
theorem tQ {C : bT} : (C.kept true q σ').F = C.F := by
 funext b
 simp [bT.kept, wh]
theorem tS {C0 C : bT} (hb : C0.σ = base) (hx : en C0 C) (hi : dN C) (hk : dS C true q σ') (hq : ∀ l, l < base.length → q[l]? = some l) : en C0 (C.kept true q σ') := by
 refine ⟨by rw [tQ]; exact hx.F, hx.os, hx.tape, hx.output, hx.size, fun b hb ho => ⟨(hx.blk b hb ho).1, fun ho' => (hx.blk b hb ho).2 (dg hk ho')⟩, fun l o b ho hb' => ?_⟩
 obtain ⟨o', b', k1, k2, k3, k4, k5⟩ := hx.ob l o b ho hb'
 have hl : l < base.length := by rw [← hb]; exact (List.getElem?_eq_some_iff.1 ho).1
 have hql := hq l hl
 obtain ⟨o2, w, b2, h1, h2, h3, r1, r2, r3, r4, r5, r6, r7, r8⟩ := hk.ob l l hql
 rw [k1] at h1; cases h1
 rw [k2] at h3; cases h3
 refine ⟨w, b', h2, by simp [bT.kept, hql, k2], by rw [r4]; exact k3, by rw [r7]; exact k4, fun he => ?_⟩
 rw [r7] at he
 obtain ⟨e1, e2, e3, e4⟩ := k5 he
 exact ⟨e1, by rw [r1]; exact e2, by rw [r2]; exact e3, e4⟩
def jI (σ : List Ob) : List Ob → Nat → List Nat → Prop
 | [], _, _ => True
 | o :: os, n, x :: q => (x = n ∨ ∃ ox, σ[x]? = some ox ∧ ox.sz = o.sz ∧ o.rows.length < ox.rows.length) ∧ jI σ os (n + 1) q
 | _ :: _, _, [] => False
theorem m7 {σ : List Ob} : ∀ {base : List Ob} {n : Nat} {q : List Nat}, lw base n q = true → jI σ base n q
 | [], n, q, _ => by cases q <;> exact trivial
 | o :: os, n, [], h => by simp [lw] at h
 | o :: os, n, x :: q, h => by
  simp only [lw, Bool.and_eq_true, beq_iff_eq] at h
  exact ⟨.inl h.1, m7 h.2⟩
theorem mq {σ : List Ob} : ∀ {base : List Ob} {n : Nat} {q : List Nat}, jI σ base n q → ∀ l o, base[l]? = some o → ∃ x, q[l]? = some x ∧ (x = n + l ∨ ∃ ox, σ[x]? = some ox ∧ ox.sz = o.sz ∧ o.rows.length < ox.rows.length)
 | [], n, q, _, l, o, h => by simp at h
 | o :: os, n, [], h, _, _, _ => h.elim
 | o :: os, n, x :: q, h, l, o', ho => by
  obtain ⟨h1, h2⟩ := h
  cases l with
  | zero =>
   simp only [List.getElem?_cons_zero, Option.some.injEq] at ho
   subst ho
   exact ⟨x, rfl, by simpa using h1⟩
  | succ l =>
   obtain ⟨y, hy, h3⟩ := mq h2 l o' (by simpa using ho)
   exact ⟨y, by simpa using hy, by rwa [show n + (l + 1) = n + 1 + l by omega]⟩
theorem sa {C0 C : bT} (hb : C0.σ = base) (hx : en C0 C) (hi : dN C) (hk : dS C true q σ') (hq : jI C.σ base 0 q) : en C0 (C.kept true q σ') := by
 refine ⟨by rw [tQ]; exact hx.F, hx.os, hx.tape, hx.output, hx.size, fun b hb ho => ⟨(hx.blk b hb ho).1, fun ho' => (hx.blk b hb ho).2 (dg hk ho')⟩, fun l o b ho hb' => ?_⟩
 obtain ⟨o', b', k1, k2, k3, k4, k5⟩ := hx.ob l o b ho hb'
 obtain ⟨x, hql, hcase⟩ := mq hq l o (by rw [← hb]; exact ho)
 obtain ⟨o2, w, b2, h1, h2, h3, r1, r2, r3, r4, r5, r6, r7, r8⟩ := hk.ob l x hql
 rcases hcase with rfl | ⟨ox, g1, g2, g3⟩
 ·rw [Nat.zero_add] at h1 h3 hql
  rw [k1] at h1; cases h1
  rw [k2] at h3; cases h3
  refine ⟨w, b', h2, by simp [bT.kept, hql, k2], by rw [r4]; exact k3, by rw [r7]; exact k4, fun he => ?_⟩
  rw [r7] at he
  obtain ⟨e1, e2, e3, e4⟩ := k5 he
  exact ⟨e1, by rw [r1]; exact e2, by rw [r2]; exact e3, e4⟩
 ·rw [g1] at h1; cases h1
  refine ⟨w, b2, h2, by simp [bT.kept, hql, h3], by rw [r4]; exact g2, by rw [r7]; omega, fun he => ?_⟩
  rw [r7] at he; omega
theorem aC (q : List Nat) (hq0 : lw base 0 q = true) (hnd : q.Nodup) (hg : bx true q σ q σ') (he : ∀ p ∈ env', eB true q σ (lk env p.1) = some p.2) : iz base env σ env' σ' := by
 intro C0 C a N h0 hx hσ hst
 subst hσ
 have hq : ∀ l, l < base.length → q[l]? = some l := fun l hl => by simpa using mo hq0 l hl
 obtain ⟨os, h1, h2⟩ := iq hg
 have hk := m0 hst.inv hnd h1 h2
 refine ⟨C.kept true q σ', rfl, rfl, tS h0 hx hst.inv hk hq, kv hst.inv hk, hst.size, hst.defers, fun t => ?_⟩
 rcases tW (e := env') (t := t) with h' | ⟨d, hm, h'⟩
 ·rw [h']; exact .undef _
 ·rw [h']
  exact iM hst.inv hk (hst.rep t) (he _ hm)
theorem fQ (l : Nat) : iz base env σ env (dK σ l) := by
 intro C0 C a N h0 hx hσ hst
 subst hσ
 obtain ⟨h1, h2⟩ := kj hst.inv l
 exact ⟨⟨C.F, dK C.σ l, C.bs, C.w⟩, rfl, rfl, hx.trans h1, h2, hst.size, hst.defers, fun t => (hst.rep t).ext h1⟩
theorem sb {C : bT} {tg : Bool} {rows : List (List D)} {v : Value} (h : bq C (.list none tg rows) v) : ∃ b, (b = true → rows = []) ∧ bq C (.list (some b) tg rows) v := by
 cases h with
 | pure h =>
  cases h with
  | list nl tg rows A cap sz vf h1 h2 h3 h4 h5 h9 h6 h7 h8 =>
   refine ⟨A.isNone, fun hA => ?_, .pure (.list (some A.isNone) tg rows A cap sz vf (by simp) h2 h3 h4 h5 h9 h6 h7 h8)⟩
   have : A = none := by simpa using hA
   exact List.eq_nil_of_length_eq_zero (by have := h2 this; omega)
theorem th (t : Nat) {tg : Bool} {rows : List (List D)} (h : lk env t = .list none tg rows) (hr : ∀ b, (b = true → rows = []) → dQ P N base k post ((t, .list (some b) tg rows) :: env) σ) : dQ P N base k post env σ := by
 intro its hl C0 C a h0 hx hσ hst bb cs
 have hrep := hst.rep t
 rw [h] at hrep
 obtain ⟨b, hb, hrep'⟩ := sb hrep
 refine hr b hb its hl C0 C a h0 hx hσ ⟨hst.inv, hst.size, hst.defers, fun t' => ?_⟩ bb cs
 show bq C (if t = t' then _ else lk env t') _
 by_cases e : t = t'
 ·subst e; rw [if_pos rfl]; exact hrep'
 ·rw [if_neg e]; exact hst.rep t'
end
def az (P : Program) (f : FuncId) (ds : List D) (σ : List Ob) (r : D) (τ : List Ob) : Prop := cR P f ds σ fun d σ' => d = r ∧ σ' = τ
def D.nrm : D → D
 | .tup ds => .tup (ds.map D.norm)
 | d => d.norm
theorem bq.norm1 {C : bT} {d : D} {v : Value} (h : bq C d v) : bq C d.norm1 v := by
 cases d with
 | list nl tg rows => cases h with
  | pure h => exact .pure h.norm1
 | _ => exact h
theorem bq.norm {C : bT} {d : D} {v : Value} (h : bq C d v) : bq C d.norm v := by
 cases d with
 | agg cs =>
  obtain ⟨vs, rfl, hl, hr⟩ := fB h
  refine .agg _ vs (by simp [hl]) fun i d v hd hv => ?_
  simp only [List.getElem?_map, Option.map_eq_some_iff] at hd
  obtain ⟨d', hd', rfl⟩ := hd
  exact (hr i d' v hd' hv).norm1
 | _ => exact h.norm1
theorem bq.nrm {C : bT} {d : D} {v : Value} (h : bq C d v) : bq C d.nrm v := by
 cases d with
 | tup ds =>
  obtain ⟨vs, rfl, hl, hr⟩ := jY h
  refine .tup _ vs (by simp [hl]) fun i d v hd hv => ?_
  simp only [List.getElem?_map, Option.map_eq_some_iff] at hd
  obtain ⟨d', hd', rfl⟩ := hd
  exact (hr i d' v hd' hv).norm
 | _ => exact h.norm
def sh : Option D → Option D
 | some d => some d.nrm
 | none => none
def px (base : List Ob) (d r : D) (τ σ : List Ob) : Prop := ∃ q, jI σ base 0 q ∧ q.Nodup ∧ bx true q σ q τ ∧ (eB true q σ d = some r ∨ sh (eB true q σ d) = some r)
theorem cR.gc {P : Program} {f : FuncId} {ds : List D} {σ : List Ob} {Q : D → List Ob → Prop} (h : cR P f ds σ fun d σ' => ∃ r τ, px σ d r τ σ' ∧ Q r τ) : cR P f ds σ Q := by
 refine ⟨h.enters, fun C vs hσ hi hrow => (h.calls C vs hσ hi hrow).mono ?_⟩
 rintro e w' ⟨v, C', d, rfl, rfl, hx, hi', hrep, r, τ, ⟨q, hq0, hnd, hg, hp⟩, hQ⟩
 obtain ⟨os, h1, h2⟩ := iq hg
 have hk := m0 hi' hnd h1 h2
 refine ⟨v, C'.kept true q τ, r, rfl, rfl, sa hσ hx hi' hk hq0, kv hi' hk, ?_, hQ⟩
 rcases hp with hp | hp
 ·exact iM hi' hk hrep hp
 ·cases hpp : eB true q C'.σ d with
  | none => rw [hpp] at hp; cases hp
  | some r0 =>
   rw [hpp] at hp
   cases hp
   exact (iM hi' hk hrep hpp).nrm
def xm (base : List Ob) (res : List RL) (r : D) (τ : List Ob) (env : bK) (σ : List Ob) : Prop := eW env σ res fun rs => px base (cf rs) r τ σ
def xn (base : List Ob) (res : List RL) (Q : D → List Ob → Prop) (env : bK) (σ : List Ob) : Prop := eW env σ res fun rs => ∃ r τ, px base (cf rs) r τ σ ∧ Q r τ
theorem je {env : bK} {σ : List Ob} : ∀ {res : List RL} {K K' : List D → Prop}, (∀ ds, K ds → K' ds) → eW env σ res K → eW env σ res K'
 | [], K, K', h, hr => h _ hr
 | .tmp t :: rs, K, K', h, hr => by
  simp only [eW] at hr ⊢
  exact je (fun ds => h _) hr
 | .cell a ag :: rs, K, K', h, hr => by
  simp only [eW] at hr ⊢
  split at hr
  ·split at hr
   ·obtain ⟨h1, h2, h3, h4⟩ := hr
    refine ⟨h1, h2, h3, fun r hr => ?_⟩
    have := h4 r hr
    rw [gS] at this ⊢
    split at this
    ·exact ⟨this.1, je (fun ds => h _) this.2⟩
    ·exact this.elim
   ·exact hr.elim
  ·exact hr.elim
theorem callQ {P : Program} {f : FuncId} {fn : Func} {l : LF} {ds : List D} {σ : List Ob} {Q : D → List Ob → Prop} (hf : P.funcs[f]? = some fn) (hl : aH P fn = some l) (hds : ds.length ≤ l.n)
  (h : dQ P l.n σ [.code l.code] (xn σ l.res Q) (de 0 ds) σ) : cR P f ds σ Q := (xB hf hl hds h).gc
theorem aS {P : Program} {f : FuncId} {fn : Func} {l : LF} {ds : List D} {σ : List Ob} {r : D} {τ : List Ob} (hf : P.funcs[f]? = some fn) (hl : aH P fn = some l) (hds : ds.length ≤ l.n)
  (h : dQ P l.n σ [.code l.code] (xm σ l.res r τ) (de 0 ds) σ) : az P f ds σ r τ := by
 refine callQ hf hl hds ?_
 intro its hli C0 C a h0 hx hσ hst b cs
 obtain ⟨a', C', env', todo, h1, h2, h3, h4⟩ := h its hli C0 C a h0 hx hσ hst b cs
 exact ⟨a', C', env', todo, h1, h2, h3, je (fun ds h => ⟨r, τ, h, rfl, rfl⟩) h4⟩
theorem au {base : List Ob} {res : List RL} {r : D} {τ : List Ob} {env : bK} {σ : List Ob} (h : eW env σ res fun rs => px base (cf rs) r τ σ) : xm base res r τ env σ := h
theorem bp {base : List Ob} {res : List RL} {Q : D → List Ob → Prop} {env : bK} {σ : List Ob} (h : eW env σ res fun rs => ∃ r τ, px base (cf rs) r τ σ ∧ Q r τ) : xn base res Q env σ := h
theorem ay {base : List Ob} {d r : D} {τ σ : List Ob} (q : List Nat) (hq : lw base 0 q = true) (hnd : q.Nodup) (h : bx true q σ q τ ∧ eB true q σ d = some r) : px base d r τ σ := ⟨q, m7 hq, hnd, h.1, .inl h.2⟩
theorem od {base : List Ob} {d r : D} {τ σ : List Ob} (q : List Nat) (hq : lw base 0 q = true) (hnd : q.Nodup) (h : bx true q σ q τ ∧ sh (eB true q σ d) = some r) : px base d r τ σ := ⟨q, m7 hq, hnd, h.1, .inr h.2⟩
end Go.Vi
