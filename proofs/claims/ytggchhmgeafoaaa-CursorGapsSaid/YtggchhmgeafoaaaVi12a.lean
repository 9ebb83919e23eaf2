import Derived.Test.YtggchhmgeafoaaaVi12
set_option linter.unusedVariables false
set_option linter.unusedSimpArgs false
set_option linter.unnecessarySimpa false
namespace Go.Vi
open Go Go.RowKit
def idx : List Nat → Nat → Option Nat
 | [], _ => none
 | x :: xs, l => if x = l then some 0 else match idx xs l with
  | some m => some (m + 1)
  | none => none
theorem idx_spec : ∀ {q : List Nat} {l m : Nat}, idx q l = some m → q[m]? = some l
 | [], l, m, h => by simp [idx] at h
 | x :: xs, l, m, h => by
  simp only [idx] at h
  split at h
  ·rename_i e; cases h; simp [e]
  ·split at h
   ·rename_i m' h'; cases h; simpa using idx_spec h'
   ·cases h
theorem idx_none : ∀ {q : List Nat} {l : Nat}, idx q l = none → l ∉ q
 | [], l, h => by simp
 | x :: xs, l, h => by
  simp only [idx] at h
  split at h
  ·cases h
  ·rename_i hne
   split at h
   ·cases h
   ·rename_i h'
    simp only [List.mem_cons, not_or]
    exact ⟨fun e => hne e.symm, idx_none h'⟩
def gate (g : Bool) (σ : List Ob) (l : Nat) : Bool := g || match σ[l]? with
 | some o => o.fz
 | none => false
def pull0 (g : Bool) (q : List Nat) (σ : List Ob) : D → Option D
 | .own l i k n z cl => match idx q l with
  | some m => some (.own m i k n z cl)
  | none => if gate g σ l = true then (match viewS σ (.own l i k n z cl) with
   | some rows => some (.list none false rows)
   | none => none) else none
 | .ptr l j i n => match idx q l with
  | some m => some (.ptr m j i n)
  | none => if gate g σ l = true then view0 σ (.ptr l j i n) else none
 | .undef => some .undef
 | d => if d.pt0 = true then some d else none
def pull1 (g : Bool) (q : List Nat) (σ : List Ob) : D → Option D
 | .fn f caps => match mapO (pull0 g q σ) caps with
  | some cs => some (.fn f cs)
  | none => none
 | d => pull0 g q σ d
def pull2 (g : Bool) (q : List Nat) (σ : List Ob) : D → Option D
 | .agg cs => match mapO (pull1 g q σ) cs with
  | some es => some (.agg es)
  | none => none
 | d => pull1 g q σ d
def pull (g : Bool) (q : List Nat) (σ : List Ob) : D → Option D
 | .tup ds => match mapO (pull2 g q σ) ds with
  | some es => some (.tup es)
  | none => none
 | d => pull2 g q σ d
def pullOb (g : Bool) (q : List Nat) (σ : List Ob) (o : Ob) : Option Ob :=
 if o.pure = true then some o else match mapO (mapO (pull1 g q σ)) o.rows with
  | some rows => some { o with rows := rows, pure := rows.all fun r => r.all D.pt1 }
  | none => none
def pullσ (g : Bool) (q : List Nat) (σ : List Ob) : List Nat → Option (List Ob)
 | [] => some []
 | l :: ls => match σ[l]? with
  | some o => match pullOb g q σ o, pullσ g q σ ls with
   | some o', some os => some (o' :: os)
   | _, _ => none
  | none => none
def ObRel (g : Bool) (q : List Nat) (σ : List Ob) (o w : Ob) : Prop :=
 w.real = o.real ∧ w.nl = o.nl ∧ w.fz = o.fz ∧ w.sz = o.sz ∧ (w.spare = o.spare ∨ w.spare = none) ∧ (w.pure = true → ∀ r ∈ w.rows, ∀ d ∈ r, d.pt1 = true) ∧ w.rows.length = o.rows.length ∧
  ∀ (j : Nat) r r', o.rows[j]? = some r → w.rows[j]? = some r' → r'.length = r.length ∧ ∀ (i : Nat) d d', r[i]? = some d → r'[i]? = some d' → pull1 g q σ d = some d'
def ObW (o w : Ob) : Prop := w.real = o.real ∧ w.nl = o.nl ∧ w.fz = o.fz ∧ w.sz = o.sz ∧ w.rows = o.rows ∧ (w.spare = o.spare ∨ w.spare = none) ∧ (w.pure = true → o.pure = true)
theorem ObW.refl (o : Ob) : ObW o o := ⟨rfl, rfl, rfl, rfl, rfl, .inl rfl, fun h => h⟩
theorem pull0_pt0 {g : Bool} {q : List Nat} {σ : List Ob} {d : D} (h : d.pt0 = true) : pull0 g q σ d = some d := by
 cases d <;> first | (simp [D.pt0] at h; done) | (simp only [pull0]; rw [if_pos h]) | (simp only [pull0, h, if_true])
theorem mapO_self {f : D → Option D} : ∀ {ds : List D}, (∀ d ∈ ds, f d = some d) → mapO f ds = some ds
 | [], _ => rfl
 | d :: ds, h => by
  simp only [mapO, h d (by simp), mapO_self (ds := ds) fun d hd => h d (by simp [hd])]
theorem pull1_pt1 {g : Bool} {q : List Nat} {σ : List Ob} {d : D} (h : d.pt1 = true) : pull1 g q σ d = some d := by
 cases d with
 | fn f caps =>
  simp only [D.pt1, List.all_eq_true] at h
  simp only [pull1, mapO_self fun d hd => pull0_pt0 (h d hd)]
 | bool | int | str | nilp | nilfn | list | elt => rfl
 | _ => simp [D.pt1] at h
theorem pullOb_rel {g : Bool} {q : List Nat} {σ : List Ob} {o o' w : Ob} (hp : o.pure = true → ∀ r ∈ o.rows, ∀ d ∈ r, d.pt1 = true) (h : pullOb g q σ o = some o') (hw : ObW o' w) : ObRel g q σ o w := by
 obtain ⟨w1, w2, w3, w4, w5, w6, w7⟩ := hw
 unfold pullOb at h
 split at h
 ·rename_i hpu
  cases h
  refine ⟨w1, w2, w3, w4, w6, fun h => by rw [w5]; exact hp hpu, by rw [w5], fun j r r' hj hj' => ?_⟩
  rw [w5, hj] at hj'; cases hj'
  exact ⟨rfl, fun i d d' hi hi' => by rw [hi] at hi'; cases hi'; exact pull1_pt1 (hp hpu r (List.mem_of_getElem? hj) d (List.mem_of_getElem? hi))⟩
 ·split at h
  ·rename_i rows hr
   cases h
   obtain ⟨hl, hs⟩ := mapO_spec hr
   refine ⟨w1, w2, w3, w4, w6, fun h r hrm d hd => ?_, by rw [w5]; exact hl.symm, fun j r r' hj hj' => ?_⟩
   ·rw [w5] at hrm
    exact List.all_eq_true.1 (List.all_eq_true.1 (w7 h) r hrm) d hd
   ·rw [w5] at hj'
    obtain ⟨hl', hs'⟩ := mapO_spec (hs j r r' hj hj')
    exact ⟨hl'.symm, hs'⟩
  ·cases h
def AllW : List Ob → List Ob → Prop
 | [], [] => True
 | o :: os, w :: ws => ObW o w ∧ AllW os ws
 | _, _ => False
theorem AllW.refl : ∀ (os : List Ob), AllW os os
 | [] => trivial
 | o :: os => ⟨.refl o, AllW.refl os⟩
theorem pullσ_spec {g : Bool} {q : List Nat} {σ : List Ob} : ∀ {ls : List Nat} {os ws : List Ob}, pullσ g q σ ls = some os → AllW os ws → ls.length = ws.length ∧ ∀ (m l : Nat), ls[m]? = some l → ∃ o o' w, σ[l]? = some o ∧ ws[m]? = some w ∧ pullOb g q σ o = some o' ∧ ObW o' w
 | [], os, ws, h, hw => by
  simp [pullσ] at h; subst h
  cases ws with
  | nil => simp
  | cons => exact hw.elim
 | x :: ls, os, ws, h, hw => by
  simp only [pullσ] at h
  split at h
  ·rename_i o ho
   split at h
   ·rename_i o' os' h1 h2
    cases h
    cases ws with
    | nil => exact hw.elim
    | cons w ws =>
     obtain ⟨hl, hs⟩ := pullσ_spec h2 hw.2
     refine ⟨by simp [hl], fun m l hm => ?_⟩
     cases m with
     | zero => simp at hm; subst hm; exact ⟨o, o', w, ho, rfl, h1, hw.1⟩
     | succ m => simpa using hs m l (by simpa using hm)
   ·cases h
  ·cases h
section
variable {C : Ctx} {g : Bool} {q : List Nat} {σ' : List Ob}
def hide (C : Ctx) (g : Bool) (q : List Nat) (b : Nat) : Prop := g = false ∧ ∃ (l : Nat) (o : Ob), l ∉ q ∧ C.σ[l]? = some o ∧ o.real = true ∧ o.fz = false ∧ C.bs[l]? = some b
def Ctx.kept (C : Ctx) (g : Bool) (q : List Nat) (σ' : List Ob) : Ctx := ⟨fun b => C.F b ∨ hide C g q b, σ', q.map (fun l => C.bs.getD l 0), C.w⟩
structure KeptOK (C : Ctx) (g : Bool) (q : List Nat) (σ' : List Ob) : Prop where
 nd : q.Nodup
 len : q.length = σ'.length
 ob : ∀ (m l : Nat), q[m]? = some l → ∃ o w b, C.σ[l]? = some o ∧ σ'[m]? = some w ∧ C.bs[l]? = some b ∧ ObRel g q C.σ o w
theorem kept_ok (hi : Inv C) (hnd : q.Nodup) {os : List Ob} (h : pullσ g q C.σ q = some os) (hw : AllW os σ') : KeptOK C g q σ' := by
 obtain ⟨hl, hs⟩ := pullσ_spec h hw
 refine ⟨hnd, hl, fun m l hm => ?_⟩
 obtain ⟨o, o', w, h1, h2, h3, h4⟩ := hs m l hm
 have hlt : l < C.bs.length := by rw [hi.len]; exact (List.getElem?_eq_some_iff.1 h1).1
 have hb := List.getElem?_eq_getElem hlt
 exact ⟨o, w, _, h1, h2, hb, pullOb_rel (hi.ob l o _ h1 hb).pure h3 h4⟩
theorem kept_at (hk : KeptOK C g q σ') {m : Nat} {w : Ob} {b : Nat} (hw : (C.kept g q σ').σ[m]? = some w) (hb : (C.kept g q σ').bs[m]? = some b) : ∃ l o, q[m]? = some l ∧ C.σ[l]? = some o ∧ C.bs[l]? = some b ∧ ObRel g q C.σ o w := by
 have hlt : m < q.length := by rw [hk.len]; exact (List.getElem?_eq_some_iff.1 hw).1
 have hq := List.getElem?_eq_getElem hlt
 obtain ⟨o, w', b', h1, h2, h3, h4⟩ := hk.ob m _ hq
 have e1 : w' = w := Option.some.inj (h2.symm.trans hw)
 subst e1
 refine ⟨_, o, hq, h1, ?_, h4⟩
 simp only [Ctx.kept, List.getElem?_map, hq, Option.map_some, Option.some.injEq] at hb
 rw [h3]
 simp only [List.getD_eq_getElem?_getD, h3, Option.getD_some] at hb
 rw [hb]
theorem kept_owned (hk : KeptOK C g q σ') {b : Nat} (h : (C.kept g q σ').owned b) : ∃ l o, l ∈ q ∧ C.σ[l]? = some o ∧ o.real = true ∧ o.fz = false ∧ C.bs[l]? = some b := by
 obtain ⟨m, w, h1, h2, h3, h4⟩ := h
 obtain ⟨l, o, k1, k2, k3, k4⟩ := kept_at hk h1 h4
 exact ⟨l, o, List.mem_of_getElem? k1, k2, by rw [← k4.1]; exact h2, by rw [← k4.2.2.1]; exact h3, k3⟩
theorem kept_owned' (hk : KeptOK C g q σ') {b : Nat} (h : (C.kept g q σ').owned b) : C.owned b := by
 obtain ⟨l, o, _, h1, h2, h3, h4⟩ := kept_owned hk h
 exact ⟨l, o, h1, h2, h3, h4⟩
theorem kept_good (hk : KeptOK C g q σ') {b : Nat} (h : C.good b) : (C.kept g q σ').good b := by
 refine ⟨h.1, fun hF => ?_, fun ho => h.2.2 (kept_owned' hk ho)⟩
 rcases hF with hF | ⟨_, l, o, _, h1, h2, h3, h4⟩
 ·exact h.2.1 hF
 ·exact h.2.2 ⟨l, o, h1, h2, h3, h4⟩
theorem kept_gate (hi : Inv C) (hk : KeptOK C g q σ') {l : Nat} (hl : l ∉ q) (hg : gate g C.σ l = true) {o : Ob} {b : Nat} (ho : C.σ[l]? = some o) (hb : C.bs[l]? = some b) (hr : o.real = true) : (C.kept g q σ').good b := by
 have hO := hi.ob l o b ho hb
 have hF := (hO.blk hr).1
 simp only [gate, ho, Bool.or_eq_true] at hg
 have hfz : g = false → o.fz = true := fun h => by subst h; simpa using hg
 refine ⟨hi.lt ho hb hr, fun h => ?_, fun h => ?_⟩
 ·rcases h with h | ⟨h0, l', o', _, h1, h2, h3, h4⟩
  ·exact hF h
  ·exact hO.frozen hr (hfz h0) ⟨l', o', h1, h2, h3, h4⟩
 ·obtain ⟨l', o', hm, h1, h2, h3, h4⟩ := kept_owned hk h
  by_cases hf : o.fz = true
  ·exact hO.frozen hr hf ⟨l', o', h1, h2, h3, h4⟩
  ·have := hi.dis l l' o o' b ho h1 hr h2 (by simpa using hf) h3 hb h4
   subst this
   exact hl hm
theorem pull0_rep (hi : Inv C) (hk : KeptOK C g q σ') {d d' : D} {v : Value} (h : Rep C d v) (hp : pull0 g q C.σ d = some d') : Rep (C.kept g q σ') d' v := by
 have plain : d.pt0 = true → d' = d → Rep (C.kept g q σ') d' v := fun h1 h2 => by
  subst h2
  exact .pure ((h.of_pt0 h1).mono (fun b hb => kept_good hk hb) fun _ _ => rfl)
 cases d with
 | own l i k n z cl =>
  simp only [pull0] at hp
  split at hp
  ·rename_i m hm
   cases hp
   obtain ⟨A, cap, ob, b, rfl, q1, q2, q3, q3', q4, q5, q5', q6, q7⟩ := rep_own h
   obtain ⟨o, w, b', h1, h2, h3, r1, r2, r3, r4, r5, r6, r7, r8⟩ := hk.ob m l (idx_spec hm)
   rw [q1] at h1; cases h1
   rw [q2] at h3; cases h3
   have hbm : (C.kept g q σ').bs[m]? = some b := by
    simp [Ctx.kept, idx_spec hm, q2]
   refine .own m i k n z cl A cap w b h2 hbm (by rw [r7]; exact q3) q3' (r4.trans q4) q5 q5' (fun e1 e2 => ?_) (fun e1 e2 => ?_)
   ·rw [r4]; exact q6 (by rw [← r7]; exact e1) (by rw [← r1]; exact e2)
   ·rw [r2]; exact q7 (by rw [← r7]; exact e1) (by rw [← r1]; exact e2)
  ·rename_i hm
   split at hp
   ·rename_i hg
    split at hp
    ·rename_i rows hr
     cases hp
     exact .pure (viewS_own hi h hr (fun b hb => kept_good hk hb) fun o b ho hb hreal => kept_gate hi hk (idx_none hm) hg ho hb hreal)
    ·cases hp
   ·cases hp
 | ptr l j i n =>
  simp only [pull0] at hp
  split at hp
  ·rename_i m hm
   cases hp
   obtain ⟨ad, ob, b, rfl, q1, q2, q3⟩ := rep_ptr h
   have q4 : n ≤ ob.rows.length := by
    cases h with
    | pure h => cases h
    | ptr l j i n o b' ad ho hb hle hv => rw [q1] at ho; cases ho; exact hle
   obtain ⟨o, w, b', h1, h2, h3, r1, r2, r3, r4, r5, r6, r7, r8⟩ := hk.ob m l (idx_spec hm)
   rw [q1] at h1; cases h1
   rw [q2] at h3; cases h3
   have hbm : (C.kept g q σ').bs[m]? = some b := by
    simp [Ctx.kept, idx_spec hm, q2]
   exact .ptr m j i n w b ad h2 hbm (by rw [r7]; exact q4) (fun e1 e2 => by rw [r4]; exact q3 (by rw [← r7]; exact e1) (by rw [← r1]; exact e2))
  ·rename_i hm
   split at hp
   ·rename_i hg
    exact .pure (ptr_elt hi h hp (fun b hb => kept_good hk hb) fun o b ho hb hreal => kept_gate hi hk (idx_none hm) hg ho hb hreal)
   ·cases hp
 | undef => simp only [pull0] at hp; cases hp; exact .undef v
 | _ =>
  simp only [pull0] at hp
  split at hp
  ·rename_i hq; cases hp; exact plain hq rfl
  ·cases hp
theorem pull1_rep (hi : Inv C) (hk : KeptOK C g q σ') {d d' : D} {v : Value} (h : Rep C d v) (hp : pull1 g q C.σ d = some d') : Rep (C.kept g q σ') d' v := by
 cases d with
 | fn f caps =>
  simp only [pull1] at hp
  split at hp
  ·rename_i cs hcs
   cases hp
   obtain ⟨vs, rfl, hl, hr⟩ := rep_fn h
   obtain ⟨hl', hs⟩ := mapO_spec hcs
   refine .fn f cs vs (by omega) fun i e v hi' hv => ?_
   have hlt : i < caps.length := by rw [hl]; exact (List.getElem?_eq_some_iff.1 hv).1
   have hc := List.getElem?_eq_getElem hlt
   exact pull0_rep hi hk (hr i _ v hc hv) (hs i _ e hc hi')
  ·cases hp
 | _ => exact pull0_rep hi hk h hp
theorem pull2_rep (hi : Inv C) (hk : KeptOK C g q σ') {d d' : D} {v : Value} (h : Rep C d v) (hp : pull2 g q C.σ d = some d') : Rep (C.kept g q σ') d' v := by
 cases d with
 | agg cs =>
  simp only [pull2] at hp
  split at hp
  ·rename_i es he
   cases hp
   obtain ⟨vs, rfl, hl, hr⟩ := rep_agg h
   obtain ⟨hl', hs⟩ := mapO_spec he
   refine .agg es vs (by omega) fun i e v hi' hv => ?_
   have hlt : i < cs.length := by rw [hl]; exact (List.getElem?_eq_some_iff.1 hv).1
   have hc := List.getElem?_eq_getElem hlt
   exact pull1_rep hi hk (hr i _ v hc hv) (hs i _ e hc hi')
  ·cases hp
 | _ => exact pull1_rep hi hk h hp
theorem pull_rep (hi : Inv C) (hk : KeptOK C g q σ') {d d' : D} {v : Value} (h : Rep C d v) (hp : pull g q C.σ d = some d') : Rep (C.kept g q σ') d' v := by
 cases d with
 | tup ds =>
  simp only [pull] at hp
  split at hp
  ·rename_i es he
   cases hp
   obtain ⟨vs, rfl, hl, hr⟩ := rep_tup h
   obtain ⟨hl', hs⟩ := mapO_spec he
   refine .tup es vs (by omega) fun i e v hi' hv => ?_
   have hlt : i < ds.length := by rw [hl]; exact (List.getElem?_eq_some_iff.1 hv).1
   have hc := List.getElem?_eq_getElem hlt
   exact pull2_rep hi hk (hr i _ v hc hv) (hs i _ e hc hi')
  ·cases hp
 | _ => exact pull2_rep hi hk h hp
theorem pull1_cell {d d' : D} (h : pull1 g q C.σ d = some d') (hc : d.cell = true) : d'.cell = true := by
 have p0 : ∀ {d d' : D}, pull0 g q C.σ d = some d' → d'.cell = true := fun {d d'} h => by
  cases d with
  | own l i k n z cl =>
   simp only [pull0] at h
   repeat' (split at h)
   all_goals first | (cases h; done) | (cases h; rfl)
  | ptr l j i n =>
   simp only [pull0] at h
   repeat' (split at h)
   ·cases h; rfl
   ·simp only [view0] at h
    repeat' (split at h)
    all_goals first | (cases h; done) | (cases h; rfl)
   ·cases h
  | undef => simp only [pull0] at h; cases h; rfl
  | agg => simp [pull0, D.pt0] at h
  | tup => simp [pull0, D.pt0] at h
  | _ =>
   simp only [pull0] at h
   split at h
   ·cases h; rfl
   ·cases h
 cases d with
 | fn f caps =>
  simp only [pull1] at h
  split at h
  ·cases h; rfl
  ·cases h
 | _ => simp only [pull1] at h; exact p0 h
theorem kept_inv (hi : Inv C) (hk : KeptOK C g q σ') : Inv (C.kept g q σ') := by
 refine ⟨fun b hb => ?_, by simp [Ctx.kept, hk.len], fun m w b hw hb => ?_, fun m m' w w' b hw hw' hr hr' hf hf' hb hb' => ?_⟩
 ·rcases hb with hb | ⟨_, l, o, _, h1, h2, h3, h4⟩
  ·exact hi.F b hb
  ·exact hi.lt h1 h4 h2
 ·obtain ⟨l, o, h1, h2, h3, r1, r2, r3, r4, r5, r6, r7, r8⟩ := kept_at hk hw hb
  have k := hi.ob l o b h2 h3
  have get : ∀ (j : Nat) r', w.rows[j]? = some r' → ∃ r, o.rows[j]? = some r ∧ r'.length = r.length ∧ ∀ (i : Nat) d', r'[i]? = some d' → ∃ d, r[i]? = some d ∧ pull1 g q C.σ d = some d' := fun j r' hj => by
   have hlt : j < o.rows.length := by rw [← r7]; exact (List.getElem?_eq_some_iff.1 hj).1
   have hjr := List.getElem?_eq_getElem hlt
   obtain ⟨e1, e2⟩ := r8 j _ r' hjr hj
   refine ⟨_, hjr, e1, fun i d' hd' => ?_⟩
   have hil : i < (o.rows[j]).length := by rw [← e1]; exact (List.getElem?_eq_some_iff.1 hd').1
   have hid := List.getElem?_eq_getElem hil
   exact ⟨_, hid, e2 i _ d' hid hd'⟩
  refine ⟨fun h => ?_, fun r hr => ?_, by rw [r4]; exact k.pos, fun r hr d hd => ?_, fun hr => ?_, r6, fun hr hf ho => ?_⟩
  ·have := k.rows (by rw [← r1]; exact h)
   rw [this] at r7
   exact List.eq_nil_of_length_eq_zero (by simpa using r7)
  ·obtain ⟨j, hj⟩ := List.getElem?_of_mem hr
   obtain ⟨r0, hj0, e1, _⟩ := get j r hj
   rw [e1, r4]; exact k.sz r0 (List.mem_of_getElem? hj0)
  ·obtain ⟨j, hj⟩ := List.getElem?_of_mem hr
   obtain ⟨r0, hj0, _, e2⟩ := get j r hj
   obtain ⟨i, hi'⟩ := List.getElem?_of_mem hd
   obtain ⟨d0, hd0, e3⟩ := e2 i d hi'
   exact pull1_cell e3 (k.one r0 (List.mem_of_getElem? hj0) d0 (List.mem_of_getElem? hd0))
  ·rw [r1] at hr
   obtain ⟨hF, arr, e, qq, a1, a2, a3, a4, a5, a6⟩ := k.block hr
   refine ⟨fun h => ?_, arr, e, qq, a1, by rw [r4]; exact a2, by rw [r7]; exact a3, a4, fun c hc => ?_, fun j i r' d' hj hd' => ?_⟩
   ·rcases h with h | ⟨_, l', o', h5, h6, h7, h8, h9⟩
    ·exact hF h
    ·by_cases hf : o.fz = true
     ·exact k.frozen hr hf ⟨l', o', h6, h7, h8, h9⟩
     ·have := hi.dis l l' o o' b h2 h6 hr h7 (by simpa using hf) h8 h3 h9
      subst this
      exact h5 (List.mem_of_getElem? h1)
   ·rcases r5 with r5 | r5
    ·rw [r7]; exact a5 c (by rw [← r5]; exact hc)
    ·rw [r5] at hc; cases hc
   ·obtain ⟨r0, hj0, _, e2⟩ := get j r' hj
    obtain ⟨d0, hd0, e3⟩ := e2 i d' hd'
    obtain ⟨v, hv, hrep⟩ := a6 j i r0 d0 hj0 hd0
    rw [r4]
    exact ⟨v, hv, pull1_rep hi hk hrep e3⟩
  ·rw [r1] at hr; rw [r3] at hf
   exact k.frozen hr hf (kept_owned' hk ho)
 ·obtain ⟨l, o, h1, h2, h3, r⟩ := kept_at hk hw hb
  obtain ⟨l', o', h1', h2', h3', r'⟩ := kept_at hk hw' hb'
  have := hi.dis l l' o o' b h2 h2' (by rw [← r.1]; exact hr) (by rw [← r'.1]; exact hr') (by rw [← r.2.2.1]; exact hf) (by rw [← r'.2.2.1]; exact hf') h3 h3'
  subst this
  obtain ⟨a1, a2⟩ := List.getElem?_eq_some_iff.1 h1
  obtain ⟨b1, b2⟩ := List.getElem?_eq_some_iff.1 h1'
  exact (List.getElem_inj hk.nd).1 (a2.trans b2.symm)
end
end Go.Vi
