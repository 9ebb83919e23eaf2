import Derived.Test.YtapennlmboabeaaGreatVi12
set_option linter.unusedVariables false
set_option linter.unusedSimpArgs false
set_option linter.unnecessarySimpa false
namespace Go.Vi
open Go Go.RowKit
def idx : List Nat → Nat → Option Nat
 | [], _ => none
 | x :: xs, l => if x = l then some 0 else match idx xs l with
  | some m => some (m + 1)
  | none => none
theorem ln : ∀ {q : List Nat} {l m : Nat}, idx q l = some m → q[m]? = some l
 | [], l, m, h => by simp [idx] at h
 | x :: xs, l, m, h => by
  simp only [idx] at h
  split at h
  ·rename_i e; cases h; simp [e]
  ·split at h
   ·rename_i m' h'; cases h; simpa using ln h'
   ·cases h
theorem o7 : ∀ {q : List Nat} {l : Nat}, idx q l = none → l ∉ q
 | [], l, h => by simp
 | x :: xs, l, h => by
  simp only [idx] at h
  split at h
  ·cases h
  ·rename_i hne
   split at h
   ·cases h
   ·rename_i h'
    simp only [List.mem_cons, not_or]
    exact ⟨fun e => hne e.symm, o7 h'⟩
def gA (g : Bool) (σ : List Ob) (l : Nat) : Bool := g || match σ[l]? with
 | some o => o.fz
 | none => false
def dm (g : Bool) (q : List Nat) (σ : List Ob) : D → Option D
 | .own l i k n z cl => match idx q l with
  | some m => some (.own m i k n z cl)
  | none => if gA g σ l = true then (match jk σ (.own l i k n z cl) with
   | some rows => some (.list none false rows)
   | none => none) else none
 | .ptr l j i n => match idx q l with
  | some m => some (.ptr m j i n)
  | none => if gA g σ l = true then du σ (.ptr l j i n) else none
 | .undef => some .undef
 | d => if d.pt0 = true then some d else none
def cr (g : Bool) (q : List Nat) (σ : List Ob) : D → Option D
 | .fn f caps => match cV (dm g q σ) caps with
  | some cs => some (.fn f cs)
  | none => none
 | d => dm g q σ d
def ek (g : Bool) (q : List Nat) (σ : List Ob) : D → Option D
 | .agg cs => match cV (cr g q σ) cs with
  | some es => some (.agg es)
  | none => none
 | d => cr g q σ d
def dZ (g : Bool) (q : List Nat) (σ : List Ob) : D → Option D
 | .tup ds => match cV (ek g q σ) ds with
  | some es => some (.tup es)
  | none => none
 | d => ek g q σ d
def c0 (g : Bool) (q : List Nat) (σ : List Ob) (o : Ob) : Option Ob :=
 if o.pure = true then some o else match cV (cV (cr g q σ)) o.rows with
  | some rows => some { o with rows := rows, pure := rows.all fun r => r.all D.pt1 }
  | none => none
def ct (g : Bool) (q : List Nat) (σ : List Ob) : List Nat → Option (List Ob)
 | [] => some []
 | l :: ls => match σ[l]? with
  | some o => match c0 g q σ o, ct g q σ ls with
   | some o', some os => some (o' :: os)
   | _, _ => none
  | none => none
def wJ (g : Bool) (q : List Nat) (σ : List Ob) (o w : Ob) : Prop :=
 w.real = o.real ∧ w.nl = o.nl ∧ w.fz = o.fz ∧ w.sz = o.sz ∧ (w.spare = o.spare ∨ w.spare = none) ∧ (w.pure = true → ∀ r ∈ w.rows, ∀ d ∈ r, d.pt1 = true) ∧ w.rows.length = o.rows.length ∧
  ∀ (j : Nat) r r', o.rows[j]? = some r → w.rows[j]? = some r' → r'.length = r.length ∧ ∀ (i : Nat) d d', r[i]? = some d → r'[i]? = some d' → cr g q σ d = some d'
def uL (o w : Ob) : Prop := w.real = o.real ∧ w.nl = o.nl ∧ w.fz = o.fz ∧ w.sz = o.sz ∧ w.rows = o.rows ∧ (w.spare = o.spare ∨ w.spare = none) ∧ (w.pure = true → o.pure = true)
theorem uL.refl (o : Ob) : uL o o := ⟨rfl, rfl, rfl, rfl, rfl, .inl rfl, fun h => h⟩
theorem vO {g : Bool} {q : List Nat} {σ : List Ob} {d : D} (h : d.pt0 = true) : dm g q σ d = some d := by
 cases d <;> first | (simp [D.pt0] at h; done) | (simp only [dm]; rw [if_pos h]) | (simp only [dm, h, if_true])
theorem nf {f : D → Option D} : ∀ {ds : List D}, (∀ d ∈ ds, f d = some d) → cV f ds = some ds
 | [], _ => rfl
 | d :: ds, h => by
  simp only [cV, h d (by simp), nf (ds := ds) fun d hd => h d (by simp [hd])]
theorem lJ {g : Bool} {q : List Nat} {σ : List Ob} {d : D} (h : d.pt1 = true) : cr g q σ d = some d := by
 cases d with
 | fn f caps =>
  simp only [D.pt1, List.all_eq_true] at h
  simp only [cr, nf fun d hd => vO (h d hd)]
 | bool | int | str | nilp | nilfn | list | elt => rfl
 | _ => simp [D.pt1] at h
theorem tY {g : Bool} {q : List Nat} {σ : List Ob} {o o' w : Ob} (hp : o.pure = true → ∀ r ∈ o.rows, ∀ d ∈ r, d.pt1 = true) (h : c0 g q σ o = some o') (hw : uL o' w) : wJ g q σ o w := by
 obtain ⟨w1, w2, w3, w4, w5, w6, w7⟩ := hw
 unfold c0 at h
 split at h
 ·rename_i hpu
  cases h
  refine ⟨w1, w2, w3, w4, w6, fun h => by rw [w5]; exact hp hpu, by rw [w5], fun j r r' hj hj' => ?_⟩
  rw [w5, hj] at hj'; cases hj'
  exact ⟨rfl, fun i d d' hi hi' => by rw [hi] at hi'; cases hi'; exact lJ (hp hpu r (List.mem_of_getElem? hj) d (List.mem_of_getElem? hi))⟩
 ·split at h
  ·rename_i rows hr
   cases h
   obtain ⟨hl, hs⟩ := gI hr
   refine ⟨w1, w2, w3, w4, w6, fun h r hrm d hd => ?_, by rw [w5]; exact hl.symm, fun j r r' hj hj' => ?_⟩
   ·rw [w5] at hrm
    exact List.all_eq_true.1 (List.all_eq_true.1 (w7 h) r hrm) d hd
   ·rw [w5] at hj'
    obtain ⟨hl', hs'⟩ := gI (hs j r r' hj hj')
    exact ⟨hl'.symm, hs'⟩
  ·cases h
def tu : List Ob → List Ob → Prop
 | [], [] => True
 | o :: os, w :: ws => uL o w ∧ tu os ws
 | _, _ => False
theorem tu.refl : ∀ (os : List Ob), tu os os
 | [] => trivial
 | o :: os => ⟨.refl o, tu.refl os⟩
theorem pm {g : Bool} {q : List Nat} {σ : List Ob} : ∀ {ls : List Nat} {os ws : List Ob}, ct g q σ ls = some os → tu os ws → ls.length = ws.length ∧ ∀ (m l : Nat), ls[m]? = some l → ∃ o o' w, σ[l]? = some o ∧ ws[m]? = some w ∧ c0 g q σ o = some o' ∧ uL o' w
 | [], os, ws, h, hw => by
  simp [ct] at h; subst h
  cases ws with
  | nil => simp
  | cons => exact hw.elim
 | x :: ls, os, ws, h, hw => by
  simp only [ct] at h
  split at h
  ·rename_i o ho
   split at h
   ·rename_i o' os' h1 h2
    cases h
    cases ws with
    | nil => exact hw.elim
    | cons w ws =>
     obtain ⟨hl, hs⟩ := pm h2 hw.2
     refine ⟨by simp [hl], fun m l hm => ?_⟩
     cases m with
     | zero => simp at hm; subst hm; exact ⟨o, o', w, ho, rfl, h1, hw.1⟩
     | succ m => simpa using hs m l (by simpa using hm)
   ·cases h
  ·cases h
section
variable {C : fZ} {g : Bool} {q : List Nat} {σ' : List Ob}
def y4 (C : fZ) (g : Bool) (q : List Nat) (b : Nat) : Prop := g = false ∧ ∃ (l : Nat) (o : Ob), l ∉ q ∧ C.σ[l]? = some o ∧ o.real = true ∧ o.fz = false ∧ C.bs[l]? = some b
def fZ.kept (C : fZ) (g : Bool) (q : List Nat) (σ' : List Ob) : fZ := ⟨fun b => C.F b ∨ y4 C g q b, σ', q.map (fun l => C.bs.getD l 0), C.w⟩
structure i6 (C : fZ) (g : Bool) (q : List Nat) (σ' : List Ob) : Prop where
 nd : q.Nodup
 len : q.length = σ'.length
 ob : ∀ (m l : Nat), q[m]? = some l → ∃ o w b, C.σ[l]? = some o ∧ σ'[m]? = some w ∧ C.bs[l]? = some b ∧ wJ g q C.σ o w
theorem rq (hi : i2 C) (hnd : q.Nodup) {os : List Ob} (h : ct g q C.σ q = some os) (hw : tu os σ') : i6 C g q σ' := by
 obtain ⟨hl, hs⟩ := pm h hw
 refine ⟨hnd, hl, fun m l hm => ?_⟩
 obtain ⟨o, o', w, h1, h2, h3, h4⟩ := hs m l hm
 have hlt : l < C.bs.length := by rw [hi.len]; exact (List.getElem?_eq_some_iff.1 h1).1
 have hb := List.getElem?_eq_getElem hlt
 exact ⟨o, w, _, h1, h2, hb, tY (hi.ob l o _ h1 hb).pure h3 h4⟩
theorem oD (hk : i6 C g q σ') {m : Nat} {w : Ob} {b : Nat} (hw : (C.kept g q σ').σ[m]? = some w) (hb : (C.kept g q σ').bs[m]? = some b) : ∃ l o, q[m]? = some l ∧ C.σ[l]? = some o ∧ C.bs[l]? = some b ∧ wJ g q C.σ o w := by
 have hlt : m < q.length := by rw [hk.len]; exact (List.getElem?_eq_some_iff.1 hw).1
 have hq := List.getElem?_eq_getElem hlt
 obtain ⟨o, w', b', h1, h2, h3, h4⟩ := hk.ob m _ hq
 have e1 : w' = w := Option.some.inj (h2.symm.trans hw)
 subst e1
 refine ⟨_, o, hq, h1, ?_, h4⟩
 simp only [fZ.kept, List.getElem?_map, hq, Option.map_some, Option.some.injEq] at hb
 rw [h3]
 simp only [List.getD_eq_getElem?_getD, h3, Option.getD_some] at hb
 rw [hb]
theorem mj (hk : i6 C g q σ') {b : Nat} (h : (C.kept g q σ').owned b) : ∃ l o, l ∈ q ∧ C.σ[l]? = some o ∧ o.real = true ∧ o.fz = false ∧ C.bs[l]? = some b := by
 obtain ⟨m, w, h1, h2, h3, h4⟩ := h
 obtain ⟨l, o, k1, k2, k3, k4⟩ := oD hk h1 h4
 exact ⟨l, o, List.mem_of_getElem? k1, k2, by rw [← k4.1]; exact h2, by rw [← k4.2.2.1]; exact h3, k3⟩
theorem iI (hk : i6 C g q σ') {b : Nat} (h : (C.kept g q σ').owned b) : C.owned b := by
 obtain ⟨l, o, _, h1, h2, h3, h4⟩ := mj hk h
 exact ⟨l, o, h1, h2, h3, h4⟩
theorem m8 (hk : i6 C g q σ') {b : Nat} (h : C.good b) : (C.kept g q σ').good b := by
 refine ⟨h.1, fun hF => ?_, fun ho => h.2.2 (iI hk ho)⟩
 rcases hF with hF | ⟨_, l, o, _, h1, h2, h3, h4⟩
 ·exact h.2.1 hF
 ·exact h.2.2 ⟨l, o, h1, h2, h3, h4⟩
theorem qr (hi : i2 C) (hk : i6 C g q σ') {l : Nat} (hl : l ∉ q) (hg : gA g C.σ l = true) {o : Ob} {b : Nat} (ho : C.σ[l]? = some o) (hb : C.bs[l]? = some b) (hr : o.real = true) : (C.kept g q σ').good b := by
 have hO := hi.ob l o b ho hb
 have hF := (hO.blk hr).1
 simp only [gA, ho, Bool.or_eq_true] at hg
 have hfz : g = false → o.fz = true := fun h => by subst h; simpa using hg
 refine ⟨hi.lt ho hb hr, fun h => ?_, fun h => ?_⟩
 ·rcases h with h | ⟨h0, l', o', _, h1, h2, h3, h4⟩
  ·exact hF h
  ·exact hO.frozen hr (hfz h0) ⟨l', o', h1, h2, h3, h4⟩
 ·obtain ⟨l', o', hm, h1, h2, h3, h4⟩ := mj hk h
  by_cases hf : o.fz = true
  ·exact hO.frozen hr hf ⟨l', o', h1, h2, h3, h4⟩
  ·have := hi.dis l l' o o' b ho h1 hr h2 (by simpa using hf) h3 hb h4
   subst this
   exact hl hm
theorem qF (hi : i2 C) (hk : i6 C g q σ') {d d' : D} {v : Value} (h : ef C d v) (hp : dm g q C.σ d = some d') : ef (C.kept g q σ') d' v := by
 have plain : d.pt0 = true → d' = d → ef (C.kept g q σ') d' v := fun h1 h2 => by
  subst h2
  exact .pure ((h.of_pt0 h1).mono (fun b hb => m8 hk hb) fun _ _ => rfl)
 cases d with
 | own l i k n z cl =>
  simp only [dm] at hp
  split at hp
  ·rename_i m hm
   cases hp
   obtain ⟨A, cap, ob, b, rfl, q1, q2, q3, q3', q4, q5, q5', q6, q7⟩ := gS h
   obtain ⟨o, w, b', h1, h2, h3, r1, r2, r3, r4, r5, r6, r7, r8⟩ := hk.ob m l (ln hm)
   rw [q1] at h1; cases h1
   rw [q2] at h3; cases h3
   have hbm : (C.kept g q σ').bs[m]? = some b := by
    simp [fZ.kept, ln hm, q2]
   refine .own m i k n z cl A cap w b h2 hbm (by rw [r7]; exact q3) q3' (r4.trans q4) q5 q5' (fun e1 e2 => ?_) (fun e1 e2 => ?_)
   ·rw [r4]; exact q6 (by rw [← r7]; exact e1) (by rw [← r1]; exact e2)
   ·rw [r2]; exact q7 (by rw [← r7]; exact e1) (by rw [← r1]; exact e2)
  ·rename_i hm
   split at hp
   ·rename_i hg
    split at hp
    ·rename_i rows hr
     cases hp
     exact .pure (lO hi h hr (fun b hb => m8 hk hb) fun o b ho hb hreal => qr hi hk (o7 hm) hg ho hb hreal)
    ·cases hp
   ·cases hp
 | ptr l j i n =>
  simp only [dm] at hp
  split at hp
  ·rename_i m hm
   cases hp
   obtain ⟨ad, ob, b, rfl, q1, q2, q3⟩ := lM h
   have q4 : n ≤ ob.rows.length := by
    cases h with
    | pure h => cases h
    | ptr l j i n o b' ad ho hb hle hv => rw [q1] at ho; cases ho; exact hle
   obtain ⟨o, w, b', h1, h2, h3, r1, r2, r3, r4, r5, r6, r7, r8⟩ := hk.ob m l (ln hm)
   rw [q1] at h1; cases h1
   rw [q2] at h3; cases h3
   have hbm : (C.kept g q σ').bs[m]? = some b := by
    simp [fZ.kept, ln hm, q2]
   exact .ptr m j i n w b ad h2 hbm (by rw [r7]; exact q4) (fun e1 e2 => by rw [r4]; exact q3 (by rw [← r7]; exact e1) (by rw [← r1]; exact e2))
  ·rename_i hm
   split at hp
   ·rename_i hg
    exact .pure (vc hi h hp (fun b hb => m8 hk hb) fun o b ho hb hreal => qr hi hk (o7 hm) hg ho hb hreal)
   ·cases hp
 | undef => simp only [dm] at hp; cases hp; exact .undef v
 | _ =>
  simp only [dm] at hp
  split at hp
  ·rename_i hq; cases hp; exact plain hq rfl
  ·cases hp
theorem np (hi : i2 C) (hk : i6 C g q σ') {d d' : D} {v : Value} (h : ef C d v) (hp : cr g q C.σ d = some d') : ef (C.kept g q σ') d' v := by
 cases d with
 | fn f caps =>
  simp only [cr] at hp
  split at hp
  ·rename_i cs hcs
   cases hp
   obtain ⟨vs, rfl, hl, hr⟩ := rP h
   obtain ⟨hl', hs⟩ := gI hcs
   refine .fn f cs vs (by omega) fun i e v hi' hv => ?_
   have hlt : i < caps.length := by rw [hl]; exact (List.getElem?_eq_some_iff.1 hv).1
   have hc := List.getElem?_eq_getElem hlt
   exact qF hi hk (hr i _ v hc hv) (hs i _ e hc hi')
  ·cases hp
 | _ => exact qF hi hk h hp
theorem qG (hi : i2 C) (hk : i6 C g q σ') {d d' : D} {v : Value} (h : ef C d v) (hp : ek g q C.σ d = some d') : ef (C.kept g q σ') d' v := by
 cases d with
 | agg cs =>
  simp only [ek] at hp
  split at hp
  ·rename_i es he
   cases hp
   obtain ⟨vs, rfl, hl, hr⟩ := j8 h
   obtain ⟨hl', hs⟩ := gI he
   refine .agg es vs (by omega) fun i e v hi' hv => ?_
   have hlt : i < cs.length := by rw [hl]; exact (List.getElem?_eq_some_iff.1 hv).1
   have hc := List.getElem?_eq_getElem hlt
   exact np hi hk (hr i _ v hc hv) (hs i _ e hc hi')
  ·cases hp
 | _ => exact np hi hk h hp
theorem mS (hi : i2 C) (hk : i6 C g q σ') {d d' : D} {v : Value} (h : ef C d v) (hp : dZ g q C.σ d = some d') : ef (C.kept g q σ') d' v := by
 cases d with
 | tup ds =>
  simp only [dZ] at hp
  split at hp
  ·rename_i es he
   cases hp
   obtain ⟨vs, rfl, hl, hr⟩ := oJ h
   obtain ⟨hl', hs⟩ := gI he
   refine .tup es vs (by omega) fun i e v hi' hv => ?_
   have hlt : i < ds.length := by rw [hl]; exact (List.getElem?_eq_some_iff.1 hv).1
   have hc := List.getElem?_eq_getElem hlt
   exact qG hi hk (hr i _ v hc hv) (hs i _ e hc hi')
  ·cases hp
 | _ => exact qG hi hk h hp
theorem tX {d d' : D} (h : cr g q C.σ d = some d') (hc : d.cell = true) : d'.cell = true := by
 have p0 : ∀ {d d' : D}, dm g q C.σ d = some d' → d'.cell = true := fun {d d'} h => by
  cases d with
  | own l i k n z cl =>
   simp only [dm] at h
   repeat' (split at h)
   all_goals first | (cases h; done) | (cases h; rfl)
  | ptr l j i n =>
   simp only [dm] at h
   repeat' (split at h)
   ·cases h; rfl
   ·simp only [du] at h
    repeat' (split at h)
    all_goals first | (cases h; done) | (cases h; rfl)
   ·cases h
  | undef => simp only [dm] at h; cases h; rfl
  | agg => simp [dm, D.pt0] at h
  | tup => simp [dm, D.pt0] at h
  | _ =>
   simp only [dm] at h
   split at h
   ·cases h; rfl
   ·cases h
 cases d with
 | fn f caps =>
  simp only [cr] at h
  split at h
  ·cases h; rfl
  ·cases h
 | _ => simp only [cr] at h; exact p0 h
theorem o9 (hi : i2 C) (hk : i6 C g q σ') : i2 (C.kept g q σ') := by
 refine ⟨fun b hb => ?_, by simp [fZ.kept, hk.len], fun m w b hw hb => ?_, fun m m' w w' b hw hw' hr hr' hf hf' hb hb' => ?_⟩
 ·rcases hb with hb | ⟨_, l, o, _, h1, h2, h3, h4⟩
  ·exact hi.F b hb
  ·exact hi.lt h1 h4 h2
 ·obtain ⟨l, o, h1, h2, h3, r1, r2, r3, r4, r5, r6, r7, r8⟩ := oD hk hw hb
  have k := hi.ob l o b h2 h3
  have get : ∀ (j : Nat) r', w.rows[j]? = some r' → ∃ r, o.rows[j]? = some r ∧ r'.length = r.length ∧ ∀ (i : Nat) d', r'[i]? = some d' → ∃ d, r[i]? = some d ∧ cr g q C.σ d = some d' := fun j r' hj => by
   have hlt : j < o.rows.length := by rw [← r7]; exact (List.getElem?_eq_some_iff.1 hj).1
   have hjr := List.getElem?_eq_getElem hlt
   obtain ⟨e1, e2⟩ := r8 j _ r' hjr hj
   refine ⟨_, hjr, e1, fun i d' hd' => ?_⟩
   have hil : i < (o.rows[j]).length := by rw [← e1]; exact (List.getElem?_eq_some_iff.1 hd').1
   have hid := List.getElem?_eq_getElem hil
   exact ⟨_, hid, e2 i _ d' hid hd'⟩
  refine ⟨fun h => ?_, fun r hr => ?_, by rw [r4]; exact k.pos, fun r hr d hd => ?_, fun hr => ?_, r6, fun hr hf ho => ?_⟩
  ·have := k.rows (by rw [← r1]; exact h)
   rw [this] at r7
   exact List.eq_nil_of_length_eq_zero (by simpa using r7)
  ·obtain ⟨j, hj⟩ := List.getElem?_of_mem hr
   obtain ⟨r0, hj0, e1, _⟩ := get j r hj
   rw [e1, r4]; exact k.sz r0 (List.mem_of_getElem? hj0)
  ·obtain ⟨j, hj⟩ := List.getElem?_of_mem hr
   obtain ⟨r0, hj0, _, e2⟩ := get j r hj
   obtain ⟨i, hi'⟩ := List.getElem?_of_mem hd
   obtain ⟨d0, hd0, e3⟩ := e2 i d hi'
   exact tX e3 (k.one r0 (List.mem_of_getElem? hj0) d0 (List.mem_of_getElem? hd0))
  ·rw [r1] at hr
   obtain ⟨hF, arr, e, qq, a1, a2, a3, a4, a5, a6⟩ := k.block hr
   refine ⟨fun h => ?_, arr, e, qq, a1, by rw [r4]; exact a2, by rw [r7]; exact a3, a4, fun c hc => ?_, fun j i r' d' hj hd' => ?_⟩
   ·rcases h with h | ⟨_, l', o', h5, h6, h7, h8, h9⟩
    ·exact hF h
    ·by_cases hf : o.fz = true
     ·exact k.frozen hr hf ⟨l', o', h6, h7, h8, h9⟩
     ·have := hi.dis l l' o o' b h2 h6 hr h7 (by simpa using hf) h8 h3 h9
      subst this
      exact h5 (List.mem_of_getElem? h1)
   ·rcases r5 with r5 | r5
    ·rw [r7]; exact a5 c (by rw [← r5]; exact hc)
    ·rw [r5] at hc; cases hc
   ·obtain ⟨r0, hj0, _, e2⟩ := get j r' hj
    obtain ⟨d0, hd0, e3⟩ := e2 i d' hd'
    obtain ⟨v, hv, hrep⟩ := a6 j i r0 d0 hj0 hd0
    rw [r4]
    exact ⟨v, hv, np hi hk hrep e3⟩
  ·rw [r1] at hr; rw [r3] at hf
   exact k.frozen hr hf (iI hk ho)
 ·obtain ⟨l, o, h1, h2, h3, r⟩ := oD hk hw hb
  obtain ⟨l', o', h1', h2', h3', r'⟩ := oD hk hw' hb'
  have := hi.dis l l' o o' b h2 h2' (by rw [← r.1]; exact hr) (by rw [← r'.1]; exact hr') (by rw [← r.2.2.1]; exact hf) (by rw [← r'.2.2.1]; exact hf') h3 h3'
  subst this
  obtain ⟨a1, a2⟩ := List.getElem?_eq_some_iff.1 h1
  obtain ⟨b1, b2⟩ := List.getElem?_eq_some_iff.1 h1'
  exact (List.getElem_inj hk.nd).1 (a2.trans b2.symm)
end
end Go.Vi
