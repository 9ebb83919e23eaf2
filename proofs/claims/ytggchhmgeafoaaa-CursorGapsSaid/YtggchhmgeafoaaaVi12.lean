import Derived.Test.YtggchhmgeafoaaaVi11
set_option linter.unusedVariables false
set_option linter.unusedSimpArgs false
set_option linter.unnecessarySimpa false
namespace Go.Vi
open Go Go.RowKit
def Enters (P : Program) (f : FuncId) : Prop := ∃ fn, P.funcs[f]? = some fn ∧ (fn.name == "runtime.NumGoroutine") = false ∧ fn.body.isNone = false
def Post (C : Ctx) (Q : D → List Ob → Prop) (e : Ending) (w' : World) : Prop := ∃ v C' d, e = .returned v ∧ C'.w = w' ∧ Ext C C' ∧ Inv C' ∧ Rep C' d v ∧ Q d C'.σ
structure CallD (P : Program) (f : FuncId) (ds : List D) (σ : List Ob) (Q : D → List Ob → Prop) : Prop where
 enters : Enters P f
 calls : ∀ (C : Ctx) (vs : List Value), C.σ = σ → Inv C → RowRep C ds vs → Calls P f vs.toArray C.w (Post C Q)
structure PureD (P : Program) (f : FuncId) (ds : List D) (r : D) : Prop where
 enters : Enters P f
 calls : ∀ (G : Nat → Prop) (w : World) (vs : List Value), (∀ b, G b → b < w.heap.size) → ds.length = vs.length → (∀ (i : Nat) d v, ds[i]? = some d → vs[i]? = some v → PRep G w d v) →
  Calls P f vs.toArray w fun e w' => ∃ v, e = .returned v ∧ Below w.heap.size w w' ∧ PRep (fun b => G b ∨ (w.heap.size ≤ b ∧ b < w'.heap.size)) w' r v
def mapO {α β : Type} (f : α → Option β) : List α → Option (List β)
 | [] => some []
 | d :: ds => match f d, mapO f ds with
  | some e, some es => some (e :: es)
  | _, _ => none
theorem mapO_spec {α β : Type} {f : α → Option β} : ∀ {ds : List α} {es : List β}, mapO f ds = some es → ds.length = es.length ∧ ∀ (i : Nat) d e, ds[i]? = some d → es[i]? = some e → f d = some e
 | [], es, h => by simp [mapO] at h; subst h; simp
 | d :: ds, es, h => by
  simp only [mapO] at h
  split at h
  ·rename_i e es' h1 h2
   cases h
   obtain ⟨hl, hs⟩ := mapO_spec h2
   refine ⟨by simp [hl], fun i x y hx hy => ?_⟩
   cases i with
   | zero => simp at hx hy; subst hx; subst hy; exact h1
   | succ i => simp at hx hy; exact hs i x y hx hy
  ·cases h
def view0 (σ : List Ob) : D → Option D
 | .own l i k n z cl => match viewS σ (.own l i k n z cl) with
  | some rows => some (.list none false rows)
  | none => none
 | .ptr l j i n => match σ[l]? with
  | some o => if o.rows.length = n ∧ o.real = true ∧ o.pure = true then (match o.rows[j]? with
   | some r => some (.elt r i)
   | none => none) else none
  | none => none
 | d => if d.pt0 = true then some d.norm1 else none
def view1 (σ : List Ob) : D → Option D
 | .fn f caps => match mapO (view0 σ) caps with
  | some cs => some (.fn f cs)
  | none => none
 | d => view0 σ d
def view2 (σ : List Ob) : D → Option D
 | .agg cs => (mapO (view1 σ) cs).map .agg
 | d => view1 σ d
def view (σ : List Ob) : D → Option D
 | .tup ds => (mapO (view2 σ) ds).map .tup
 | d => view2 σ d
def Ctx.seen (C : Ctx) (b : Nat) : Prop := b < C.w.heap.size ∧ ¬ C.F b
theorem Ctx.good.seen {C : Ctx} {b : Nat} (h : C.good b) : C.seen b := ⟨h.1, h.2.1⟩
theorem Rep.pt0_seen {C : Ctx} {d : D} {v : Value} (h : Rep C d v) (hd : d.pt0 = true) : PRep C.seen C.w d.norm1 v := ((h.of_pt0 hd).mono (fun b hb => hb.seen) (fun _ _ => rfl)).norm1
theorem ptr_elt {C : Ctx} (hi : Inv C) {l j i n : Nat} {v : Value} {r : D} (h : Rep C (.ptr l j i n) v) (hv : view0 C.σ (.ptr l j i n) = some r) {G : Nat → Prop} (hG : ∀ b, C.good b → G b)
  (hGb : ∀ o b, C.σ[l]? = some o → C.bs[l]? = some b → o.real = true → G b) : PRep G C.w r v := by
 simp only [view0] at hv
 split at hv
 ·rename_i o ho
  split at hv
  ·rename_i hc
   split at hv
   ·rename_i row hj
    cases hv
    obtain ⟨ad, o', b, rfl, ho', hb, had⟩ := rep_ptr h
    rw [ho] at ho'; cases ho'
    obtain rfl := had hc.1 hc.2.1
    have hO := hi.ob l o b ho hb
    obtain ⟨hF, arr, e, h1, h2, h3⟩ := hO.blk hc.2.1
    refine .elt row i _ (fun i' => (arr[j * o.sz + (i + i')]?).getD undef) (hGb o b ho hb hc.2.1) (fun i' d hd => ?_) (fun i' d hd => ?_)
    ·obtain ⟨v, hv, _⟩ := h3 j (i + i') row d hj hd
     rw [lit_add, Nat.add_assoc, cell_of_row C.w b _ arr e (0, 0) h1, hv]; rfl
    ·obtain ⟨v, hv, hrep⟩ := h3 j (i + i') row d hj hd
     rw [hv]
     exact (hrep.of_pt1 (hO.pure hc.2.2 row (List.mem_of_getElem? hj) d (List.mem_of_getElem? hd))).mono hG (fun _ _ => rfl)
   ·cases hv
  ·cases hv
 ·cases hv
theorem view0_rep {C : Ctx} (hi : Inv C) {d r : D} {v : Value} (h : Rep C d v) (hv : view0 C.σ d = some r) : PRep C.seen C.w r v := by
 cases d with
 | own l i k n z cl =>
  simp only [view0] at hv
  split at hv
  ·rename_i rows hr
   cases hv
   exact viewS_own hi h hr (fun b hb => hb.seen) fun o b ho hb hr => ⟨hi.lt ho hb hr, ((hi.ob l o b ho hb).blk hr).1⟩
  ·cases hv
 | ptr l j i n => exact ptr_elt hi h hv (fun b hb => hb.seen) fun o b ho hb hr => ⟨hi.lt ho hb hr, ((hi.ob l o b ho hb).blk hr).1⟩
 | _ =>
  simp only [view0] at hv
  split at hv
  ·rename_i hp; cases hv; exact h.pt0_seen hp
  ·cases hv
theorem rep_fn {C : Ctx} {f : FuncId} {cs : List D} {v : Value} (h : Rep C (.fn f cs) v) : ∃ vs : List Value, v = fnV f vs ∧ cs.length = vs.length ∧ ∀ (i : Nat) d v, cs[i]? = some d → vs[i]? = some v → Rep C d v := by
 cases h with
 | pure h => cases h with
  | fn f cs vs hl h => exact ⟨vs, rfl, hl, fun i d v h1 h2 => .pure (h i d v h1 h2)⟩
 | fn f cs vs hl h => exact ⟨vs, rfl, hl, h⟩
theorem view1_rep {C : Ctx} (hi : Inv C) {d r : D} {v : Value} (h : Rep C d v) (hv : view1 C.σ d = some r) : PRep C.seen C.w r v := by
 cases d with
 | fn f caps =>
  simp only [view1] at hv
  split at hv
  ·rename_i cs hcs
   cases hv
   obtain ⟨vs, rfl, hl, hr⟩ := rep_fn h
   obtain ⟨hl', hs⟩ := mapO_spec hcs
   refine .fn f cs vs (by omega) fun i e v hi' hv => ?_
   have hlt : i < caps.length := by rw [hl]; exact (List.getElem?_eq_some_iff.1 hv).1
   have hc := List.getElem?_eq_getElem hlt
   exact view0_rep hi (hr i _ v hc hv) (hs i _ e hc hi')
  ·cases hv
 | _ => exact view0_rep hi h hv
theorem view2_rep {C : Ctx} (hi : Inv C) {d r : D} {v : Value} (h : Rep C d v) (hv : view2 C.σ d = some r) : PRep C.seen C.w r v := by
 cases d with
 | agg cs =>
  simp only [view2, Option.map_eq_some_iff] at hv
  obtain ⟨es, he, rfl⟩ := hv
  obtain ⟨vs, rfl, hl, hr⟩ := rep_agg h
  obtain ⟨hl', hs⟩ := mapO_spec he
  refine .agg es vs (by omega) fun i e v hi' hv => ?_
  have hlt : i < cs.length := by rw [hl]; exact (List.getElem?_eq_some_iff.1 hv).1
  have hc := List.getElem?_eq_getElem hlt
  exact view1_rep hi (hr i _ v hc hv) (hs i _ e hc hi')
 | _ => exact view1_rep hi h hv
theorem rep_tup {C : Ctx} {ds : List D} {v : Value} (h : Rep C (.tup ds) v) : ∃ vs : List Value, v = .tuple vs.toArray ∧ ds.length = vs.length ∧ ∀ (i : Nat) d v, ds[i]? = some d → vs[i]? = some v → Rep C d v := by
 cases h with
 | pure h => cases h with
  | tup cs vs hl hc => exact ⟨vs, rfl, hl, fun i d v h1 h2 => .pure (hc i d v h1 h2)⟩
 | tup cs vs hl hc => exact ⟨vs, rfl, hl, hc⟩
theorem view_rep {C : Ctx} (hi : Inv C) {d r : D} {v : Value} (h : Rep C d v) (hv : view C.σ d = some r) : PRep C.seen C.w r v := by
 cases d with
 | tup ds =>
  simp only [view, Option.map_eq_some_iff] at hv
  obtain ⟨es, he, rfl⟩ := hv
  obtain ⟨vs, rfl, hl, hr⟩ := rep_tup h
  obtain ⟨hl', hs⟩ := mapO_spec he
  refine .tup es vs (by omega) fun i e v hi' hv => ?_
  have hlt : i < ds.length := by rw [hl]; exact (List.getElem?_eq_some_iff.1 hv).1
  have hc := List.getElem?_eq_getElem hlt
  exact view2_rep hi (hr i _ v hc hv) (hs i _ e hc hi')
 | _ => exact view2_rep hi h hv
theorem view0_good {C : Ctx} {d r : D} {v : Value} (h : Rep C d v) (hd : d.pt0 = true) (hv : view0 C.σ d = some r) : PRep C.good C.w r v := by
 have other : r = d.norm1 → PRep C.good C.w r v := fun h2 => by subst h2; exact (h.of_pt0 hd).norm1
 cases d <;> first | (simp [D.pt0] at hd; done) | (simp only [view0] at hv; split at hv <;> first | (exact other (by simpa using hv.symm)) | cases hv)
theorem view1_good {C : Ctx} {d r : D} {v : Value} (h : Rep C d v) (hd : d.pt1 = true) (hv : view1 C.σ d = some r) : PRep C.good C.w r v := by
 cases d with
 | fn f caps =>
  simp only [view1] at hv
  split at hv
  ·rename_i cs hcs
   cases hv
   obtain ⟨vs, rfl, hl, hr⟩ := rep_fn h
   obtain ⟨hl', hs⟩ := mapO_spec hcs
   refine .fn f cs vs (by omega) fun i e v hi' hv => ?_
   have hlt : i < caps.length := by rw [hl]; exact (List.getElem?_eq_some_iff.1 hv).1
   have hc := List.getElem?_eq_getElem hlt
   exact view0_good (hr i _ v hc hv) (List.all_eq_true.1 hd _ (List.mem_of_getElem? hc)) (hs i _ e hc hi')
  ·cases hv
 | bool | int | str | nilp | nilfn | list | elt => exact view0_good h (by simpa [D.pt1, D.pt0] using hd) hv
 | _ => simp [D.pt1] at hd
theorem view_good {C : Ctx} {d r : D} {v : Value} (h : Rep C d v) (hd : d.pt = true) (hv : view C.σ d = some r) : PRep C.good C.w r v := by
 cases d with
 | agg cs =>
  simp only [view, view2, Option.map_eq_some_iff] at hv
  obtain ⟨es, he, rfl⟩ := hv
  obtain ⟨vs, rfl, hl, hr⟩ := rep_agg h
  obtain ⟨hl', hs⟩ := mapO_spec he
  refine .agg es vs (by omega) fun i e v hi' hv => ?_
  have hlt : i < cs.length := by rw [hl]; exact (List.getElem?_eq_some_iff.1 hv).1
  have hc := List.getElem?_eq_getElem hlt
  exact view1_good (hr i _ v hc hv) (List.all_eq_true.1 hd _ (List.mem_of_getElem? hc)) (hs i _ e hc hi')
 | tup ds => simp [D.pt, D.pt1] at hd
 | _ => exact view1_good h hd hv
def D.sc1 : D → Bool
 | .bool _ | .int _ _ | .str _ | .nilp | .nilfn => true
 | _ => false
def D.sc2 : D → Bool
 | .agg cs => cs.all D.sc1
 | d => d.sc1
def D.sc : D → Bool
 | .tup ds => ds.all D.sc2
 | d => d.sc2
theorem PRep.sc1 {G G' : Nat → Prop} {w w' : World} {d : D} {v : Value} (h : PRep G w d v) (hd : d.sc1 = true) : PRep G' w' d v := by
 cases h <;> first | (simp [D.sc1] at hd; done) | constructor
theorem PRep.sc2 {G G' : Nat → Prop} {w w' : World} {d : D} {v : Value} (h : PRep G w d v) (hd : d.sc2 = true) : PRep G' w' d v := by
 cases d with
 | agg cs =>
  cases h with
  | agg cs vs hl hr => exact .agg cs vs hl fun i d v h1 h2 => (hr i d v h1 h2).sc1 (List.all_eq_true.1 hd d (List.mem_of_getElem? h1))
 | _ => exact h.sc1 hd
theorem PRep.sc {G G' : Nat → Prop} {w w' : World} {d : D} {v : Value} (h : PRep G w d v) (hd : d.sc = true) : PRep G' w' d v := by
 cases d with
 | tup cs =>
  cases h with
  | tup cs vs hl hr => exact .tup cs vs hl fun i d v h1 h2 => (hr i d v h1 h2).sc2 (List.all_eq_true.1 hd d (List.mem_of_getElem? h1))
 | _ => exact h.sc2 hd
theorem pure_of {P : Program} {f : FuncId} {ds : List D} {r : D} (h : CallD P f ds [] fun d σ' => view σ' d = some r) : PureD P f ds r := by
 refine ⟨h.enters, fun G w vs hG hl hr => ?_⟩
 have hC : Inv ⟨fun b => b < w.heap.size ∧ ¬ G b, [], [], w⟩ := ⟨fun b hb => hb.1, rfl, by simp, by simp⟩
 have hown : ∀ b, ¬ Ctx.owned ⟨fun b => b < w.heap.size ∧ ¬ G b, [], [], w⟩ b := by
  rintro b ⟨l, o, h, _⟩; simp at h
 refine (h.calls ⟨fun b => b < w.heap.size ∧ ¬ G b, [], [], w⟩ vs rfl hC ⟨hl, fun i d v h1 h2 => .pure ((hr i d v h1 h2).mono (fun b hb => ⟨hG b hb, fun h => h.2 hb, hown b⟩) (fun _ _ => rfl))⟩).mono ?_
 rintro e w' ⟨v, C', d, rfl, rfl, hx, hi, hrep, hv⟩
 refine ⟨v, rfl, ⟨hx.os, hx.tape, hx.output, hx.size, fun k hk => (hx.blk k hk (hown k)).1⟩, (view_rep hi hrep hv).mono (fun b hb => ?_) (fun _ _ => rfl)⟩
 obtain ⟨h1, h2⟩ := hb
 rw [hx.F] at h2
 by_cases hb : b < w.heap.size
 ·exact .inl (Classical.byContradiction fun hn => h2 ⟨hb, hn⟩)
 ·exact .inr ⟨by omega, h1⟩
theorem call_of_pure {P : Program} {f : FuncId} {ds ds' : List D} {σ : List Ob} {r : D} (h : PureD P f ds' r) (hv : mapO (view σ) ds = some ds') (hs : (ds.all D.pt || r.sc) = true) : CallD P f ds σ fun d σ' => d = r ∧ σ' = σ := by
 refine ⟨h.enters, fun C vs hσ hi hrow => ?_⟩
 subst hσ
 obtain ⟨hl, hsp⟩ := mapO_spec hv
 have after : ∀ {w' : World} {v : Value}, Below C.w.heap.size C.w w' → PRep (Ctx.good { C with w := w' }) w' r v → Post C (fun d σ' => d = r ∧ σ' = C.σ) (.returned v) w' := fun {w' v} hb hr => by
  obtain ⟨hx, hi'⟩ := Ext.later hb hi
  exact ⟨v, _, r, rfl, rfl, hx, hi', .pure hr, rfl, rfl⟩
 have get : ∀ (i : Nat) d' v, ds'[i]? = some d' → vs[i]? = some v → ∃ d, ds[i]? = some d ∧ Rep C d v ∧ view C.σ d = some d' := fun i d' v h1 h2 => by
  have hlt : i < ds.length := by rw [hl]; exact (List.getElem?_eq_some_iff.1 h1).1
  have hc := List.getElem?_eq_getElem hlt
  exact ⟨_, hc, hrow.2 i _ v hc h2, hsp i _ d' hc h1⟩
 by_cases hp : ds.all D.pt = true
 ·refine (h.calls C.good C.w vs (fun b hb => hb.1) (by rw [← hl, hrow.1]) fun i d' v h1 h2 => ?_).mono ?_
  ·obtain ⟨d, hd, hrep, hvw⟩ := get i d' v h1 h2
   exact view_good hrep (List.all_eq_true.1 hp d (List.mem_of_getElem? hd)) hvw
  ·rintro e w' ⟨v, rfl, hb, hr⟩
   refine after hb (hr.mono (fun b hb' => ?_) (fun _ _ => rfl))
   rcases hb' with hg | ⟨h1, h2⟩
   ·exact ((Ext.later hb hi).1.good hg).1
   ·refine ⟨h2, fun hF => absurd (hi.F b hF) (Nat.not_lt_of_le h1), ?_⟩
    rintro ⟨l, o, g1, g2, g3, g4⟩
    exact absurd (hi.lt g1 g4 g2) (Nat.not_lt_of_le h1)
 ·have hsc : r.sc = true := by simpa [hp] using hs
  refine (h.calls C.seen C.w vs (fun b hb => hb.1) (by rw [← hl, hrow.1]) fun i d' v h1 h2 => ?_).mono ?_
  ·obtain ⟨d, hd, hrep, hvw⟩ := get i d' v h1 h2
   exact view_rep hi hrep hvw
  ·rintro e w' ⟨v, rfl, hb, hr⟩
   exact after hb (hr.sc hsc)
theorem CallD.mono {P : Program} {f : FuncId} {ds : List D} {σ : List Ob} {Q Q' : D → List Ob → Prop} (h : CallD P f ds σ Q) (hq : ∀ d σ', Q d σ' → Q' d σ') : CallD P f ds σ Q' :=
 ⟨h.enters, fun C vs hσ hi hr => (h.calls C vs hσ hi hr).mono fun e w' ⟨v, C', d, h1, h2, h3, h4, h5, h6⟩ => ⟨v, C', d, h1, h2, h3, h4, h5, hq _ _ h6⟩⟩
end Go.Vi
