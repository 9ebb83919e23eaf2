import Derived.Test.YtapennlmboabeaaGreatVi11
set_option linter.unusedVariables false
set_option linter.unusedSimpArgs false
set_option linter.unnecessarySimpa false
namespace Go.Vi
open Go Go.RowKit
def tz (P : Program) (f : FuncId) : Prop := ∃ fn, P.funcs[f]? = some fn ∧ (fn.name == "runtime.NumGoroutine") = false ∧ fn.body.isNone = false
def Post (C : fZ) (Q : D → List Ob → Prop) (e : Ending) (w' : World) : Prop := ∃ v C' d, e = .returned v ∧ C'.w = w' ∧ jq C C' ∧ i2 C' ∧ ef C' d v ∧ Q d C'.σ
structure ib (P : Program) (f : FuncId) (ds : List D) (σ : List Ob) (Q : D → List Ob → Prop) : Prop where
 enters : tz P f
 calls : ∀ (C : fZ) (vs : List Value), C.σ = σ → i2 C → jl C ds vs → Calls P f vs.toArray C.w (Post C Q)
structure aA (P : Program) (f : FuncId) (ds : List D) (r : D) : Prop where
 enters : tz P f
 calls : ∀ (G : Nat → Prop) (w : World) (vs : List Value), (∀ b, G b → b < w.heap.size) → ds.length = vs.length → (∀ (i : Nat) d v, ds[i]? = some d → vs[i]? = some v → eB G w d v) →
  Calls P f vs.toArray w fun e w' => ∃ v, e = .returned v ∧ Below w.heap.size w w' ∧ eB (fun b => G b ∨ (w.heap.size ≤ b ∧ b < w'.heap.size)) w' r v
def cV {α β : Type} (f : α → Option β) : List α → Option (List β)
 | [] => some []
 | d :: ds => match f d, cV f ds with
  | some e, some es => some (e :: es)
  | _, _ => none
theorem gI {α β : Type} {f : α → Option β} : ∀ {ds : List α} {es : List β}, cV f ds = some es → ds.length = es.length ∧ ∀ (i : Nat) d e, ds[i]? = some d → es[i]? = some e → f d = some e
 | [], es, h => by simp [cV] at h; subst h; simp
 | d :: ds, es, h => by
  simp only [cV] at h
  split at h
  ·rename_i e es' h1 h2
   cases h
   obtain ⟨hl, hs⟩ := gI h2
   refine ⟨by simp [hl], fun i x y hx hy => ?_⟩
   cases i with
   | zero => simp at hx hy; subst hx; subst hy; exact h1
   | succ i => simp at hx hy; exact hs i x y hx hy
  ·cases h
def du (σ : List Ob) : D → Option D
 | .own l i k n z cl => match jk σ (.own l i k n z cl) with
  | some rows => some (.list none false rows)
  | none => none
 | .ptr l j i n => match σ[l]? with
  | some o => if o.rows.length = n ∧ o.real = true ∧ o.pure = true then (match o.rows[j]? with
   | some r => some (.elt r i)
   | none => none) else none
  | none => none
 | d => if d.pt0 = true then some d.norm1 else none
def dW (σ : List Ob) : D → Option D
 | .fn f caps => match cV (du σ) caps with
  | some cs => some (.fn f cs)
  | none => none
 | d => du σ d
def dX (σ : List Ob) : D → Option D
 | .agg cs => (cV (dW σ) cs).map .agg
 | d => dW σ d
def fJ (σ : List Ob) : D → Option D
 | .tup ds => (cV (dX σ) ds).map .tup
 | d => dX σ d
def fZ.seen (C : fZ) (b : Nat) : Prop := b < C.w.heap.size ∧ ¬ C.F b
theorem fZ.good.seen {C : fZ} {b : Nat} (h : C.good b) : C.seen b := ⟨h.1, h.2.1⟩
theorem ef.pt0_seen {C : fZ} {d : D} {v : Value} (h : ef C d v) (hd : d.pt0 = true) : eB C.seen C.w d.norm1 v := ((h.of_pt0 hd).mono (fun b hb => hb.seen) (fun _ _ => rfl)).norm1
theorem vc {C : fZ} (hi : i2 C) {l j i n : Nat} {v : Value} {r : D} (h : ef C (.ptr l j i n) v) (hv : du C.σ (.ptr l j i n) = some r) {G : Nat → Prop} (hG : ∀ b, C.good b → G b)
  (hGb : ∀ o b, C.σ[l]? = some o → C.bs[l]? = some b → o.real = true → G b) : eB G C.w r v := by
 simp only [du] at hv
 split at hv
 ·rename_i o ho
  split at hv
  ·rename_i hc
   split at hv
   ·rename_i row hj
    cases hv
    obtain ⟨ad, o', b, rfl, ho', hb, had⟩ := lM h
    rw [ho] at ho'; cases ho'
    obtain rfl := had hc.1 hc.2.1
    have hO := hi.ob l o b ho hb
    obtain ⟨hF, arr, e, h1, h2, h3⟩ := hO.blk hc.2.1
    refine .elt row i _ (fun i' => (arr[j * o.sz + (i + i')]?).getD undef) (hGb o b ho hb hc.2.1) (fun i' d hd => ?_) (fun i' d hd => ?_)
    ·obtain ⟨v, hv, _⟩ := h3 j (i + i') row d hj hd
     rw [jJ, Nat.add_assoc, cell_of_row C.w b _ arr e (0, 0) h1, hv]; rfl
    ·obtain ⟨v, hv, hrep⟩ := h3 j (i + i') row d hj hd
     rw [hv]
     exact (hrep.of_pt1 (hO.pure hc.2.2 row (List.mem_of_getElem? hj) d (List.mem_of_getElem? hd))).mono hG (fun _ _ => rfl)
   ·cases hv
  ·cases hv
 ·cases hv
theorem qO {C : fZ} (hi : i2 C) {d r : D} {v : Value} (h : ef C d v) (hv : du C.σ d = some r) : eB C.seen C.w r v := by
 cases d with
 | own l i k n z cl =>
  simp only [du] at hv
  split at hv
  ·rename_i rows hr
   cases hv
   exact lO hi h hr (fun b hb => hb.seen) fun o b ho hb hr => ⟨hi.lt ho hb hr, ((hi.ob l o b ho hb).blk hr).1⟩
  ·cases hv
 | ptr l j i n => exact vc hi h hv (fun b hb => hb.seen) fun o b ho hb hr => ⟨hi.lt ho hb hr, ((hi.ob l o b ho hb).blk hr).1⟩
 | _ =>
  simp only [du] at hv
  split at hv
  ·rename_i hp; cases hv; exact h.pt0_seen hp
  ·cases hv
theorem rP {C : fZ} {f : FuncId} {cs : List D} {v : Value} (h : ef C (.fn f cs) v) : ∃ vs : List Value, v = Cs f vs ∧ cs.length = vs.length ∧ ∀ (i : Nat) d v, cs[i]? = some d → vs[i]? = some v → ef C d v := by
 cases h with
 | pure h => cases h with
  | fn f cs vs hl h => exact ⟨vs, rfl, hl, fun i d v h1 h2 => .pure (h i d v h1 h2)⟩
 | fn f cs vs hl h => exact ⟨vs, rfl, hl, h⟩
theorem qP {C : fZ} (hi : i2 C) {d r : D} {v : Value} (h : ef C d v) (hv : dW C.σ d = some r) : eB C.seen C.w r v := by
 cases d with
 | fn f caps =>
  simp only [dW] at hv
  split at hv
  ·rename_i cs hcs
   cases hv
   obtain ⟨vs, rfl, hl, hr⟩ := rP h
   obtain ⟨hl', hs⟩ := gI hcs
   refine .fn f cs vs (by omega) fun i e v hi' hv => ?_
   have hlt : i < caps.length := by rw [hl]; exact (List.getElem?_eq_some_iff.1 hv).1
   have hc := List.getElem?_eq_getElem hlt
   exact qO hi (hr i _ v hc hv) (hs i _ e hc hi')
  ·cases hv
 | _ => exact qO hi h hv
theorem qQ {C : fZ} (hi : i2 C) {d r : D} {v : Value} (h : ef C d v) (hv : dX C.σ d = some r) : eB C.seen C.w r v := by
 cases d with
 | agg cs =>
  simp only [dX, Option.map_eq_some_iff] at hv
  obtain ⟨es, he, rfl⟩ := hv
  obtain ⟨vs, rfl, hl, hr⟩ := j8 h
  obtain ⟨hl', hs⟩ := gI he
  refine .agg es vs (by omega) fun i e v hi' hv => ?_
  have hlt : i < cs.length := by rw [hl]; exact (List.getElem?_eq_some_iff.1 hv).1
  have hc := List.getElem?_eq_getElem hlt
  exact qP hi (hr i _ v hc hv) (hs i _ e hc hi')
 | _ => exact qP hi h hv
theorem oJ {C : fZ} {ds : List D} {v : Value} (h : ef C (.tup ds) v) : ∃ vs : List Value, v = .tuple vs.toArray ∧ ds.length = vs.length ∧ ∀ (i : Nat) d v, ds[i]? = some d → vs[i]? = some v → ef C d v := by
 cases h with
 | pure h => cases h with
  | tup cs vs hl hc => exact ⟨vs, rfl, hl, fun i d v h1 h2 => .pure (hc i d v h1 h2)⟩
 | tup cs vs hl hc => exact ⟨vs, rfl, hl, hc⟩
theorem tk {C : fZ} (hi : i2 C) {d r : D} {v : Value} (h : ef C d v) (hv : fJ C.σ d = some r) : eB C.seen C.w r v := by
 cases d with
 | tup ds =>
  simp only [fJ, Option.map_eq_some_iff] at hv
  obtain ⟨es, he, rfl⟩ := hv
  obtain ⟨vs, rfl, hl, hr⟩ := oJ h
  obtain ⟨hl', hs⟩ := gI he
  refine .tup es vs (by omega) fun i e v hi' hv => ?_
  have hlt : i < ds.length := by rw [hl]; exact (List.getElem?_eq_some_iff.1 hv).1
  have hc := List.getElem?_eq_getElem hlt
  exact qQ hi (hr i _ v hc hv) (hs i _ e hc hi')
 | _ => exact qQ hi h hv
theorem pK {C : fZ} {d r : D} {v : Value} (h : ef C d v) (hd : d.pt0 = true) (hv : du C.σ d = some r) : eB C.good C.w r v := by
 have other : r = d.norm1 → eB C.good C.w r v := fun h2 => by subst h2; exact (h.of_pt0 hd).norm1
 cases d <;> first | (simp [D.pt0] at hd; done) | (simp only [du] at hv; split at hv <;> first | (exact other (by simpa using hv.symm)) | cases hv)
theorem pM {C : fZ} {d r : D} {v : Value} (h : ef C d v) (hd : d.pt1 = true) (hv : dW C.σ d = some r) : eB C.good C.w r v := by
 cases d with
 | fn f caps =>
  simp only [dW] at hv
  split at hv
  ·rename_i cs hcs
   cases hv
   obtain ⟨vs, rfl, hl, hr⟩ := rP h
   obtain ⟨hl', hs⟩ := gI hcs
   refine .fn f cs vs (by omega) fun i e v hi' hv => ?_
   have hlt : i < caps.length := by rw [hl]; exact (List.getElem?_eq_some_iff.1 hv).1
   have hc := List.getElem?_eq_getElem hlt
   exact pK (hr i _ v hc hv) (List.all_eq_true.1 hd _ (List.mem_of_getElem? hc)) (hs i _ e hc hi')
  ·cases hv
 | bool | int | str | nilp | nilfn | list | elt => exact pK h (by simpa [D.pt1, D.pt0] using hd) hv
 | _ => simp [D.pt1] at hd
theorem wv {C : fZ} {d r : D} {v : Value} (h : ef C d v) (hd : d.pt = true) (hv : fJ C.σ d = some r) : eB C.good C.w r v := by
 cases d with
 | agg cs =>
  simp only [fJ, dX, Option.map_eq_some_iff] at hv
  obtain ⟨es, he, rfl⟩ := hv
  obtain ⟨vs, rfl, hl, hr⟩ := j8 h
  obtain ⟨hl', hs⟩ := gI he
  refine .agg es vs (by omega) fun i e v hi' hv => ?_
  have hlt : i < cs.length := by rw [hl]; exact (List.getElem?_eq_some_iff.1 hv).1
  have hc := List.getElem?_eq_getElem hlt
  exact pM (hr i _ v hc hv) (List.all_eq_true.1 hd _ (List.mem_of_getElem? hc)) (hs i _ e hc hi')
 | tup ds => simp [D.pt, D.pt1] at hd
 | _ => exact pM h hd hv
def D.sc1 : D → Bool
 | .bool _ | .int _ _ | .str _ | .nilp | .nilfn => true
 | _ => false
def D.sc2 : D → Bool
 | .agg cs => cs.all D.sc1
 | d => d.sc1
def D.sc : D → Bool
 | .tup ds => ds.all D.sc2
 | d => d.sc2
theorem eB.sc1 {G G' : Nat → Prop} {w w' : World} {d : D} {v : Value} (h : eB G w d v) (hd : d.sc1 = true) : eB G' w' d v := by
 cases h <;> first | (simp [D.sc1] at hd; done) | constructor
theorem eB.sc2 {G G' : Nat → Prop} {w w' : World} {d : D} {v : Value} (h : eB G w d v) (hd : d.sc2 = true) : eB G' w' d v := by
 cases d with
 | agg cs =>
  cases h with
  | agg cs vs hl hr => exact .agg cs vs hl fun i d v h1 h2 => (hr i d v h1 h2).sc1 (List.all_eq_true.1 hd d (List.mem_of_getElem? h1))
 | _ => exact h.sc1 hd
theorem eB.sc {G G' : Nat → Prop} {w w' : World} {d : D} {v : Value} (h : eB G w d v) (hd : d.sc = true) : eB G' w' d v := by
 cases d with
 | tup cs =>
  cases h with
  | tup cs vs hl hr => exact .tup cs vs hl fun i d v h1 h2 => (hr i d v h1 h2).sc2 (List.all_eq_true.1 hd d (List.mem_of_getElem? h1))
 | _ => exact h.sc2 hd
theorem zn {P : Program} {f : FuncId} {ds : List D} {r : D} (h : ib P f ds [] fun d σ' => fJ σ' d = some r) : aA P f ds r := by
 refine ⟨h.enters, fun G w vs hG hl hr => ?_⟩
 have hC : i2 ⟨fun b => b < w.heap.size ∧ ¬ G b, [], [], w⟩ := ⟨fun b hb => hb.1, rfl, by simp, by simp⟩
 have hown : ∀ b, ¬ fZ.owned ⟨fun b => b < w.heap.size ∧ ¬ G b, [], [], w⟩ b := by
  rintro b ⟨l, o, h, _⟩; simp at h
 refine (h.calls ⟨fun b => b < w.heap.size ∧ ¬ G b, [], [], w⟩ vs rfl hC ⟨hl, fun i d v h1 h2 => .pure ((hr i d v h1 h2).mono (fun b hb => ⟨hG b hb, fun h => h.2 hb, hown b⟩) (fun _ _ => rfl))⟩).mono ?_
 rintro e w' ⟨v, C', d, rfl, rfl, hx, hi, hrep, hv⟩
 refine ⟨v, rfl, ⟨hx.os, hx.tape, hx.output, hx.size, fun k hk => (hx.blk k hk (hown k)).1⟩, (tk hi hrep hv).mono (fun b hb => ?_) (fun _ _ => rfl)⟩
 obtain ⟨h1, h2⟩ := hb
 rw [hx.F] at h2
 by_cases hb : b < w.heap.size
 ·exact .inl (Classical.byContradiction fun hn => h2 ⟨hb, hn⟩)
 ·exact .inr ⟨by omega, h1⟩
theorem i8 {P : Program} {f : FuncId} {ds ds' : List D} {σ : List Ob} {r : D} (h : aA P f ds' r) (hv : cV (fJ σ) ds = some ds') (hs : (ds.all D.pt || r.sc) = true) : ib P f ds σ fun d σ' => d = r ∧ σ' = σ := by
 refine ⟨h.enters, fun C vs hσ hi hrow => ?_⟩
 subst hσ
 obtain ⟨hl, hsp⟩ := gI hv
 have after : ∀ {w' : World} {v : Value}, Below C.w.heap.size C.w w' → eB (fZ.good { C with w := w' }) w' r v → Post C (fun d σ' => d = r ∧ σ' = C.σ) (.returned v) w' := fun {w' v} hb hr => by
  obtain ⟨hx, hi'⟩ := jq.later hb hi
  exact ⟨v, _, r, rfl, rfl, hx, hi', .pure hr, rfl, rfl⟩
 have get : ∀ (i : Nat) d' v, ds'[i]? = some d' → vs[i]? = some v → ∃ d, ds[i]? = some d ∧ ef C d v ∧ fJ C.σ d = some d' := fun i d' v h1 h2 => by
  have hlt : i < ds.length := by rw [hl]; exact (List.getElem?_eq_some_iff.1 h1).1
  have hc := List.getElem?_eq_getElem hlt
  exact ⟨_, hc, hrow.2 i _ v hc h2, hsp i _ d' hc h1⟩
 by_cases hp : ds.all D.pt = true
 ·refine (h.calls C.good C.w vs (fun b hb => hb.1) (by rw [← hl, hrow.1]) fun i d' v h1 h2 => ?_).mono ?_
  ·obtain ⟨d, hd, hrep, hvw⟩ := get i d' v h1 h2
   exact wv hrep (List.all_eq_true.1 hp d (List.mem_of_getElem? hd)) hvw
  ·rintro e w' ⟨v, rfl, hb, hr⟩
   refine after hb (hr.mono (fun b hb' => ?_) (fun _ _ => rfl))
   rcases hb' with hg | ⟨h1, h2⟩
   ·exact ((jq.later hb hi).1.good hg).1
   ·refine ⟨h2, fun hF => absurd (hi.F b hF) (Nat.not_lt_of_le h1), ?_⟩
    rintro ⟨l, o, g1, g2, g3, g4⟩
    exact absurd (hi.lt g1 g4 g2) (Nat.not_lt_of_le h1)
 ·have hsc : r.sc = true := by simpa [hp] using hs
  refine (h.calls C.seen C.w vs (fun b hb => hb.1) (by rw [← hl, hrow.1]) fun i d' v h1 h2 => ?_).mono ?_
  ·obtain ⟨d, hd, hrep, hvw⟩ := get i d' v h1 h2
   exact tk hi hrep hvw
  ·rintro e w' ⟨v, rfl, hb, hr⟩
   exact after hb (hr.sc hsc)
theorem ib.mono {P : Program} {f : FuncId} {ds : List D} {σ : List Ob} {Q Q' : D → List Ob → Prop} (h : ib P f ds σ Q) (hq : ∀ d σ', Q d σ' → Q' d σ') : ib P f ds σ Q' :=
 ⟨h.enters, fun C vs hσ hi hr => (h.calls C vs hσ hi hr).mono fun e w' ⟨v, C', d, h1, h2, h3, h4, h5, h6⟩ => ⟨v, C', d, h1, h2, h3, h4, h5, hq _ _ h6⟩⟩
end Go.Vi
