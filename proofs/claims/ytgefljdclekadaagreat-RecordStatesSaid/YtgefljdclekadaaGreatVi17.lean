import Derived.Test.YtgefljdclekadaaGreatVi16
set_option linter.unusedVariables false
set_option linter.unusedSimpArgs false
set_option linter.unnecessarySimpa false
namespace Go.Vi
open Go Go.RowKit
inductive RL where
 | tmp (t : Nat)
 | cell (t : Nat) (ag : Option Nat)
 deriving Inhabited
def fE (P : Program) : List ResultVar → Option (List RL)
 | [] => some []
 | .tmp t :: rs => (fE P rs).map (.tmp t :: ·)
 | .cell a t :: rs => match iI P t, fE P rs with
  | some ag, some l => some (.cell a ag :: l)
  | _, _ => none
def eW (env : bK) (σ : List Ob) : List RL → (List D → Prop) → Prop
 | [], K => K []
 | .tmp t :: rs, K => eW env σ rs fun ds => K (lk env t :: ds)
 | .cell a ag :: rs, K => match lk env a with
  | .ptr l j i n => match σ[l]? with
   | some o => o.rows.length = n ∧ o.real = true ∧ j < n ∧ ∀ r, o.rows[j]? = some r → bR r i ag fun d => eW env σ rs fun ds => K (d :: ds)
   | none => False
  | _ => False
def cf : List D → D
 | [d] => d
 | ds => .tup ds
def jf (a : Act) : ResultVar → Sem Value
 | .tmp t => pure (a.tmps.getD t undef)
 | .cell p t => do loadVar t (← asAddr (a.tmps.getD p undef))
section
variable {P : Program} {N : Nat} {C : bT} {env : bK} {a : Act}
theorem jg : ∀ (rs : List ResultVar) (ls : List RL) (K : List D → Prop), fE P rs = some ls → St C env a N → eW env C.σ ls K →
  ∃ vs : List Value, (rs.mapM (jf a)).run P C.w = .ok vs C.w ∧ ∃ ds, K ds ∧ dZ C ds vs
 | [], ls, K, hl, hst, h => by
  simp [fE] at hl; subst hl
  exact ⟨[], by simp, [], h, rfl, by simp⟩
 | .tmp t :: rs, ls, K, hl, hst, h => by
  simp only [fE, Option.map_eq_some_iff] at hl
  obtain ⟨ls', hl', rfl⟩ := hl
  obtain ⟨vs, hvs, ds, hK, hrow⟩ := jg rs ls' _ hl' hst h
  refine ⟨a.tmps.getD t undef :: vs, ?_, lk env t :: ds, hK, by simp [hrow.1], fun i d v hd hv => ?_⟩
  ·rw [List.mapM_cons]
   simp only [jf, Sem.run_bind, Sem.run_pure, Result.andThen_ok, hvs]
  ·cases i with
   | zero => simp at hd hv; subst hd; subst hv; simpa using hst.rep t
   | succ i => simp at hd hv; exact hrow.2 i d v hd hv
 | .cell p t :: rs, ls, K, hl, hst, h => by
  simp only [fE] at hl
  split at hl
  ·rename_i ag ls' hag hl'
   cases hl
   simp only [eW] at h
   split at h
   ·rename_i l j i n hp
    split at h
    ·rename_i o ho
     obtain ⟨h1, h2, h3, h4⟩ := h
     have hjr : o.rows[j]? = some (o.rows[j]'(by omega)) := List.getElem?_eq_getElem (by omega)
     have rp := hst.rep p
     rw [hp] at rp
     obtain ⟨ad, hv, hc⟩ := lO hst.inv rp ho h1 h2 hjr
     obtain ⟨v, d, hload, hrep, hK⟩ := oE (P := P) hc hag (h4 _ hjr)
     obtain ⟨vs, hvs, ds, hK', hrow⟩ := jg rs ls' _ hl' hst hK
     refine ⟨v :: vs, ?_, d :: ds, hK', by simp [hrow.1], fun i d' v' hd hv' => ?_⟩
     ·rw [List.mapM_cons]
      have h1 : (jf a (.cell p t)).run P C.w = .ok v C.w := by
       simp only [jf, Sem.run_bind, hv, asAddr, Sem.run_pure, Result.andThen_ok, hload]
      simp only [Sem.run_bind, h1, Result.andThen_ok, hvs, Sem.run_pure]
     ·cases i with
      | zero => simp at hd hv'; subst hd; subst hv'; exact hrep
      | succ i => simp at hd hv'; exact hrow.2 i d' v' hd hv'
    ·exact h.elim
   ·exact h.elim
  ·cases hl
theorem wz {fn : Func} {ls : List RL} {K : List D → Prop} (hl : fE P fn.results.toList = some ls) (hst : St C env a N) (h : eW env C.σ ls K) :
  ∃ v ds, (results fn a.tmps).run P C.w = .ok v C.w ∧ K ds ∧ bq C (cf ds) v := by
 obtain ⟨vs, hvs, ds, hK, hl', hr⟩ := jg fn.results.toList ls K hl hst h
 have hm : (fn.results.mapM (jf a)).run P C.w = .ok vs.toArray C.w := by
  rw [← Array.toArray_toList (xs := fn.results), List.mapM_toArray]
  simp only [Sem.run_map, hvs]
  rfl
 refine ⟨if h : vs.toArray.size = 1 then vs.toArray[0] else .tuple vs.toArray, ds, ?_, hK, ?_⟩
 ·have e : results fn a.tmps = (do let vs ← fn.results.mapM (jf a); pure (if h : vs.size = 1 then vs[0] else .tuple vs)) := by
   unfold results
   congr 2
  rw [e]
  simp only [Sem.run_bind, hm, Result.andThen_ok, Sem.run_pure]
 ·match ds, vs, hl', hr with
  | [], [], _, hr => simpa [cf] using bq.tup (C := C) [] [] rfl (by simp)
  | [d], [v], _, hr => simpa [cf] using hr 0 d v rfl rfl
  | d :: d' :: ds, v :: v' :: vs, hl', hr => simpa [cf] using bq.tup (C := C) (d :: d' :: ds) (v :: v' :: vs) hl' hr
end
def de : Nat → List D → bK
 | _, [] => []
 | i, d :: ds => (i, d) :: de (i + 1) ds
theorem me : ∀ (ds : List D) (i t : Nat), lk (de i ds) t = if t < i then .undef else (ds[t - i]?).getD .undef
 | [], i, t => by simp [de, lk]
 | d :: ds, i, t => by
  simp only [de, lk]
  by_cases h : i = t
  ·subst h; simp
  ·rw [if_neg h, me ds (i + 1) t]
   by_cases h1 : t < i
   ·rw [if_pos (by omega), if_pos h1]
   ·rw [if_neg (by omega), if_neg h1, show t - i = (t - (i + 1)) + 1 by omega]; simp
theorem vT {P : Program} {f : FuncId} {fn : Func} {c : Code} {lc : LC} {ls : List RL} {ds : List D} {σ : List Ob} {Q : D → List Ob → Prop} (hf : P.funcs[f]? = some fn) (hn : (fn.name == "runtime.NumGoroutine") = false) (hb : fn.body = some c)
  (hc : bJ P fn.ntmps c = some lc) (hr : fE P fn.results.toList = some ls) (hds : ds.length ≤ fn.ntmps) (h : dQ P fn.ntmps σ [.code lc] (fun env σ' => eW env σ' ls fun rs => Q (cf rs) σ') (de 0 ds) σ) : cR P f ds σ Q := by
 refine ⟨⟨fn, hf, hn, by rw [hb]; rfl⟩, fun C vs hσ hi hrow cs => ?_⟩
 let b : Frame := { (default : Frame) with fn := f, kind := .normal }
 let a : Act := { tmps := vs.toArray ++ Array.replicate (fn.ntmps - vs.toArray.size) undef, defers := [] }
 have henter : Frame.enter P f vs.toArray .normal = b.at a [.code c] := by
  simp [Frame.enter, Frame.at, hf, hb, b, a]
 have hst : St C (de 0 ds) a fn.ntmps := by
  refine ⟨hi, by simp [a]; rw [← hrow.1]; omega, rfl, fun t => ?_⟩
  rw [me]
  simp only [Nat.not_lt_zero, if_false, Nat.sub_zero]
  by_cases ht : t < ds.length
  ·have hd := List.getElem?_eq_getElem ht
   have hv : vs[t]? = some (vs[t]'(by rw [← hrow.1]; exact ht)) := List.getElem?_eq_getElem _
   rw [hd]
   have := hrow.2 t _ _ hd hv
   have e1 : a.tmps.getD t undef = vs[t]'(by rw [← hrow.1]; exact ht) := by
    have : t < vs.length := by rw [← hrow.1]; exact ht
    simp [a, this, Array.getElem?_append]
   rw [e1]; exact this
  ·rw [List.getElem?_eq_none (by omega)]; exact .undef _
 obtain ⟨a', C', env', todo, hsteps, hx, hst', hpost⟩ := h [.code c] ⟨hc, trivial⟩ C C a hσ (.refl C) hσ hst b cs
 obtain ⟨v, rs, hres, hQ, hrep⟩ := wz hr hst' hpost
 refine ⟨.returned v, C'.w, { b.at a' todo with mode := .returning }, ⟨v, C', cf rs, rfl, rfl, hx, hst'.inv, hrep, hQ⟩, ?_, rfl, ?_⟩
 ·rw [henter]; exact hsteps
 ·exact ⟨rfl, hst'.defers, rfl, fn, hf, hres⟩
structure LF where
 n : Nat
 code : LC
 res : List RL
 deriving Inhabited
def aH (P : Program) (fn : Func) : Option LF :=
 match fn.body with
 | some c => match bJ P fn.ntmps c, fE P fn.results.toList with
  | some lc, some ls => if (fn.name == "runtime.NumGoroutine") = false then some ⟨fn.ntmps, lc, ls⟩ else none
  | _, _ => none
 | none => none
theorem pP {P : Program} {fn : Func} {l : LF} (h : aH P fn = some l) : ∃ c, fn.body = some c ∧ bJ P fn.ntmps c = some l.code ∧ fE P fn.results.toList = some l.res ∧ (fn.name == "runtime.NumGoroutine") = false ∧ fn.ntmps = l.n := by
 unfold aH at h
 split at h
 ·rename_i c hc
  split at h
  ·rename_i lc ls h1 h2
   split at h
   ·rename_i h3; cases h; exact ⟨c, hc, h1, h2, h3, rfl⟩
   ·cases h
  ·cases h
 ·cases h
theorem xB {P : Program} {f : FuncId} {fn : Func} {l : LF} {ds : List D} {σ : List Ob} {Q : D → List Ob → Prop} (hf : P.funcs[f]? = some fn) (hl : aH P fn = some l) (hds : ds.length ≤ l.n)
  (h : dQ P l.n σ [.code l.code] (fun env σ' => eW env σ' l.res fun rs => Q (cf rs) σ') (de 0 ds) σ) : cR P f ds σ Q := by
 obtain ⟨c, h1, h2, h3, h4, h5⟩ := pP hl
 exact vT hf h4 h1 h2 h3 (by rw [h5]; exact hds) (by rw [h5]; exact h)
theorem pureD {P : Program} {f : FuncId} {fn : Func} {l : LF} {ds : List D} {r : D} (hf : P.funcs[f]? = some fn) (hl : aH P fn = some l) (hds : ds.length ≤ l.n)
  (h : dQ P l.n [] [.code l.code] (fun env σ' => eW env σ' l.res fun rs => eF σ' (cf rs) = some r) (de 0 ds) []) : aP P f ds r := wq (xB hf hl hds h)
end Go.Vi
