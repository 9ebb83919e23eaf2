import Derived.Test.YtggchhmgeafoaaaVi16
set_option linter.unusedVariables false
set_option linter.unusedSimpArgs false
set_option linter.unnecessarySimpa false
namespace Go.Vi
open Go Go.RowKit
inductive RL where
 | tmp (t : Nat)
 | cell (t : Nat) (ag : Option Nat)
 deriving Inhabited
def lowRes (P : Program) : List ResultVar → Option (List RL)
 | [] => some []
 | .tmp t :: rs => (lowRes P rs).map (.tmp t :: ·)
 | .cell a t :: rs => match lowAg P t, lowRes P rs with
  | some ag, some l => some (.cell a ag :: l)
  | _, _ => none
def resK (env : Env) (σ : List Ob) : List RL → (List D → Prop) → Prop
 | [], K => K []
 | .tmp t :: rs, K => resK env σ rs fun ds => K (lk env t :: ds)
 | .cell a ag :: rs, K => match lk env a with
  | .ptr l j i n => match σ[l]? with
   | some o => o.rows.length = n ∧ o.real = true ∧ j < n ∧ ∀ r, o.rows[j]? = some r → loadRow r i ag fun d => resK env σ rs fun ds => K (d :: ds)
   | none => False
  | _ => False
def ofRes : List D → D
 | [d] => d
 | ds => .tup ds
def resOne (a : Act) : ResultVar → Sem Value
 | .tmp t => pure (a.tmps.getD t undef)
 | .cell p t => do loadVar t (← asAddr (a.tmps.getD p undef))
section
variable {P : Program} {N : Nat} {C : Ctx} {env : Env} {a : Act}
theorem res_sound : ∀ (rs : List ResultVar) (ls : List RL) (K : List D → Prop), lowRes P rs = some ls → St C env a N → resK env C.σ ls K →
  ∃ vs : List Value, (rs.mapM (resOne a)).run P C.w = .ok vs C.w ∧ ∃ ds, K ds ∧ RowRep C ds vs
 | [], ls, K, hl, hst, h => by
  simp [lowRes] at hl; subst hl
  exact ⟨[], by simp, [], h, rfl, by simp⟩
 | .tmp t :: rs, ls, K, hl, hst, h => by
  simp only [lowRes, Option.map_eq_some_iff] at hl
  obtain ⟨ls', hl', rfl⟩ := hl
  obtain ⟨vs, hvs, ds, hK, hrow⟩ := res_sound rs ls' _ hl' hst h
  refine ⟨a.tmps.getD t undef :: vs, ?_, lk env t :: ds, hK, by simp [hrow.1], fun i d v hd hv => ?_⟩
  ·rw [List.mapM_cons]
   simp only [resOne, Sem.run_bind, Sem.run_pure, Result.andThen_ok, hvs]
  ·cases i with
   | zero => simp at hd hv; subst hd; subst hv; simpa using hst.rep t
   | succ i => simp at hd hv; exact hrow.2 i d v hd hv
 | .cell p t :: rs, ls, K, hl, hst, h => by
  simp only [lowRes] at hl
  split at hl
  ·rename_i ag ls' hag hl'
   cases hl
   simp only [resK] at h
   split at h
   ·rename_i l j i n hp
    split at h
    ·rename_i o ho
     obtain ⟨h1, h2, h3, h4⟩ := h
     have hjr : o.rows[j]? = some (o.rows[j]'(by omega)) := List.getElem?_eq_getElem (by omega)
     have rp := hst.rep p
     rw [hp] at rp
     obtain ⟨ad, hv, hc⟩ := cells_ptr hst.inv rp ho h1 h2 hjr
     obtain ⟨v, d, hload, hrep, hK⟩ := load_row (P := P) hc hag (h4 _ hjr)
     obtain ⟨vs, hvs, ds, hK', hrow⟩ := res_sound rs ls' _ hl' hst hK
     refine ⟨v :: vs, ?_, d :: ds, hK', by simp [hrow.1], fun i d' v' hd hv' => ?_⟩
     ·rw [List.mapM_cons]
      have h1 : (resOne a (.cell p t)).run P C.w = .ok v C.w := by
       simp only [resOne, Sem.run_bind, hv, asAddr, Sem.run_pure, Result.andThen_ok, hload]
      simp only [Sem.run_bind, h1, Result.andThen_ok, hvs, Sem.run_pure]
     ·cases i with
      | zero => simp at hd hv'; subst hd; subst hv'; exact hrep
      | succ i => simp at hd hv'; exact hrow.2 i d' v' hd hv'
    ·exact h.elim
   ·exact h.elim
  ·cases hl
theorem res_run {fn : Func} {ls : List RL} {K : List D → Prop} (hl : lowRes P fn.results.toList = some ls) (hst : St C env a N) (h : resK env C.σ ls K) :
  ∃ v ds, (results fn a.tmps).run P C.w = .ok v C.w ∧ K ds ∧ Rep C (ofRes ds) v := by
 obtain ⟨vs, hvs, ds, hK, hl', hr⟩ := res_sound fn.results.toList ls K hl hst h
 have hm : (fn.results.mapM (resOne a)).run P C.w = .ok vs.toArray C.w := by
  rw [← Array.toArray_toList (xs := fn.results), List.mapM_toArray]
  simp only [Sem.run_map, hvs]
  rfl
 refine ⟨if h : vs.toArray.size = 1 then vs.toArray[0] else .tuple vs.toArray, ds, ?_, hK, ?_⟩
 ·have e : results fn a.tmps = (do let vs ← fn.results.mapM (resOne a); pure (if h : vs.size = 1 then vs[0] else .tuple vs)) := by
   unfold results
   congr 2
  rw [e]
  simp only [Sem.run_bind, hm, Result.andThen_ok, Sem.run_pure]
 ·match ds, vs, hl', hr with
  | [], [], _, hr => simpa [ofRes] using Rep.tup (C := C) [] [] rfl (by simp)
  | [d], [v], _, hr => simpa [ofRes] using hr 0 d v rfl rfl
  | d :: d' :: ds, v :: v' :: vs, hl', hr => simpa [ofRes] using Rep.tup (C := C) (d :: d' :: ds) (v :: v' :: vs) hl' hr
end
def argEnv : Nat → List D → Env
 | _, [] => []
 | i, d :: ds => (i, d) :: argEnv (i + 1) ds
theorem lk_argEnv : ∀ (ds : List D) (i t : Nat), lk (argEnv i ds) t = if t < i then .undef else (ds[t - i]?).getD .undef
 | [], i, t => by simp [argEnv, lk]
 | d :: ds, i, t => by
  simp only [argEnv, lk]
  by_cases h : i = t
  ·subst h; simp
  ·rw [if_neg h, lk_argEnv ds (i + 1) t]
   by_cases h1 : t < i
   ·rw [if_pos (by omega), if_pos h1]
   ·rw [if_neg (by omega), if_neg h1, show t - i = (t - (i + 1)) + 1 by omega]; simp
theorem call_of {P : Program} {f : FuncId} {fn : Func} {c : Code} {lc : LC} {ls : List RL} {ds : List D} {σ : List Ob} {Q : D → List Ob → Prop} (hf : P.funcs[f]? = some fn) (hn : (fn.name == "runtime.NumGoroutine") = false) (hb : fn.body = some c)
  (hc : lowCode P fn.ntmps c = some lc) (hr : lowRes P fn.results.toList = some ls) (hds : ds.length ≤ fn.ntmps) (h : Run P fn.ntmps σ [.code lc] (fun env σ' => resK env σ' ls fun rs => Q (ofRes rs) σ') (argEnv 0 ds) σ) : CallD P f ds σ Q := by
 refine ⟨⟨fn, hf, hn, by rw [hb]; rfl⟩, fun C vs hσ hi hrow cs => ?_⟩
 let b : Frame := { (default : Frame) with fn := f, kind := .normal }
 let a : Act := { tmps := vs.toArray ++ Array.replicate (fn.ntmps - vs.toArray.size) undef, defers := [] }
 have henter : Frame.enter P f vs.toArray .normal = b.at a [.code c] := by
  simp [Frame.enter, Frame.at, hf, hb, b, a]
 have hst : St C (argEnv 0 ds) a fn.ntmps := by
  refine ⟨hi, by simp [a]; rw [← hrow.1]; omega, rfl, fun t => ?_⟩
  rw [lk_argEnv]
  simp only [Nat.not_lt_zero, if_false, Nat.sub_zero]
  by_cases ht : t < ds.length
  ·have hd := List.getElem?_eq_getElem ht
   have hv : vs[t]? = some (vs[t]'(by rw [← hrow.1]; exact ht)) := List.getElem?_eq_getElem _
   rw [hd]
   have := hrow.2 t _ _ hd hv
   have e1 : a.tmps.getD t undef = vs[t]'(by rw [← hrow.1]; exact ht) := by
    have : t < vs.length := by rw [← hrow.1]; exact ht
    simp [a, this, Array.getElem?_append]
   rw [e1]; exact this
  ·rw [List.getElem?_eq_none (by omega)]; exact .undef _
 obtain ⟨a', C', env', todo, hsteps, hx, hst', hpost⟩ := h [.code c] ⟨hc, trivial⟩ C C a hσ (.refl C) hσ hst b cs
 obtain ⟨v, rs, hres, hQ, hrep⟩ := res_run hr hst' hpost
 refine ⟨.returned v, C'.w, { b.at a' todo with mode := .returning }, ⟨v, C', ofRes rs, rfl, rfl, hx, hst'.inv, hrep, hQ⟩, ?_, rfl, ?_⟩
 ·rw [henter]; exact hsteps
 ·exact ⟨rfl, hst'.defers, rfl, fn, hf, hres⟩
structure LF where
 n : Nat
 code : LC
 res : List RL
 deriving Inhabited
def lowFn (P : Program) (fn : Func) : Option LF :=
 match fn.body with
 | some c => match lowCode P fn.ntmps c, lowRes P fn.results.toList with
  | some lc, some ls => if (fn.name == "runtime.NumGoroutine") = false then some ⟨fn.ntmps, lc, ls⟩ else none
  | _, _ => none
 | none => none
theorem lowFn_spec {P : Program} {fn : Func} {l : LF} (h : lowFn P fn = some l) : ∃ c, fn.body = some c ∧ lowCode P fn.ntmps c = some l.code ∧ lowRes P fn.results.toList = some l.res ∧ (fn.name == "runtime.NumGoroutine") = false ∧ fn.ntmps = l.n := by
 unfold lowFn at h
 split at h
 ·rename_i c hc
  split at h
  ·rename_i lc ls h1 h2
   split at h
   ·rename_i h3; cases h; exact ⟨c, hc, h1, h2, h3, rfl⟩
   ·cases h
  ·cases h
 ·cases h
theorem callD {P : Program} {f : FuncId} {fn : Func} {l : LF} {ds : List D} {σ : List Ob} {Q : D → List Ob → Prop} (hf : P.funcs[f]? = some fn) (hl : lowFn P fn = some l) (hds : ds.length ≤ l.n)
  (h : Run P l.n σ [.code l.code] (fun env σ' => resK env σ' l.res fun rs => Q (ofRes rs) σ') (argEnv 0 ds) σ) : CallD P f ds σ Q := by
 obtain ⟨c, h1, h2, h3, h4, h5⟩ := lowFn_spec hl
 exact call_of hf h4 h1 h2 h3 (by rw [h5]; exact hds) (by rw [h5]; exact h)
theorem pureD {P : Program} {f : FuncId} {fn : Func} {l : LF} {ds : List D} {r : D} (hf : P.funcs[f]? = some fn) (hl : lowFn P fn = some l) (hds : ds.length ≤ l.n)
  (h : Run P l.n [] [.code l.code] (fun env σ' => resK env σ' l.res fun rs => view σ' (ofRes rs) = some r) (argEnv 0 ds) []) : PureD P f ds r := pure_of (callD hf hl hds h)
end Go.Vi
