/-
  Vi22: calls whose arguments are told first; what is asked at a function's end under a name. Own work, over any program.
-/
import Derived.Test.YtefpjijokdplfaaVi21
set_option linter.unusedVariables false
set_option linter.unusedSimpArgs false
namespace Go.Vi
open Go Go.RowKit

section
variable {P : Program} {dr : Bool} {dst : Option Nat} {os : List LOp} {K : Env → List Ob → Prop} {env : Env} {σ : List Ob}
def capsD : D → List D
  | .fn _ caps => caps
  | _ => []
theorem capsD_fn {f : FuncId} {caps : List D} : capsD (.fn f caps) = caps := id rfl

/-- A call of a known function with known arguments. -/
def CallV (P : Program) (dr : Bool) (f : D) (ds : Option (List D)) (pt : Bool) (dst : Option Nat) (os : List LOp) (K : Env → List Ob → Prop) (env : Env) (σ : List Ob) : Prop :=
  ∃ fid caps ds' r, f = .fn fid caps ∧ ds = some ds' ∧ PureD P fid ds' r ∧ (pt || r.sc) = true ∧ runOps P dr os K (put env dst r) σ
theorem ro_callV {f : LO} {args : List LO} (h : CallV P dr (f.ev env) (mapO (view σ) (args.map (LO.ev env) ++ capsD (f.ev env))) ((args.map (LO.ev env) ++ capsD (f.ev env)).all D.pt) dst os K env σ) :
    runOps P dr (⟨dst, none, .call f args⟩ :: os) K env σ := by
  obtain ⟨fid, caps, ds', r, h1, h2, h3, h4, h5⟩ := h
  rw [h1] at h2 h4
  exact ro_pure h3 h1 h2 h4 h5
theorem CallV_pure {fid : FuncId} {caps : List D} {ds' : List D} {r : D} {pt : Bool} (h : PureD P fid ds' r) (hs : (pt || r.sc) = true) (hk : runOps P dr os K (put env dst r) σ) : CallV P dr (.fn fid caps) (some ds') pt dst os K env σ :=
  ⟨fid, caps, ds', r, rfl, rfl, h, hs, hk⟩
end

/-- The end of a function that turns nothing. -/
def PostV (res : List RL) (r : D) (env : Env) (σ : List Ob) : Prop := resK env σ res fun rs => view σ (ofRes rs) = some r
theorem PostV_open {res : List RL} {r : D} {env : Env} {σ : List Ob} (h : resK env σ res fun rs => view σ (ofRes rs) = some r) : PostV res r env σ := h
theorem pureV {P : Program} {f : FuncId} {fn : Func} {l : LF} {ds : List D} {r : D} (hf : P.funcs[f]? = some fn) (hl : lowFn P fn = some l) (hds : ds.length ≤ l.n)
    (h : Run P l.n [] [.code l.code] (PostV l.res r) (argEnv 0 ds) []) : PureD P f ds r := pureD hf hl hds h

end Go.Vi
