import Derived.Test.YtggchhmgeafoaaaVi22
set_option linter.unusedVariables false
set_option linter.unusedSimpArgs false
set_option linter.unnecessarySimpa false
namespace Go.Vi
open Go Go.RowKit
theorem eqO_ptr {σ : List Ob} {x y : D} : eqO σ .ptr x y = eqD .ptr x y := by cases x <;> rfl
theorem eqO_bool {σ : List Ob} {x y : D} : eqO σ .bool x y = eqD .bool x y := by cases x <;> rfl
theorem eqO_func {σ : List Ob} {x y : D} : eqO σ .func x y = eqD .func x y := by cases x <;> rfl
theorem eqO_row {σ : List Ob} {ks : List FK} {x y : D} : eqO σ (.row ks) x y = eqD (.row ks) x y := by cases x <;> rfl
theorem eqO_list {σ : List Ob} {nl : Option Bool} {tg : Bool} {rows : List (List D)} {y : D} : eqO σ .slice (.list nl tg rows) y = eqD .slice (.list nl tg rows) y := id rfl
def eqOo (o : Option Ob) (n : Nat) : Option Bool := match o with
 | some o => if o.rows.length = n then some (!o.real && o.nl) else none
 | none => none
theorem eqO_own {σ : List Ob} {l i k n z : Nat} {cl : Option Nat} : eqO σ .slice (.own l i k n z cl) (.list (some true) true []) = eqOo (σ[l]?) n := by
 simp only [eqO, eqOo]
 cases σ[l]? <;> rfl
theorem eqOo_some {o : Ob} {n : Nat} : eqOo (some o) n = if o.rows.length = n then some (!o.real && o.nl) else none := id rfl
section
variable {P : Program} {N : Nat} {base : List Ob} {env env' : Env} {σ σ' : List Ob} {q : List Nat} {k : List LI} {post : Env → List Ob → Prop}
end
end Go.Vi
