/-
 Vi23: a slice without cells, in an object's cell, as an object; a few rules more. Own work, over any program.
-/
import Derived.Test.YtoleaiaeghbffaaVi22
set_option linter.unusedVariables false
set_option linter.unusedSimpArgs false
set_option linter.unnecessarySimpa false
namespace Go.Vi
open Go Go.RowKit

theorem eqO_bool {σ : List Ob} {x y : D} : eqO σ .bool x y = eqD .bool x y := by cases x <;> rfl
theorem eqO_row {σ : List Ob} {ks : List FK} {x y : D} : eqO σ (.row ks) x y = eqD (.row ks) x y := by cases x <;> rfl
theorem eqO_list {σ : List Ob} {nl : Option Bool} {tg : Bool} {rows : List (List D)} {y : D} : eqO σ .slice (.list nl tg rows) y = eqD .slice (.list nl tg rows) y := id rfl
section
variable {P : Program} {N : Nat} {base : List Ob} {env env' : Env} {σ σ' : List Ob} {q : List Nat} {k : List LI} {post : Env → List Ob → Prop}

end
end Go.Vi
