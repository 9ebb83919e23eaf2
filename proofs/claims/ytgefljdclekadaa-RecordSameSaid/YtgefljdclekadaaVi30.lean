/-
 Vi30: a cell of an object that holds a slice of which nobody writes any more. Own work, over any program.
-/
import Derived.Test.YtgefljdclekadaaVi29
set_option linter.unusedVariables false
set_option linter.unusedSimpArgs false
set_option linter.unnecessarySimpa false
namespace Go.Vi
open Go
variable {base : List Ob} {env : Env} {σ : List Ob}
end Go.Vi
