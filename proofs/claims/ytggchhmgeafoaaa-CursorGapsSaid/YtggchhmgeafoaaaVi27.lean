import Derived.Test.YtggchhmgeafoaaaVi24
set_option linter.unusedVariables false
set_option linter.unusedSimpArgs false
set_option linter.unnecessarySimpa false
namespace Go.Vi
open Go
variable {base : List Ob} {env : Env} {σ : List Ob}
end Go.Vi
