import Derived.Test.YtgefljdclekadaaVi24
namespace Go.Vi
open Go
variable {base : List Ob} {env : bv} {σ : List Ob}
end Go.Vi
