import Derived.Test.YtapennlmboabeaaGreatYC
import Derived.Test.YtapennlmboabeaaGreatVi33
set_option linter.unusedVariables false
set_option linter.unusedSimpArgs false
set_option linter.unnecessarySimpa false
namespace Go.Proofs.YtapennlmboabeaaGreat
open Go Go.Vi
def farT (a b : Int × Int) : Prop := a.1 + 2880 ≤ b.1
instance (a b : Int × Int) : Decidable (farT a b) := inferInstanceAs (Decidable (_ ≤ _))
end Go.Proofs.YtapennlmboabeaaGreat
