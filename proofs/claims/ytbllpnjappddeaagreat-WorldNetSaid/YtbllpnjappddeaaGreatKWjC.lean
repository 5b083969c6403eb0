/- A known call of a world: checked. -/
import Derived.Test.YtbllpnjappddeaaGreatKWjA
import Derived.Test.YtbllpnjappddeaaGreatKLrA
set_option linter.unusedVariables false
set_option linter.unusedSimpArgs false
set_option maxRecDepth 1000000
namespace Go.Proofs.YtbllpnjappddeaaGreat.Den
theorem wj1_ok : pzOK callQ wj1 = true := by decide +kernel
end Go.Proofs.YtbllpnjappddeaaGreat.Den
