/- WorldJoins, run. -/
import Derived.Test.YtbllpnjappddeaaGreatKWjG
set_option linter.unusedVariables false
set_option linter.unusedSimpArgs false
set_option maxRecDepth 1000000
namespace Go.Proofs.YtbllpnjappddeaaGreat.Den
theorem joinsRun17 : joinsRun 1 7 = true := by decide +kernel
end Go.Proofs.YtbllpnjappddeaaGreat.Den
