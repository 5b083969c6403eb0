/- ServerUnsafe, run: texts of some lengths. -/
import Derived.Test.YtbllpnjappddeaaGreatKUnB
set_option linter.unusedVariables false
set_option linter.unusedSimpArgs false
set_option maxRecDepth 1000000
namespace Go.Proofs.YtbllpnjappddeaaGreat.Den
theorem unsRun17 : unsRun 17 = true := by decide +kernel
theorem unsRun18 : unsRun 18 = true := by decide +kernel
theorem unsRun19 : unsRun 19 = true := by decide +kernel
theorem unsRun20 : unsRun 20 = true := by decide +kernel
end Go.Proofs.YtbllpnjappddeaaGreat.Den
