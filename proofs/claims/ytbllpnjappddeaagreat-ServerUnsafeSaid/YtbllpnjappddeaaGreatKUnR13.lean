/- ServerUnsafe, run: texts of some lengths. -/
import Derived.Test.YtbllpnjappddeaaGreatKUnB
set_option linter.unusedVariables false
set_option linter.unusedSimpArgs false
set_option maxRecDepth 1000000
namespace Go.Proofs.YtbllpnjappddeaaGreat.Den
theorem unsRun53 : unsRun 53 = true := by decide +kernel
theorem unsRun54 : unsRun 54 = true := by decide +kernel
theorem unsRun55 : unsRun 55 = true := by decide +kernel
theorem unsRun56 : unsRun 56 = true := by decide +kernel
end Go.Proofs.YtbllpnjappddeaaGreat.Den
