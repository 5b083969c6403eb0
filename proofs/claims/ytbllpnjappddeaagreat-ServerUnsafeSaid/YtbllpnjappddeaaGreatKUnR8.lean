/- ServerUnsafe, run: texts of some lengths. -/
import Derived.Test.YtbllpnjappddeaaGreatKUnB
set_option linter.unusedVariables false
set_option linter.unusedSimpArgs false
set_option maxRecDepth 1000000
namespace Go.Proofs.YtbllpnjappddeaaGreat.Den
theorem unsRun33 : unsRun 33 = true := by decide +kernel
theorem unsRun34 : unsRun 34 = true := by decide +kernel
theorem unsRun35 : unsRun 35 = true := by decide +kernel
theorem unsRun36 : unsRun 36 = true := by decide +kernel
end Go.Proofs.YtbllpnjappddeaaGreat.Den
