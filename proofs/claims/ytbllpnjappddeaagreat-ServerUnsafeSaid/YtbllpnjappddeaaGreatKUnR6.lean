/- ServerUnsafe, run: texts of some lengths. -/
import Derived.Test.YtbllpnjappddeaaGreatKUnB
set_option linter.unusedVariables false
set_option linter.unusedSimpArgs false
set_option maxRecDepth 1000000
namespace Go.Proofs.YtbllpnjappddeaaGreat.Den
theorem unsRun25 : unsRun 25 = true := by decide +kernel
theorem unsRun26 : unsRun 26 = true := by decide +kernel
theorem unsRun27 : unsRun 27 = true := by decide +kernel
theorem unsRun28 : unsRun 28 = true := by decide +kernel
end Go.Proofs.YtbllpnjappddeaaGreat.Den
