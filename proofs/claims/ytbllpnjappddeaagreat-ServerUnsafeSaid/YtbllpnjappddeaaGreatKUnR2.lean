/- ServerUnsafe, run: texts of some lengths. -/
import Derived.Test.YtbllpnjappddeaaGreatKUnB
set_option linter.unusedVariables false
set_option linter.unusedSimpArgs false
set_option maxRecDepth 1000000
namespace Go.Proofs.YtbllpnjappddeaaGreat.Den
theorem unsRun9 : unsRun 9 = true := by decide +kernel
theorem unsRun10 : unsRun 10 = true := by decide +kernel
theorem unsRun11 : unsRun 11 = true := by decide +kernel
theorem unsRun12 : unsRun 12 = true := by decide +kernel
end Go.Proofs.YtbllpnjappddeaaGreat.Den
