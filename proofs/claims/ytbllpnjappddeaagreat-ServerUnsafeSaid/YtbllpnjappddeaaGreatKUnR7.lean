/- ServerUnsafe, run: texts of some lengths. -/
import Derived.Test.YtbllpnjappddeaaGreatKUnB
set_option linter.unusedVariables false
set_option linter.unusedSimpArgs false
set_option maxRecDepth 1000000
namespace Go.Proofs.YtbllpnjappddeaaGreat.Den
theorem unsRun29 : unsRun 29 = true := by decide +kernel
theorem unsRun30 : unsRun 30 = true := by decide +kernel
theorem unsRun31 : unsRun 31 = true := by decide +kernel
theorem unsRun32 : unsRun 32 = true := by decide +kernel
end Go.Proofs.YtbllpnjappddeaaGreat.Den
