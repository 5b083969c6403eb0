/- ServerUnsafe, run: texts of some lengths. -/
import Derived.Test.YtbllpnjappddeaaGreatKUnB
set_option linter.unusedVariables false
set_option linter.unusedSimpArgs false
set_option maxRecDepth 1000000
namespace Go.Proofs.YtbllpnjappddeaaGreat.Den
theorem unsRun49 : unsRun 49 = true := by decide +kernel
theorem unsRun50 : unsRun 50 = true := by decide +kernel
theorem unsRun51 : unsRun 51 = true := by decide +kernel
theorem unsRun52 : unsRun 52 = true := by decide +kernel
end Go.Proofs.YtbllpnjappddeaaGreat.Den
