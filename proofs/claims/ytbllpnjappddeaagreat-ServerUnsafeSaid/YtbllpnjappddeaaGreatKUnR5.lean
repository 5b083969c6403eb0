/- ServerUnsafe, run: texts of some lengths. -/
import Derived.Test.YtbllpnjappddeaaGreatKUnB
set_option linter.unusedVariables false
set_option linter.unusedSimpArgs false
set_option maxRecDepth 1000000
namespace Go.Proofs.YtbllpnjappddeaaGreat.Den
theorem unsRun21 : unsRun 21 = true := by decide +kernel
theorem unsRun22 : unsRun 22 = true := by decide +kernel
theorem unsRun23 : unsRun 23 = true := by decide +kernel
theorem unsRun24 : unsRun 24 = true := by decide +kernel
end Go.Proofs.YtbllpnjappddeaaGreat.Den
