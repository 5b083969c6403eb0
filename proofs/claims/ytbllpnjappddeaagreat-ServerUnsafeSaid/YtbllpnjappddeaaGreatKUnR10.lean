/- ServerUnsafe, run: texts of some lengths. -/
import Derived.Test.YtbllpnjappddeaaGreatKUnB
set_option linter.unusedVariables false
set_option linter.unusedSimpArgs false
set_option maxRecDepth 1000000
namespace Go.Proofs.YtbllpnjappddeaaGreat.Den
theorem unsRun41 : unsRun 41 = true := by decide +kernel
theorem unsRun42 : unsRun 42 = true := by decide +kernel
theorem unsRun43 : unsRun 43 = true := by decide +kernel
theorem unsRun44 : unsRun 44 = true := by decide +kernel
end Go.Proofs.YtbllpnjappddeaaGreat.Den
