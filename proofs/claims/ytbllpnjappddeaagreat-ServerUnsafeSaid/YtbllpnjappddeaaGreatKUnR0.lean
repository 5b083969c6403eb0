/- ServerUnsafe, run: texts of some lengths. -/
import Derived.Test.YtbllpnjappddeaaGreatKUnB
set_option linter.unusedVariables false
set_option linter.unusedSimpArgs false
set_option maxRecDepth 1000000
namespace Go.Proofs.YtbllpnjappddeaaGreat.Den
theorem unsRun1 : unsRun 1 = true := by decide +kernel
theorem unsRun2 : unsRun 2 = true := by decide +kernel
theorem unsRun3 : unsRun 3 = true := by decide +kernel
theorem unsRun4 : unsRun 4 = true := by decide +kernel
end Go.Proofs.YtbllpnjappddeaaGreat.Den
