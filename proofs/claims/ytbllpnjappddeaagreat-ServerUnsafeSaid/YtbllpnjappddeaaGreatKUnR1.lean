/- ServerUnsafe, run: texts of some lengths. -/
import Derived.Test.YtbllpnjappddeaaGreatKUnB
set_option linter.unusedVariables false
set_option linter.unusedSimpArgs false
set_option maxRecDepth 1000000
namespace Go.Proofs.YtbllpnjappddeaaGreat.Den
theorem unsRun5 : unsRun 5 = true := by decide +kernel
theorem unsRun6 : unsRun 6 = true := by decide +kernel
theorem unsRun7 : unsRun 7 = true := by decide +kernel
theorem unsRun8 : unsRun 8 = true := by decide +kernel
end Go.Proofs.YtbllpnjappddeaaGreat.Den
