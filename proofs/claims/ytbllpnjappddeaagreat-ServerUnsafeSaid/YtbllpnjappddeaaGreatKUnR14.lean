/- ServerUnsafe, run: texts of some lengths. -/
import Derived.Test.YtbllpnjappddeaaGreatKUnB
set_option linter.unusedVariables false
set_option linter.unusedSimpArgs false
set_option maxRecDepth 1000000
namespace Go.Proofs.YtbllpnjappddeaaGreat.Den
theorem unsRun57 : unsRun 57 = true := by decide +kernel
theorem unsRun58 : unsRun 58 = true := by decide +kernel
theorem unsRun59 : unsRun 59 = true := by decide +kernel
theorem unsRun60 : unsRun 60 = true := by decide +kernel
end Go.Proofs.YtbllpnjappddeaaGreat.Den
