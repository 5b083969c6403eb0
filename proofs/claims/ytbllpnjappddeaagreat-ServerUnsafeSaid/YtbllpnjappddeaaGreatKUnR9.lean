/- ServerUnsafe, run: texts of some lengths. -/
import Derived.Test.YtbllpnjappddeaaGreatKUnB
set_option linter.unusedVariables false
set_option linter.unusedSimpArgs false
set_option maxRecDepth 1000000
namespace Go.Proofs.YtbllpnjappddeaaGreat.Den
theorem unsRun37 : unsRun 37 = true := by decide +kernel
theorem unsRun38 : unsRun 38 = true := by decide +kernel
theorem unsRun39 : unsRun 39 = true := by decide +kernel
theorem unsRun40 : unsRun 40 = true := by decide +kernel
end Go.Proofs.YtbllpnjappddeaaGreat.Den
