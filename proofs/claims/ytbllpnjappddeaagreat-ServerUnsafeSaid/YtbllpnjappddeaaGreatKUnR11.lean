/- ServerUnsafe, run: texts of some lengths. -/
import Derived.Test.YtbllpnjappddeaaGreatKUnB
set_option linter.unusedVariables false
set_option linter.unusedSimpArgs false
set_option maxRecDepth 1000000
namespace Go.Proofs.YtbllpnjappddeaaGreat.Den
theorem unsRun45 : unsRun 45 = true := by decide +kernel
theorem unsRun46 : unsRun 46 = true := by decide +kernel
theorem unsRun47 : unsRun 47 = true := by decide +kernel
theorem unsRun48 : unsRun 48 = true := by decide +kernel
end Go.Proofs.YtbllpnjappddeaaGreat.Den
