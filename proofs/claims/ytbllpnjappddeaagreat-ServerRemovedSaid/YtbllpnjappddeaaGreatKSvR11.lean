/- ServerRemoved, run: texts of some lengths. -/
import Derived.Test.YtbllpnjappddeaaGreatKSvE
set_option linter.unusedVariables false
set_option linter.unusedSimpArgs false
set_option maxRecDepth 1000000
namespace Go.Proofs.YtbllpnjappddeaaGreat.Den
theorem remRun55 : remRun 55 = true := by decide +kernel
theorem remRun56 : remRun 56 = true := by decide +kernel
theorem remRun57 : remRun 57 = true := by decide +kernel
theorem remRun58 : remRun 58 = true := by decide +kernel
theorem remRun59 : remRun 59 = true := by decide +kernel
end Go.Proofs.YtbllpnjappddeaaGreat.Den
