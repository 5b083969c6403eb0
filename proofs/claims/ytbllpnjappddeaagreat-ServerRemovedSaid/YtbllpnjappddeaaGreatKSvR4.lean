/- ServerRemoved, run: texts of some lengths. -/
import Derived.Test.YtbllpnjappddeaaGreatKSvE
set_option linter.unusedVariables false
set_option linter.unusedSimpArgs false
set_option maxRecDepth 1000000
namespace Go.Proofs.YtbllpnjappddeaaGreat.Den
theorem remRun20 : remRun 20 = true := by decide +kernel
theorem remRun21 : remRun 21 = true := by decide +kernel
theorem remRun22 : remRun 22 = true := by decide +kernel
theorem remRun23 : remRun 23 = true := by decide +kernel
theorem remRun24 : remRun 24 = true := by decide +kernel
end Go.Proofs.YtbllpnjappddeaaGreat.Den
