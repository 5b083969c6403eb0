/- ServerRemoved, run: texts of some lengths. -/
import Derived.Test.YtbllpnjappddeaaGreatKSvE
set_option linter.unusedVariables false
set_option linter.unusedSimpArgs false
set_option maxRecDepth 1000000
namespace Go.Proofs.YtbllpnjappddeaaGreat.Den
theorem remRun40 : remRun 40 = true := by decide +kernel
theorem remRun41 : remRun 41 = true := by decide +kernel
theorem remRun42 : remRun 42 = true := by decide +kernel
theorem remRun43 : remRun 43 = true := by decide +kernel
theorem remRun44 : remRun 44 = true := by decide +kernel
end Go.Proofs.YtbllpnjappddeaaGreat.Den
