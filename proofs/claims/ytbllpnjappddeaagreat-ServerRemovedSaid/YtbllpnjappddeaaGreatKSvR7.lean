/- ServerRemoved, run: texts of some lengths. -/
import Derived.Test.YtbllpnjappddeaaGreatKSvE
set_option linter.unusedVariables false
set_option linter.unusedSimpArgs false
set_option maxRecDepth 1000000
namespace Go.Proofs.YtbllpnjappddeaaGreat.Den
theorem remRun35 : remRun 35 = true := by decide +kernel
theorem remRun36 : remRun 36 = true := by decide +kernel
theorem remRun37 : remRun 37 = true := by decide +kernel
theorem remRun38 : remRun 38 = true := by decide +kernel
theorem remRun39 : remRun 39 = true := by decide +kernel
end Go.Proofs.YtbllpnjappddeaaGreat.Den
