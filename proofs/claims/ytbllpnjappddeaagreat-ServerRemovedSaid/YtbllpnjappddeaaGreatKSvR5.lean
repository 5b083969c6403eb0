/- ServerRemoved, run: texts of some lengths. -/
import Derived.Test.YtbllpnjappddeaaGreatKSvE
set_option linter.unusedVariables false
set_option linter.unusedSimpArgs false
set_option maxRecDepth 1000000
namespace Go.Proofs.YtbllpnjappddeaaGreat.Den
theorem remRun25 : remRun 25 = true := by decide +kernel
theorem remRun26 : remRun 26 = true := by decide +kernel
theorem remRun27 : remRun 27 = true := by decide +kernel
theorem remRun28 : remRun 28 = true := by decide +kernel
theorem remRun29 : remRun 29 = true := by decide +kernel
end Go.Proofs.YtbllpnjappddeaaGreat.Den
