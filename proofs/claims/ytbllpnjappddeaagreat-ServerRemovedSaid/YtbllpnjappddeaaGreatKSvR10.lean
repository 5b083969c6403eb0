/- ServerRemoved, run: texts of some lengths. -/
import Derived.Test.YtbllpnjappddeaaGreatKSvE
set_option linter.unusedVariables false
set_option linter.unusedSimpArgs false
set_option maxRecDepth 1000000
namespace Go.Proofs.YtbllpnjappddeaaGreat.Den
theorem remRun50 : remRun 50 = true := by decide +kernel
theorem remRun51 : remRun 51 = true := by decide +kernel
theorem remRun52 : remRun 52 = true := by decide +kernel
theorem remRun53 : remRun 53 = true := by decide +kernel
theorem remRun54 : remRun 54 = true := by decide +kernel
end Go.Proofs.YtbllpnjappddeaaGreat.Den
