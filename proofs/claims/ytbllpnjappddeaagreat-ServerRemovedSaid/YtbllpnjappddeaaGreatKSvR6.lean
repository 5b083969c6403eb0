/- ServerRemoved, run: texts of some lengths. -/
import Derived.Test.YtbllpnjappddeaaGreatKSvE
set_option linter.unusedVariables false
set_option linter.unusedSimpArgs false
set_option maxRecDepth 1000000
namespace Go.Proofs.YtbllpnjappddeaaGreat.Den
theorem remRun30 : remRun 30 = true := by decide +kernel
theorem remRun31 : remRun 31 = true := by decide +kernel
theorem remRun32 : remRun 32 = true := by decide +kernel
theorem remRun33 : remRun 33 = true := by decide +kernel
theorem remRun34 : remRun 34 = true := by decide +kernel
end Go.Proofs.YtbllpnjappddeaaGreat.Den
