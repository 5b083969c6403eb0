/- ServerRemoved, run: texts of some lengths. -/
import Derived.Test.YtbllpnjappddeaaGreatKSvE
set_option linter.unusedVariables false
set_option linter.unusedSimpArgs false
set_option maxRecDepth 1000000
namespace Go.Proofs.YtbllpnjappddeaaGreat.Den
theorem remRun10 : remRun 10 = true := by decide +kernel
theorem remRun11 : remRun 11 = true := by decide +kernel
theorem remRun12 : remRun 12 = true := by decide +kernel
theorem remRun13 : remRun 13 = true := by decide +kernel
theorem remRun14 : remRun 14 = true := by decide +kernel
end Go.Proofs.YtbllpnjappddeaaGreat.Den
