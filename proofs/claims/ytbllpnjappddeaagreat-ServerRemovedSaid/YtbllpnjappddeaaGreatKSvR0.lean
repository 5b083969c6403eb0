/- ServerRemoved, run: texts of some lengths. -/
import Derived.Test.YtbllpnjappddeaaGreatKSvE
set_option linter.unusedVariables false
set_option linter.unusedSimpArgs false
set_option maxRecDepth 1000000
namespace Go.Proofs.YtbllpnjappddeaaGreat.Den
theorem remRun0 : remRun 0 = true := by decide +kernel
theorem remRun1 : remRun 1 = true := by decide +kernel
theorem remRun2 : remRun 2 = true := by decide +kernel
theorem remRun3 : remRun 3 = true := by decide +kernel
theorem remRun4 : remRun 4 = true := by decide +kernel
end Go.Proofs.YtbllpnjappddeaaGreat.Den
