/- ServerRemoved, run: texts of some lengths. -/
import Derived.Test.YtbllpnjappddeaaGreatKSvE
set_option linter.unusedVariables false
set_option linter.unusedSimpArgs false
set_option maxRecDepth 1000000
namespace Go.Proofs.YtbllpnjappddeaaGreat.Den
theorem remRun5 : remRun 5 = true := by decide +kernel
theorem remRun6 : remRun 6 = true := by decide +kernel
theorem remRun7 : remRun 7 = true := by decide +kernel
theorem remRun8 : remRun 8 = true := by decide +kernel
theorem remRun9 : remRun 9 = true := by decide +kernel
end Go.Proofs.YtbllpnjappddeaaGreat.Den
