/- ServerRemoved, run: texts of some lengths. -/
import Derived.Test.YtbllpnjappddeaaGreatKSvE
set_option linter.unusedVariables false
set_option linter.unusedSimpArgs false
set_option maxRecDepth 1000000
namespace Go.Proofs.YtbllpnjappddeaaGreat.Den
theorem remRun45 : remRun 45 = true := by decide +kernel
theorem remRun46 : remRun 46 = true := by decide +kernel
theorem remRun47 : remRun 47 = true := by decide +kernel
theorem remRun48 : remRun 48 = true := by decide +kernel
theorem remRun49 : remRun 49 = true := by decide +kernel
end Go.Proofs.YtbllpnjappddeaaGreat.Den
