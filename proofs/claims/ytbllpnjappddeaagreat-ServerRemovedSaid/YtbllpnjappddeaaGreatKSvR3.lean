/- ServerRemoved, run: texts of some lengths. -/
import Derived.Test.YtbllpnjappddeaaGreatKSvE
set_option linter.unusedVariables false
set_option linter.unusedSimpArgs false
set_option maxRecDepth 1000000
namespace Go.Proofs.YtbllpnjappddeaaGreat.Den
theorem remRun15 : remRun 15 = true := by decide +kernel
theorem remRun16 : remRun 16 = true := by decide +kernel
theorem remRun17 : remRun 17 = true := by decide +kernel
theorem remRun18 : remRun 18 = true := by decide +kernel
theorem remRun19 : remRun 19 = true := by decide +kernel
end Go.Proofs.YtbllpnjappddeaaGreat.Den
