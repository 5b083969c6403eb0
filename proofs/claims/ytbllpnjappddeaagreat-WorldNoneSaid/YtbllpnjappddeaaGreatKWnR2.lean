/- WorldNone, run: texts of some lengths. -/
import Derived.Test.YtbllpnjappddeaaGreatKWnA
set_option linter.unusedVariables false
set_option linter.unusedSimpArgs false
set_option maxRecDepth 1000000
namespace Go.Proofs.YtbllpnjappddeaaGreat.Den
theorem noneAll12 : noneAll 12 = true := by decide +kernel
theorem noneAll13 : noneAll 13 = true := by decide +kernel
theorem noneAll14 : noneAll 14 = true := by decide +kernel
theorem noneAll15 : noneAll 15 = true := by decide +kernel
theorem noneAll16 : noneAll 16 = true := by decide +kernel
theorem noneAll17 : noneAll 17 = true := by decide +kernel
end Go.Proofs.YtbllpnjappddeaaGreat.Den
