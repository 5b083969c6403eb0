/- WorldNone, run: texts of some lengths. -/
import Derived.Test.YtbllpnjappddeaaGreatKWnA
set_option linter.unusedVariables false
set_option linter.unusedSimpArgs false
set_option maxRecDepth 1000000
namespace Go.Proofs.YtbllpnjappddeaaGreat.Den
theorem noneAll18 : noneAll 18 = true := by decide +kernel
theorem noneAll19 : noneAll 19 = true := by decide +kernel
theorem noneAll20 : noneAll 20 = true := by decide +kernel
theorem noneAll21 : noneAll 21 = true := by decide +kernel
theorem noneAll22 : noneAll 22 = true := by decide +kernel
theorem noneAll23 : noneAll 23 = true := by decide +kernel
end Go.Proofs.YtbllpnjappddeaaGreat.Den
