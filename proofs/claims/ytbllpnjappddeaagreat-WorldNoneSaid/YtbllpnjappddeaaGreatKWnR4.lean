/- WorldNone, run: texts of some lengths. -/
import Derived.Test.YtbllpnjappddeaaGreatKWnA
set_option linter.unusedVariables false
set_option linter.unusedSimpArgs false
set_option maxRecDepth 1000000
namespace Go.Proofs.YtbllpnjappddeaaGreat.Den
theorem noneAll24 : noneAll 24 = true := by decide +kernel
theorem noneAll25 : noneAll 25 = true := by decide +kernel
theorem noneAll26 : noneAll 26 = true := by decide +kernel
theorem noneAll27 : noneAll 27 = true := by decide +kernel
theorem noneAll28 : noneAll 28 = true := by decide +kernel
theorem noneAll29 : noneAll 29 = true := by decide +kernel
end Go.Proofs.YtbllpnjappddeaaGreat.Den
