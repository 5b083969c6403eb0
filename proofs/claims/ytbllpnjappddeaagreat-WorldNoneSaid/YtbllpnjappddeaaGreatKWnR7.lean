/- WorldNone, run: texts of some lengths. -/
import Derived.Test.YtbllpnjappddeaaGreatKWnA
set_option linter.unusedVariables false
set_option linter.unusedSimpArgs false
set_option maxRecDepth 1000000
namespace Go.Proofs.YtbllpnjappddeaaGreat.Den
theorem noneAll42 : noneAll 42 = true := by decide +kernel
theorem noneAll43 : noneAll 43 = true := by decide +kernel
theorem noneAll44 : noneAll 44 = true := by decide +kernel
theorem noneAll45 : noneAll 45 = true := by decide +kernel
theorem noneAll46 : noneAll 46 = true := by decide +kernel
theorem noneAll47 : noneAll 47 = true := by decide +kernel
end Go.Proofs.YtbllpnjappddeaaGreat.Den
