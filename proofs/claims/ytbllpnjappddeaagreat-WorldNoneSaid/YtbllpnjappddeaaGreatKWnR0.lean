/- WorldNone, run: texts of some lengths. -/
import Derived.Test.YtbllpnjappddeaaGreatKWnA
set_option linter.unusedVariables false
set_option linter.unusedSimpArgs false
set_option maxRecDepth 1000000
namespace Go.Proofs.YtbllpnjappddeaaGreat.Den
theorem noneAll0 : noneAll 0 = true := by decide +kernel
theorem noneAll1 : noneAll 1 = true := by decide +kernel
theorem noneAll2 : noneAll 2 = true := by decide +kernel
theorem noneAll3 : noneAll 3 = true := by decide +kernel
theorem noneAll4 : noneAll 4 = true := by decide +kernel
theorem noneAll5 : noneAll 5 = true := by decide +kernel
end Go.Proofs.YtbllpnjappddeaaGreat.Den
