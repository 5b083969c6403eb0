/- WorldNone, run: texts of some lengths. -/
import Derived.Test.YtbllpnjappddeaaGreatKWnA
set_option linter.unusedVariables false
set_option linter.unusedSimpArgs false
set_option maxRecDepth 1000000
namespace Go.Proofs.YtbllpnjappddeaaGreat.Den
theorem noneAll48 : noneAll 48 = true := by decide +kernel
theorem noneAll49 : noneAll 49 = true := by decide +kernel
theorem noneAll50 : noneAll 50 = true := by decide +kernel
end Go.Proofs.YtbllpnjappddeaaGreat.Den
