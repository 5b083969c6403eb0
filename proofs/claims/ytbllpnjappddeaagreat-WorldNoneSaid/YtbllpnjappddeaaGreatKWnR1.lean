/- WorldNone, run: texts of some lengths. -/
import Derived.Test.YtbllpnjappddeaaGreatKWnA
set_option linter.unusedVariables false
set_option linter.unusedSimpArgs false
set_option maxRecDepth 1000000
namespace Go.Proofs.YtbllpnjappddeaaGreat.Den
theorem noneAll6 : noneAll 6 = true := by decide +kernel
theorem noneAll7 : noneAll 7 = true := by decide +kernel
theorem noneAll8 : noneAll 8 = true := by decide +kernel
theorem noneAll9 : noneAll 9 = true := by decide +kernel
theorem noneAll10 : noneAll 10 = true := by decide +kernel
theorem noneAll11 : noneAll 11 = true := by decide +kernel
end Go.Proofs.YtbllpnjappddeaaGreat.Den
