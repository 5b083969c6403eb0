/- WorldNone, run: texts of some lengths. -/
import Derived.Test.YtbllpnjappddeaaGreatKWnA
set_option linter.unusedVariables false
set_option linter.unusedSimpArgs false
set_option maxRecDepth 1000000
namespace Go.Proofs.YtbllpnjappddeaaGreat.Den
theorem noneAll30 : noneAll 30 = true := by decide +kernel
theorem noneAll31 : noneAll 31 = true := by decide +kernel
theorem noneAll32 : noneAll 32 = true := by decide +kernel
theorem noneAll33 : noneAll 33 = true := by decide +kernel
theorem noneAll34 : noneAll 34 = true := by decide +kernel
theorem noneAll35 : noneAll 35 = true := by decide +kernel
end Go.Proofs.YtbllpnjappddeaaGreat.Den
