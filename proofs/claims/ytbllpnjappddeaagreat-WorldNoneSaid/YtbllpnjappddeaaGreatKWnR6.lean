/- WorldNone, run: texts of some lengths. -/
import Derived.Test.YtbllpnjappddeaaGreatKWnA
set_option linter.unusedVariables false
set_option linter.unusedSimpArgs false
set_option maxRecDepth 1000000
namespace Go.Proofs.YtbllpnjappddeaaGreat.Den
theorem noneAll36 : noneAll 36 = true := by decide +kernel
theorem noneAll37 : noneAll 37 = true := by decide +kernel
theorem noneAll38 : noneAll 38 = true := by decide +kernel
theorem noneAll39 : noneAll 39 = true := by decide +kernel
theorem noneAll40 : noneAll 40 = true := by decide +kernel
theorem noneAll41 : noneAll 41 = true := by decide +kernel
end Go.Proofs.YtbllpnjappddeaaGreat.Den
