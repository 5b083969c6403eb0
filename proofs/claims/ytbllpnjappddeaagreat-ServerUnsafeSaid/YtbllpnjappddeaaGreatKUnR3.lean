/- ServerUnsafe, run: texts of some lengths. -/
import Derived.Test.YtbllpnjappddeaaGreatKUnB
set_option linter.unusedVariables false
set_option linter.unusedSimpArgs false
set_option maxRecDepth 1000000
namespace Go.Proofs.YtbllpnjappddeaaGreat.Den
theorem unsRun13 : unsRun 13 = true := by decide +kernel
theorem unsRun14 : unsRun 14 = true := by decide +kernel
theorem unsRun15 : unsRun 15 = true := by decide +kernel
theorem unsRun16 : unsRun 16 = true := by decide +kernel
end Go.Proofs.YtbllpnjappddeaaGreat.Den
