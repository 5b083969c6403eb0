/- A known call of a domain: checked. -/
import Derived.Test.YtbllpnjappddeaaGreatKSvA
set_option linter.unusedVariables false
set_option linter.unusedSimpArgs false
set_option maxRecDepth 1000000
namespace Go.Proofs.YtbllpnjappddeaaGreat.Den
theorem sv2_ok : pzOK (qcall [] ovrX0) sv2 = true := by decide +kernel
theorem sv2_f : okF sv2 = true := by decide +kernel
end Go.Proofs.YtbllpnjappddeaaGreat.Den
