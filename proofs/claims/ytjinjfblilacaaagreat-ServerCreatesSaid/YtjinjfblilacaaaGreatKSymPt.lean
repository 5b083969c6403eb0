/- The plans of all regions of this program whose order is open: a table, checked. -/
import Derived.Test.YtjinjfblilacaaaGreatKRsO
set_option linter.unusedVariables false
set_option linter.unusedSimpArgs false
set_option linter.unusedSimpArgs false
set_option maxRecDepth 1000000
namespace Go.Proofs.YtjinjfblilacaaaGreat.Den
end Go.Proofs.YtjinjfblilacaaaGreat.Den
