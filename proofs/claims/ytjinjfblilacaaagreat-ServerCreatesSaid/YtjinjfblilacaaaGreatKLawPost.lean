/- What a law's row asks behind a call that answered true and left all old memory alone. -/
import Derived.Test.YtjinjfblilacaaaGreatRows
import Derived.Below
import Derived.ProofKit
set_option linter.unusedVariables false
set_option linter.unusedSimpArgs false
namespace Go.Proofs.YtjinjfblilacaaaGreat
open Go.ChangeShapes Go.WideShapes Go.ChangeAt Go.RowKit
end Go.Proofs.YtjinjfblilacaaaGreat
