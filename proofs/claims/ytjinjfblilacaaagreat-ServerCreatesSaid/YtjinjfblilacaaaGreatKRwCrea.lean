/- The closed facts of the row of ServerCreates. -/
import Derived.Test.YtjinjfblilacaaaGreatRows
import Derived.ProofKit
set_option linter.unusedVariables false
set_option linter.unusedSimpArgs false
set_option maxRecDepth 100000
namespace Go.Proofs.YtjinjfblilacaaaGreat
open Go.ChangeShapes Go.WideShapes Go.ChangeAt Go.RowKit
theorem serverCreates_and {a b : Bool} (h : a = true) (k : b = true) : (a && b) = true := by rw [h, k]; rfl
set_option maxHeartbeats 0 in
theorem serverCreates_closed : joinedFacts Tryz.checked.prog 3 Tryz.f3 Rows.serverCreatesSpec Rows.serverCreatesRow = true := by
  unfold joinedFacts
  repeat' with_reducible apply serverCreates_and
  all_goals (as_aux_lemma => kernel_rfl)
end Go.Proofs.YtjinjfblilacaaaGreat
