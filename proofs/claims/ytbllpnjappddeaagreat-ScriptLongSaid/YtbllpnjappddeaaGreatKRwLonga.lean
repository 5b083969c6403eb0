/- The closed facts of the row of ScriptLong. -/
import Derived.Test.YtbllpnjappddeaaGreatRows
import Derived.ProofKit
set_option linter.unusedVariables false
set_option linter.unusedSimpArgs false
set_option maxRecDepth 100000
namespace Go.Proofs.YtbllpnjappddeaaGreat
open Go.ChangeShapes Go.WideShapes Go.ChangeAt Go.RowKit
theorem scriptLong_and {a b : Bool} (h : a = true) (k : b = true) : (a && b) = true := by rw [h, k]; rfl
set_option maxHeartbeats 0 in
theorem scriptLong_closed : joinedFacts Tryz.checked.prog 10 Tryz.f10 Rows.scriptLongSpec Rows.scriptLongRow = true := by
  unfold joinedFacts
  repeat' with_reducible apply scriptLong_and
  all_goals (as_aux_lemma => kernel_rfl)
end Go.Proofs.YtbllpnjappddeaaGreat
