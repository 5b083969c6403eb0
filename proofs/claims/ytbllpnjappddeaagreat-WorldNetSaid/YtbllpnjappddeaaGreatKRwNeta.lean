/- The closed facts of the row of WorldNet. -/
import Derived.Test.YtbllpnjappddeaaGreatRows
import Derived.ProofKit
set_option maxRecDepth 100000
namespace Go.Proofs.YtbllpnjappddeaaGreat
open Go.ChangeShapes Go.WideShapes Go.ChangeAt Go.RowKit
theorem worldNet_and {a b : Bool} (h : a = true) (k : b = true) : (a && b) = true := by rw [h, k]; rfl
set_option maxHeartbeats 0 in
theorem worldNet_closed : joinedFacts Tryz.checked.prog 8 Tryz.f8 Rows.worldNetSpec Rows.worldNetRow = true := by
  unfold joinedFacts
  repeat' with_reducible apply worldNet_and
  all_goals (as_aux_lemma => kernel_rfl)
end Go.Proofs.YtbllpnjappddeaaGreat
