/- ServerAnswers, run: one user, that may or may not. -/
import Derived.Test.YtbllpnjappddeaaGreatKSaB
set_option linter.unusedVariables false
set_option linter.unusedSimpArgs false
set_option maxRecDepth 1000000
namespace Go.Proofs.YtbllpnjappddeaaGreat.Den
theorem ansE31 : ansRun 3 true false (.im false 0 []) = true := by decide +kernel
theorem ansZ31 : ∀ k : Nat, ansRun 3 true true (.im false (k + 1) [.int .i64 (.var 2)]) = true := fun k => by kernel_rfl
theorem ansN31 : ∀ k : Nat, ansRun 3 true false (.im false (k + 1) [.int .i64 (.var 2)]) = true := fun k => by kernel_rfl
end Go.Proofs.YtbllpnjappddeaaGreat.Den
