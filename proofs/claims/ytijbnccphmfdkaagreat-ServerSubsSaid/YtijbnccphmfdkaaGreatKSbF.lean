/- ServerSubs, run at three numbers. -/
import Derived.Test.YtijbnccphmfdkaaGreatKSbE
section
set_option maxRecDepth 1000000
namespace Go.Proofs.YtijbnccphmfdkaaGreat.Den
theorem subsRun0 : subsRun 0 = true := by decide +kernel
end Go.Proofs.YtijbnccphmfdkaaGreat.Den
end

section
set_option maxRecDepth 1000000
namespace Go.Proofs.YtijbnccphmfdkaaGreat.Den
theorem subsRun1 : subsRun 1 = true := by decide +kernel
end Go.Proofs.YtijbnccphmfdkaaGreat.Den
end

section
set_option maxRecDepth 1000000
namespace Go.Proofs.YtijbnccphmfdkaaGreat.Den
theorem subsRun2 : subsRun 2 = true := by decide +kernel
end Go.Proofs.YtijbnccphmfdkaaGreat.Den
end
