/- ServerSubs, run at three more numbers. -/
import Derived.Test.YtijbnccphmfdkaaGreatKSbE
section
set_option maxRecDepth 1000000
namespace Go.Proofs.YtijbnccphmfdkaaGreat.Den
theorem subsRun3 : subsRun 3 = true := by decide +kernel
end Go.Proofs.YtijbnccphmfdkaaGreat.Den
end

section
set_option maxRecDepth 1000000
namespace Go.Proofs.YtijbnccphmfdkaaGreat.Den
theorem subsRun4 : subsRun 4 = true := by decide +kernel
end Go.Proofs.YtijbnccphmfdkaaGreat.Den
end

section
set_option maxRecDepth 1000000
namespace Go.Proofs.YtijbnccphmfdkaaGreat.Den
theorem subsRun5 : subsRun 5 = true := by decide +kernel
end Go.Proofs.YtijbnccphmfdkaaGreat.Den
end
