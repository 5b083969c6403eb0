/- Known calls: checked. -/
import Derived.Test.YtijbnccphmfdkaaGreatKPtA
set_option maxRecDepth 1000000
namespace Go.Proofs.YtijbnccphmfdkaaGreat.Den
open Go

theorem pz0_ok : pzOK callP pz0 = true := by decide +kernel
theorem pz1_ok : pzOK callP pz1 = true := by decide +kernel

end Go.Proofs.YtijbnccphmfdkaaGreat.Den
