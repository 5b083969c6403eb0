/- Known calls: checked. -/
import Derived.Test.YtijbnccphmfdkaaGreatKPtA
set_option maxRecDepth 1000000
namespace Go.Proofs.YtijbnccphmfdkaaGreat.Den
open Go

theorem pz3_ok : pzOK callP pz3 = true := by decide +kernel
theorem pz4_ok : pzOK callP pz4 = true := by decide +kernel
theorem pz6_ok : pzOK callP pz6 = true := by decide +kernel

end Go.Proofs.YtijbnccphmfdkaaGreat.Den
