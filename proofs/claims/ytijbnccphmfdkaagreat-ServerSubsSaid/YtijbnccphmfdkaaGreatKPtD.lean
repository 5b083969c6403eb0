/- Known calls: checked. -/
import Derived.Test.YtijbnccphmfdkaaGreatKPtA
set_option maxRecDepth 1000000
namespace Go.Proofs.YtijbnccphmfdkaaGreat.Den
open Go

theorem pz5_ok : pzOK callP pz5 = true := by decide +kernel

end Go.Proofs.YtijbnccphmfdkaaGreat.Den
