/- Known calls: checked. -/
import Derived.Test.YtijbnccphmfdkaaGreatKPtA
set_option maxRecDepth 1000000
namespace Go.Proofs.YtijbnccphmfdkaaGreat.Den
open Go

theorem pz2_ok : pzOK callP pz2 = true := by decide +kernel

end Go.Proofs.YtijbnccphmfdkaaGreat.Den
