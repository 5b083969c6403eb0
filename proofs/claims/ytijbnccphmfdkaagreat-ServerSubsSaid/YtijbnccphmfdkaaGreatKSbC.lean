/- Known calls of ServerSubs: checked. -/
import Derived.Test.YtijbnccphmfdkaaGreatKSbA
set_option maxRecDepth 1000000
namespace Go.Proofs.YtijbnccphmfdkaaGreat.Den
open Go

theorem sb6_ok : pzOK callP sb6 = true := by decide +kernel
theorem sb7_ok : pzOK callP sb7 = true := by decide +kernel
theorem sb8_ok : pzOK callP sb8 = true := by decide +kernel
theorem sb9_ok : pzOK callP sb9 = true := by decide +kernel
theorem sb10_ok : pzOK callP sb10 = true := by decide +kernel
theorem sb11_ok : pzOK callP sb11 = true := by decide +kernel

end Go.Proofs.YtijbnccphmfdkaaGreat.Den
