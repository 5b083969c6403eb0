/- Known calls of ServerSubs: checked. -/
import Derived.Test.YtijbnccphmfdkaaGreatKSbA
set_option maxRecDepth 1000000
namespace Go.Proofs.YtijbnccphmfdkaaGreat.Den
open Go

theorem sb0_ok : pzOK callP sb0 = true := by decide +kernel
theorem sb1_ok : pzOK callP sb1 = true := by decide +kernel
theorem sb2_ok : pzOK callP sb2 = true := by decide +kernel
theorem sb3_ok : pzOK callP sb3 = true := by decide +kernel
theorem sb4_ok : pzOK callP sb4 = true := by decide +kernel
theorem sb5_ok : pzOK callP sb5 = true := by decide +kernel

end Go.Proofs.YtijbnccphmfdkaaGreat.Den
