/- Known calls of ServerSubs: checked. -/
import Derived.Test.YtijbnccphmfdkaaGreatKSbA
set_option maxRecDepth 1000000
namespace Go.Proofs.YtijbnccphmfdkaaGreat.Den
open Go

theorem sb12_ok : pzOK callP sb12 = true := by decide +kernel
theorem sb13_ok : pzOK callP sb13 = true := by decide +kernel
theorem sb14_ok : pzOK callP sb14 = true := by decide +kernel
theorem sb15_ok : pzOK callP sb15 = true := by decide +kernel
theorem sb16_ok : pzOK callP sb16 = true := by decide +kernel
theorem sb17_ok : pzOK callP sb17 = true := by decide +kernel

end Go.Proofs.YtijbnccphmfdkaaGreat.Den
