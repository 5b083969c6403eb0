/- A pair of servers, known. -/
import Derived.Test.YtijbnccphmfdkaaGreatKPtB
import Derived.Test.YtijbnccphmfdkaaGreatKPtC
import Derived.Test.YtijbnccphmfdkaaGreatKPtD
import Derived.Test.YtijbnccphmfdkaaGreatKPtE
set_option maxRecDepth 1000000
namespace Go.Proofs.YtijbnccphmfdkaaGreat.Den
open Go

/-- The known calls of package server. -/
noncomputable def ptsS : List PZ := [pz0, pz1, pz2, pz3, pz4, pz5, pz6]
theorem ptsS_hold (ρ : Vals) : ∀ p ∈ ptsS, p.Holds Tryz.prog ρ := by
  unfold ptsS
  exact holds_cons (pz_holds pz0_ok (callP_ok ρ)) (holds_cons (pz_holds pz1_ok (callP_ok ρ)) (holds_cons (pz_holds pz2_ok (callP_ok ρ)) (holds_cons (pz_holds pz3_ok (callP_ok ρ)) (holds_cons (pz_holds pz4_ok (callP_ok ρ)) (holds_cons (pz_holds pz5_ok (callP_ok ρ)) (holds_cons (pz_holds pz6_ok (callP_ok ρ)) (holds_nil)))))))
noncomputable def callV : SCall := callZ [18, 25, 28] ptsS
theorem callV_ok (ρ : Vals) : SCallOK Tryz.prog ρ callV := callZ_ok ρ (ptsS_hold ρ)
theorem pzPair_ok : pzOK callV pzPair = true := by decide +kernel
theorem pair_holds (ρ : Vals) : pzPair.Holds Tryz.prog ρ := pz_holds pzPair_ok (callV_ok ρ)

end Go.Proofs.YtijbnccphmfdkaaGreat.Den
