/- Three users at a wavelet, known: what Start leaves, wherever it is called. -/
import Derived.Test.YtbllpnjappddeaaGreatKWjB
import Derived.Test.YtbllpnjappddeaaGreatKWjC
import Derived.Test.YtbllpnjappddeaaGreatKWjD
import Derived.Test.YtbllpnjappddeaaGreatKWjE
import Derived.Test.YtbllpnjappddeaaGreatKLrA
set_option linter.unusedVariables false
set_option linter.unusedSimpArgs false
set_option maxRecDepth 1000000
namespace Go.Proofs.YtbllpnjappddeaaGreat.Den
theorem wj0_f : okF wj0 = true := by decide +kernel
theorem wj1_f : okF wj1 = true := by decide +kernel
theorem wj2_f : okF wj2 = true := by decide +kernel
theorem wj3_f : okF wj3 = true := by decide +kernel
theorem wj4_f : okF wj4 = true := by decide +kernel
noncomputable def ptsT : List PZ := [wj0, wj1, wj2, wj3]
theorem ptsT_good (ρ : Vals) : ∀ p ∈ ptsT, p.Good Tryz.prog ρ := by
 unfold ptsT
 exact good_cons ⟨pz_holds wj0_ok (callQ_ok ρ), wj0_f⟩ (good_cons ⟨pz_holds wj1_ok (callQ_ok ρ), wj1_f⟩ (good_cons ⟨pz_holds wj2_ok (callQ_ok ρ), wj2_f⟩ (good_cons ⟨pz_holds wj3_ok (callQ_ok ρ), wj3_f⟩ good_nil)))
noncomputable def callT3 : SCall := qcall [] (ovrF callQ [33, 115] ptsT ovrW)
theorem callT3_ok (ρ : Vals) : SCallOK Tryz.prog ρ callT3 := qcall_ok FOk.nil (ovrF_ok (callQ_ok ρ) (ptsT_good ρ) (ovrW_ok ρ))
theorem wj4_ok : pzOK callT3 wj4 = true := by decide +kernel
theorem start_fit (ρ : Vals) : wj4.Fit Tryz.prog ρ := ⟨⟨pz_holds wj4_ok (callT3_ok ρ), wj4_f⟩, rfl⟩
end Go.Proofs.YtbllpnjappddeaaGreat.Den
