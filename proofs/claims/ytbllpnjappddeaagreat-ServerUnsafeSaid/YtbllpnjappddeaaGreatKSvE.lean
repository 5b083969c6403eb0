/- Known calls of a domain, for the executor; ServerRemoved, run with a text of so many bytes. -/
import Derived.Test.YtbllpnjappddeaaGreatKSvB
import Derived.Test.YtbllpnjappddeaaGreatKSvC
import Derived.Test.YtbllpnjappddeaaGreatKSvD
set_option linter.unusedVariables false
set_option linter.unusedSimpArgs false
set_option linter.unusedSimpArgs false
set_option linter.unusedVariables false
set_option maxRecDepth 1000000
namespace Go.Proofs.YtbllpnjappddeaaGreat.Den
open Go.RowKit
variable {ρ : Vals}
noncomputable def callV0 : SCall := qcall [] ovrX0
theorem callV0_ok (hρ : ρ.f = shaF) : SCallOK Tryz.prog ρ callV0 := qcall_ok FOk.nil (ovrX0_ok hρ)
theorem sv_fit (hρ : ρ.f = shaF) : ∀ p ∈ [sv0, sv1, sv2], p.Fit Tryz.prog ρ := fun p hp => by
 simp only [List.mem_cons, List.not_mem_nil, or_false] at hp
 rcases hp with rfl | rfl | rfl
 ·exact ⟨⟨pz_holds sv0_ok (callV0_ok hρ), sv0_f⟩, by decide +kernel⟩
 ·exact ⟨⟨pz_holds sv1_ok (callV0_ok hρ), sv1_f⟩, by decide +kernel⟩
 ·exact ⟨⟨pz_holds sv2_ok (callV0_ok hρ), sv2_f⟩, by decide +kernel⟩
noncomputable def ovrV1 : FuncId -> Option (List SV -> Mem -> SRes) := ovrSh callV0 [18, 19, 20] [sv0, sv1, sv2] ovrX0
theorem ovrV1_ok (hρ : ρ.f = shaF) : OvrOK Tryz.prog ρ ovrV1 := ovrSh_ok (callV0_ok hρ) (sv_fit hρ) (ovrX0_ok hρ)
noncomputable def remRun (n : Nat) : Bool := isTrue (qcall [] ovrV1 4 [.str (ubytes n 0)] ⟨0, .nil⟩)
theorem rem_of {n : Nat} (h : remRun n = true) (s : ByteArray) (hs : s.size = n) : ∃ H', Sim Tryz.prog 4 [.val (.string s)] [] (fun _ => none) (.val (.bool true)) H' := by
 let ρ : Vals := ⟨fun _ => 0, fun k => s.data.toList.getD k 0, shaF⟩
 have e : s = strOf ρ (ubytes n 0) := by rw [<- hs, strOf_ubytes s fun k _ => rfl]
 refine true_of_runs (ρ := ρ) (qcall_ok FOk.nil (ovrV1_ok rfl)) (xs := [.val (.string s)]) ?_ h
 conv => rhs; rw [e]
 exact .cons (.str _) .nil
end Go.Proofs.YtbllpnjappddeaaGreat.Den
