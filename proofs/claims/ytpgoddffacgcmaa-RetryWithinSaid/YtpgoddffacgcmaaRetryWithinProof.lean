/- RetryWithin answers true at any two whole numbers, in whatever memory; no condition. -/
import Derived.Test.YtpgoddffacgcmaaRetryWithin
import Derived.ProofKit
import Derived.Test.YtpgoddffacgcmaaLawPost
namespace Go.Proofs.Ytpgoddffacgcmaa
open Go.ChangeShapes Go.WideShapes Go.ChangeAt Go.RowKit

theorem within_law (a b : Int) (w : World) : Calls Try.prog 4 #[.int .i64 a, .int .i64 b] w fun e w' => e = .returned (.bool true) ∧ Below w.heap.size w w' :=
  Den.Sim.calls (Den.within_sim a b []) (I := fun _ _ => none) (.cons (.val _) (.cons (.val _) .nil)) (fun _ _ _ h => by cases h) rfl

theorem within_own : ownKnob Try.prog.godebug = none := by kernel_rfl

set_option maxRecDepth 100000 in
theorem within_lifted (os : Os) (started : os.Started) (H : Type) (enc : TypeId × Value → H) :
    ReturnsInHanded {} Try.checked os 4 .any (Rows.retryWithinSpec.pre6 enc Try.prog Try.f4 Rows.retryWithinRow.domain false) (Rows.retryWithinSpec.post enc Try.prog Try.f4 false true false false) := by
  refine returnsInHanded_of_change (C := Try.checked) within_own started (by kernel_rfl) Try.func4
    (ChangeSpec.witness6 (enc := enc) (C := Try.checked) false ⟨#[], #[.int .i64 0, .int .i64 0], []⟩ 8 (by kernel_rfl) (by kernel_rfl) (by kernel_rfl) (by kernel_rfl)) ?_
  intro W base args ds gs before hval0 hW hcnd _
  have hval : ∀ (j : Nat) t v, Try.f4.params[j]? = some t → args[j]? = some v → Value.okWide Try.prog W .any base t v := hval0
  have hW' := hW
  obtain ⟨p, q, hA0, hV, rfl, hfz, hnd⟩ := hW
  have hA : DataW.TrodAll enc Try.prog W 0 (fun _ => true) true Try.f4.params.toList args.toList ds p := hA0
  rw [Try.params4] at hA hval
  obtain ⟨v0, v1, d0, d1, p0, p1, rfl, rfl, rfl, h0, h1⟩ := trodAll_two hA
  obtain ⟨rfl, rfl⟩ := trodVars_none hV
  obtain ⟨a, rfl, rfl, rfl, wa⟩ := open_int Try.underlying3 (hval 0 3 v0 rfl rfl) h0
  obtain ⟨b, rfl, rfl, rfl, wb⟩ := open_int Try.underlying3 (hval 1 3 v1 rfl rfl) h1
  clear hA0 hval0
  simp only [List.append_nil] at hW'
  refine (within_law a b W).mono fun e W' ⟨he, hw⟩ => ?_
  exact ⟨_, he, law_post (tb := 4) hw rfl Try.underlying4 hW' rfl (fun _ _ => trodAll_mk2 (shut_int Try.underlying3 wa) (shut_int Try.underlying3 wb)) rfl⟩

theorem RetryWithin_holds : Rows.RetryWithinSaid :=
  OpenClaim.holds_of_wide 4 Try.f4 rfl rfl rfl rfl rfl rfl rfl ⟨rfl, rfl, rfl, rfl, rfl⟩ rfl rfl rfl rfl rfl (by kernel_rfl) Try.func4 (by kernel_rfl)
    (of_decide_eq_true (by kernel_rfl)) (by unfold Func.isWrapper; first | (rw [if_pos (by decide +kernel)]; kernel_rfl) | (rw [if_neg (by decide +kernel)]; exact ⟨rfl, rfl⟩))
    (fun os started H enc _ => within_lifted os started H enc)

end Go.Proofs.Ytpgoddffacgcmaa
