/- ServerRemoved answers true at all arguments, in whatever memory; no condition. -/
import Derived.Test.YtbllpnjappddeaaGreatKSvG
import Derived.Test.YtbllpnjappddeaaGreatKRwRemoveda
import Derived.Test.YtbllpnjappddeaaGreatKLrA
import Derived.ShutString
import Derived.Carry
set_option linter.unusedVariables false
set_option linter.unusedSimpArgs false
set_option linter.unusedSimpArgs false
set_option linter.unusedVariables false
namespace Go.Proofs.YtbllpnjappddeaaGreat
open Go.ChangeShapes Go.WideShapes Go.ChangeAt Go.RowKit
theorem serverRemoved_law (a0 : ByteArray) (w : World) : Calls Tryz.prog 4 #[.string a0] w fun e w' => e = .returned (.bool true) /\ Below w.heap.size w w' := by
 obtain ⟨H', h⟩ := Den.removed_sim a0
 exact Den.Sim.calls h (I := fun _ _ => none) (.cons (.val _) .nil) (fun _ _ _ h => by cases h) rfl
theorem serverRemoved_own : ownKnob Tryz.prog.godebug = none := by kernel_rfl
set_option maxRecDepth 100000 in
theorem serverRemoved_lifted (os : Os) (started : os.Started) (H : Type) (enc : TypeId × Value -> H) :
  ReturnsInHanded {} Tryz.checked os 4 .any (Rows.serverRemovedSpec.pre6 enc Tryz.prog Tryz.f4 Rows.serverRemovedRow.domain false) (Rows.serverRemovedSpec.post enc Tryz.prog Tryz.f4 false true false false) := by
 refine returnsInHanded_of_change (C := Tryz.checked) serverRemoved_own started (by kernel_rfl) Tryz.func4
  (ChangeSpec.witness6 (enc := enc) (C := Tryz.checked) false ⟨#[], #[.string .empty], []⟩ 8 (by kernel_rfl) (by kernel_rfl) (by kernel_rfl) (by kernel_rfl)) ?_
 intro W base args ds gs before hval0 hW hcnd _
 have hval : ∀ (j : Nat) t v, Tryz.f4.params[j]? = some t -> args[j]? = some v -> Value.okWide Tryz.prog W .any base t v := hval0
 have hW' := hW
 obtain ⟨p, q, hA0, hV, rfl, hfz, hnd⟩ := hW
 have hA : DataW.TrodAll enc Tryz.prog W 0 (fun _ => true) true Tryz.f4.params.toList args.toList ds p := hA0
 rw [Tryz.params4] at hA hval
 obtain ⟨v0, d0, rfl, rfl, h0⟩ := trodAll_one hA
 obtain ⟨rfl, rfl⟩ := trodVars_none hV
 obtain ⟨a0, rfl, rfl, rfl, w0⟩ := Go.ChangeMaps.open_string Tryz.underlying9 (hval 0 9 v0 rfl rfl) h0
 clear hA0 hval0
 simp only [List.append_nil] at hW'
 refine (serverRemoved_law a0 W).mono fun e W' ⟨he, hw⟩ => ?_
 exact ⟨_, he, law_post (tb := 4) hw rfl Tryz.underlying4 hW' rfl (fun _ _ => trodAll_mk1 (Go.ChangeMaps.shut_string Tryz.underlying9 w0)) rfl⟩
theorem ServerRemoved_holds : Rows.ServerRemovedSaid :=
 OpenClaim.holds_of_wide 4 Tryz.f4 rfl rfl rfl rfl rfl rfl rfl ⟨rfl, rfl, rfl, rfl, rfl⟩ rfl rfl rfl rfl rfl (by kernel_rfl) Tryz.func4 serverRemoved_closed
  (of_decide_eq_true (by kernel_rfl)) (by unfold Func.isWrapper; first | (rw [if_pos (by decide +kernel)]; kernel_rfl) | (rw [if_neg (by decide +kernel)]; exact ⟨rfl, rfl⟩))
  (fun os started H enc _ => serverRemoved_lifted os started H enc)
end Go.Proofs.YtbllpnjappddeaaGreat
