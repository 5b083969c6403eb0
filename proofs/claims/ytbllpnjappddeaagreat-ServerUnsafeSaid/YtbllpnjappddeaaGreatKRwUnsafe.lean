/- ServerUnsafe answers true at all arguments, in whatever memory; no condition. -/
import Derived.Test.YtbllpnjappddeaaGreatKUnH
import Derived.Test.YtbllpnjappddeaaGreatKRwUnsafea
import Derived.Test.YtbllpnjappddeaaGreatKLrA
import Derived.ShutString
import Derived.Carry
set_option linter.unusedVariables false
set_option linter.unusedSimpArgs false
set_option linter.unusedSimpArgs false
set_option linter.unusedVariables false
namespace Go.Proofs.YtbllpnjappddeaaGreat
open Go.ChangeShapes Go.WideShapes Go.ChangeAt Go.RowKit
theorem serverUnsafe_law (a0 : ByteArray) (a1 : Int) (w : World) : Calls Tryz.prog 5 #[.string a0, .int .i64 a1] w fun e w' => e = .returned (.bool true) ∧ Below w.heap.size w w' := by
  obtain ⟨H', h⟩ := Den.unsafe_sim a0 a1
  exact Den.Sim.calls h (I := fun _ _ => none) (.cons (.val _) (.cons (.val _) .nil)) (fun _ _ _ h => by cases h) rfl
theorem serverUnsafe_own : ownKnob Tryz.prog.godebug = none := by kernel_rfl
set_option maxRecDepth 100000 in
theorem serverUnsafe_lifted (os : Os) (started : os.Started) (H : Type) (enc : TypeId × Value → H) :
    ReturnsInHanded {} Tryz.checked os 5 .any (Rows.serverUnsafeSpec.pre6 enc Tryz.prog Tryz.f5 Rows.serverUnsafeRow.domain false) (Rows.serverUnsafeSpec.post enc Tryz.prog Tryz.f5 false true false false) := by
  refine returnsInHanded_of_change (C := Tryz.checked) serverUnsafe_own started (by kernel_rfl) Tryz.func5
    (ChangeSpec.witness6 (enc := enc) (C := Tryz.checked) false ⟨#[], #[.string .empty, .int .i64 0], []⟩ 8 (by kernel_rfl) (by kernel_rfl) (by kernel_rfl) (by kernel_rfl)) ?_
  intro W base args ds gs before hval0 hW hcnd _
  have hval : ∀ (j : Nat) t v, Tryz.f5.params[j]? = some t → args[j]? = some v → Value.okWide Tryz.prog W .any base t v := hval0
  have hW' := hW
  obtain ⟨p, q, hA0, hV, rfl, hfz, hnd⟩ := hW
  have hA : DataW.TrodAll enc Tryz.prog W 0 (fun _ => true) true Tryz.f5.params.toList args.toList ds p := hA0
  rw [Tryz.params5] at hA hval
  obtain ⟨v0, v1, d0, d1, q0, q1, rfl, rfl, rfl, h0, h1⟩ := trodAll_two hA
  obtain ⟨rfl, rfl⟩ := trodVars_none hV
  obtain ⟨a0, rfl, rfl, rfl, w0⟩ := Go.ChangeMaps.open_string Tryz.underlying9 (hval 0 9 v0 rfl rfl) h0
  obtain ⟨a1, rfl, rfl, rfl, w1⟩ := open_int Tryz.underlying3 (hval 1 3 v1 rfl rfl) h1
  clear hA0 hval0
  simp only [List.append_nil] at hW'
  refine (serverUnsafe_law a0 a1 W).mono fun e W' ⟨he, hw⟩ => ?_
  exact ⟨_, he, law_post (tb := 4) hw rfl Tryz.underlying4 hW' rfl (fun _ _ => trodAll_mk2 (Go.ChangeMaps.shut_string Tryz.underlying9 w0) (shut_int Tryz.underlying3 w1)) rfl⟩
theorem ServerUnsafe_holds : Rows.ServerUnsafeSaid :=
  OpenClaim.holds_of_wide 5 Tryz.f5 rfl rfl rfl rfl rfl rfl rfl ⟨rfl, rfl, rfl, rfl, rfl⟩ rfl rfl rfl rfl rfl (by kernel_rfl) Tryz.func5 serverUnsafe_closed
    (of_decide_eq_true (by kernel_rfl)) (by unfold Func.isWrapper; first | (rw [if_pos (by decide +kernel)]; kernel_rfl) | (rw [if_neg (by decide +kernel)]; exact ⟨rfl, rfl⟩))
    (fun os started H enc _ => serverUnsafe_lifted os started H enc)
end Go.Proofs.YtbllpnjappddeaaGreat
