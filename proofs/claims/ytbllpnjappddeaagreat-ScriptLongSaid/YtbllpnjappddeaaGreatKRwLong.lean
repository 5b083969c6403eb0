/- ScriptLong answers true at all arguments, in whatever memory; no condition. -/
import Derived.Test.YtbllpnjappddeaaGreatKLgI
import Derived.Test.YtbllpnjappddeaaGreatKRwLonga
import Derived.Test.YtbllpnjappddeaaGreatKLrA
import Derived.ShutString
import Derived.Carry
set_option linter.unusedVariables false
set_option linter.unusedSimpArgs false
set_option linter.unusedSimpArgs false
set_option linter.unusedVariables false
namespace Go.Proofs.YtbllpnjappddeaaGreat
open Go.ChangeShapes Go.WideShapes Go.ChangeAt Go.RowKit
theorem scriptLong_law (a0 : Int) (w : World) : Calls Tryz.prog 10 #[.int .i64 a0] w fun e w' => e = .returned (.bool true) ∧ Below w.heap.size w w' := by
  obtain ⟨H', h⟩ := Den.long_sim a0
  exact Den.Sim.calls h (I := fun _ _ => none) (.cons (.val _) .nil) (fun _ _ _ h => by cases h) rfl
theorem scriptLong_own : ownKnob Tryz.prog.godebug = none := by kernel_rfl
set_option maxRecDepth 100000 in
theorem scriptLong_lifted (os : Os) (started : os.Started) (H : Type) (enc : TypeId × Value → H) :
    ReturnsInHanded {} Tryz.checked os 10 .any (Rows.scriptLongSpec.pre6 enc Tryz.prog Tryz.f10 Rows.scriptLongRow.domain false) (Rows.scriptLongSpec.post enc Tryz.prog Tryz.f10 false true false false) := by
  refine returnsInHanded_of_change (C := Tryz.checked) scriptLong_own started (by kernel_rfl) Tryz.func10
    (ChangeSpec.witness6 (enc := enc) (C := Tryz.checked) false ⟨#[], #[.int .i64 0], []⟩ 8 (by kernel_rfl) (by kernel_rfl) (by kernel_rfl) (by kernel_rfl)) ?_
  intro W base args ds gs before hval0 hW hcnd _
  have hval : ∀ (j : Nat) t v, Tryz.f10.params[j]? = some t → args[j]? = some v → Value.okWide Tryz.prog W .any base t v := hval0
  have hW' := hW
  obtain ⟨p, q, hA0, hV, rfl, hfz, hnd⟩ := hW
  have hA : DataW.TrodAll enc Tryz.prog W 0 (fun _ => true) true Tryz.f10.params.toList args.toList ds p := hA0
  rw [Tryz.params10] at hA hval
  obtain ⟨v0, d0, rfl, rfl, h0⟩ := trodAll_one hA
  obtain ⟨rfl, rfl⟩ := trodVars_none hV
  obtain ⟨a0, rfl, rfl, rfl, w0⟩ := open_int Tryz.underlying3 (hval 0 3 v0 rfl rfl) h0
  clear hA0 hval0
  simp only [List.append_nil] at hW'
  refine (scriptLong_law a0 W).mono fun e W' ⟨he, hw⟩ => ?_
  exact ⟨_, he, law_post (tb := 4) hw rfl Tryz.underlying4 hW' rfl (fun _ _ => trodAll_mk1 (shut_int Tryz.underlying3 w0)) rfl⟩
theorem ScriptLong_holds : Rows.ScriptLongSaid :=
  OpenClaim.holds_of_wide 10 Tryz.f10 rfl rfl rfl rfl rfl rfl rfl ⟨rfl, rfl, rfl, rfl, rfl⟩ rfl rfl rfl rfl rfl (by kernel_rfl) Tryz.func10 scriptLong_closed
    (of_decide_eq_true (by kernel_rfl)) (by unfold Func.isWrapper; first | (rw [if_pos (by decide +kernel)]; kernel_rfl) | (rw [if_neg (by decide +kernel)]; exact ⟨rfl, rfl⟩))
    (fun os started H enc _ => scriptLong_lifted os started H enc)
end Go.Proofs.YtbllpnjappddeaaGreat
