/- ServerSubs answers true at any whole number, in whatever memory; no condition. -/
import Derived.Test.YtijbnccphmfdkaaGreatKSbF
import Derived.Test.YtijbnccphmfdkaaGreatKSbG
import Derived.ProofKit
import Derived.Test.YtijbnccphmfdkaaGreatLawPost
namespace Go.Proofs.YtijbnccphmfdkaaGreat
open Go.ChangeShapes Go.WideShapes Go.ChangeAt Go.RowKit

theorem subs_sim (a : Int) : ∃ H', Den.Sim Tryz.prog 4 [.val (.int .i64 a)] [] (fun _ => none) (.val (.bool true)) H' := by
  have h0 := Int.emod_nonneg a (by decide : (6 : Int) ≠ 0)
  have h1 := Int.emod_lt_of_pos a (by decide : (0 : Int) < 6)
  have key : ∀ k : Nat, a % 6 = k → Den.subsRun k = true → ∃ H', Den.Sim Tryz.prog 4 [.val (.int .i64 a)] [] (fun _ => none) (.val (.bool true)) H' := fun k hk hr =>
    Den.true_of_run (ρ := ⟨fun _ => a, fun _ => 0, fun _ _ _ => 0⟩) (Den.callL_ok hk) hr
  rcases (by omega : a % 6 = (0 : Nat) ∨ a % 6 = (1 : Nat) ∨ a % 6 = (2 : Nat) ∨ a % 6 = (3 : Nat) ∨ a % 6 = (4 : Nat) ∨ a % 6 = (5 : Nat)) with h | h | h | h | h | h
  · exact key 0 h Den.subsRun0
  · exact key 1 h Den.subsRun1
  · exact key 2 h Den.subsRun2
  · exact key 3 h Den.subsRun3
  · exact key 4 h Den.subsRun4
  · exact key 5 h Den.subsRun5

theorem subs_law (a : Int) (w : World) : Calls Tryz.prog 4 #[.int .i64 a] w fun e w' => e = .returned (.bool true) ∧ Below w.heap.size w w' := by
  obtain ⟨H', h⟩ := subs_sim a
  exact Den.Sim.calls h (I := fun _ _ => none) (.cons (.val _) .nil) (fun _ _ _ h => by cases h) rfl

theorem subs_own : ownKnob Tryz.prog.godebug = none := by kernel_rfl

set_option maxRecDepth 100000 in
theorem subs_lifted (os : Os) (started : os.Started) (H : Type) (enc : TypeId × Value → H) :
    ReturnsInHanded {} Tryz.checked os 4 .any (Rows.serverSubsSpec.pre6 enc Tryz.prog Tryz.f4 Rows.serverSubsRow.domain false) (Rows.serverSubsSpec.post enc Tryz.prog Tryz.f4 false true false false) := by
  refine returnsInHanded_of_change (C := Tryz.checked) subs_own started (by kernel_rfl) Tryz.func4
    (ChangeSpec.witness6 (enc := enc) (C := Tryz.checked) false ⟨#[], #[.int .i64 0], []⟩ 8 (by kernel_rfl) (by kernel_rfl) (by kernel_rfl) (by kernel_rfl)) ?_
  intro W base args ds gs before hval0 hW hcnd _
  have hval : ∀ (j : Nat) t v, Tryz.f4.params[j]? = some t → args[j]? = some v → Value.okWide Tryz.prog W .any base t v := hval0
  have hW' := hW
  obtain ⟨p, q, hA0, hV, rfl, hfz, hnd⟩ := hW
  have hA : DataW.TrodAll enc Tryz.prog W 0 (fun _ => true) true Tryz.f4.params.toList args.toList ds p := hA0
  rw [Tryz.params4] at hA hval
  obtain ⟨v0, d0, rfl, rfl, h0⟩ := trodAll_one hA
  obtain ⟨rfl, rfl⟩ := trodVars_none hV
  obtain ⟨a, rfl, rfl, rfl, wa⟩ := open_int Tryz.underlying3 (hval 0 3 v0 rfl rfl) h0
  clear hA0 hval0
  simp only [List.append_nil] at hW'
  refine (subs_law a W).mono fun e W' ⟨he, hw⟩ => ?_
  exact ⟨_, he, law_post (tb := 4) hw rfl Tryz.underlying4 hW' rfl (fun _ _ => trodAll_mk1 (shut_int Tryz.underlying3 wa)) rfl⟩

theorem ServerSubs_holds : Rows.ServerSubsSaid :=
  OpenClaim.holds_of_wide 4 Tryz.f4 rfl rfl rfl rfl rfl rfl rfl ⟨rfl, rfl, rfl, rfl, rfl⟩ rfl rfl rfl rfl rfl (by kernel_rfl) Tryz.func4 (by kernel_rfl)
    (of_decide_eq_true (by kernel_rfl)) (by unfold Func.isWrapper; first | (rw [if_pos (by decide +kernel)]; kernel_rfl) | (rw [if_neg (by decide +kernel)]; exact ⟨rfl, rfl⟩))
    (fun os started H enc _ => subs_lifted os started H enc)

end Go.Proofs.YtijbnccphmfdkaaGreat
