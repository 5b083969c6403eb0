/- ServerUnsafe: of a text that is too long. -/
import Derived.Test.YtbllpnjappddeaaGreatKSvE
import Derived.Test.YtbllpnjappddeaaGreatKLrA
set_option linter.unusedVariables false
set_option linter.unusedSimpArgs false
section
set_option linter.unusedSimpArgs false
set_option linter.unusedVariables false
set_option maxRecDepth 1000000
namespace Go.Proofs.YtbllpnjappddeaaGreat.Den
open Go.RowKit
attribute [local simp] runList aop abuiltin acall awanted ayielded env T0 tput tset Ran aload astore setMany upd binV aslice aindexAddr apart aindex alen acopy srcCells natOf boundOf aeq AV.nilEq convV appK fillA List.range List.range.loop onF isU8 rowOf
theorem known19_run : isTrue (callV0 11 [] ⟨0, .nil⟩) = true := by decide +kernel
theorem known19_ok : FnOK Tryz.prog 11 trueS := fn_true (callV0_ok (ρ := ⟨fun _ => 0, fun _ => 0, shaF⟩) rfl) known19_run
theorem notEmpty {s : ByteArray} (h : 0 < s.size) : ¬ s.toList = [] := by
  rw [ByteArray.toList_eq]
  intro hd
  have : s.size = s.data.toList.length := by simp
  rw [this, hd] at h
  simp at h
end Go.Proofs.YtbllpnjappddeaaGreat.Den
end
section
set_option linter.unusedSimpArgs false
set_option linter.unusedVariables false
set_option maxRecDepth 1000000
namespace Go.Proofs.YtbllpnjappddeaaGreat.Den
open Go.RowKit
attribute [local simp] runList aop abuiltin acall awanted ayielded env T0 tput tset Ran aload astore setMany upd binV aslice aindexAddr apart aindex alen acopy srcCells natOf boundOf aeq AV.nilEq convV appK fillA List.range List.range.loop onF isU8 rowOf
theorem unsafe_long (s : ByteArray) (n : Int) (hs : 60 < s.size) :
    ∃ H', Sim Tryz.prog 5 [.val (.string s), .val (.int .i64 n)] [] (fun _ => none) (.val (.bool true)) H' := by
  have hcall := onF_ok known19_ok (@noCall_ok Tryz.prog)
  have hs' : (60 : Int) < (s.size : Int) := by omega
  have he := notEmpty (s := s) (by omega)
  have he' : s.toList.isEmpty = false := by cases h : s.toList with | nil => exact absurd h he | cons _ _ => rfl
  refine ⟨fun _ => none, ?_⟩
  refine sim_go Tryz.func5 rfl rfl (Nat.le_of_ble_eq_true rfl) fun hH => ?_
  (repeat refine AWP.seq ?_)
  refine AWP.region_last hcall rfl fun K hK => ?_
  simp
  apply hK; clear hK K; simp only [onNormal, onExit]
  (repeat refine AWP.seq ?_)
  refine AWP.region_last hcall rfl fun K hK => ?_
  simp [trueS]
  apply hK; clear hK K; simp only [onNormal, onExit]
  (repeat refine AWP.seq ?_); refine AWP.cond (b := false) (by simp) ?_; simp only [if_true, if_false, Bool.false_eq_true]
  refine AWP.skip ?_; simp only [onNormal, onExit]
  (repeat refine AWP.seq ?_)
  refine AWP.region_last hcall rfl fun K hK => ?_
  simp [hs', he, he']
  apply hK; clear hK K; simp only [onNormal, onExit]
  (repeat refine AWP.seq ?_); refine AWP.cond (b := true) (by simp) ?_; simp only [if_true, if_false, Bool.false_eq_true]
  (repeat refine AWP.seq ?_)
  refine AWP.region_last hcall rfl fun K hK => ?_
  simp
  apply hK; clear hK K; simp only [onNormal, onExit]
  (try refine AWP.ret ?_); (try simp only [onNormal, onExit]); refine ⟨by simp, ⟨_, rfl, by simp [ares1]⟩, fun k row hk => ?_⟩
  exact hk
end Go.Proofs.YtbllpnjappddeaaGreat.Den
end
