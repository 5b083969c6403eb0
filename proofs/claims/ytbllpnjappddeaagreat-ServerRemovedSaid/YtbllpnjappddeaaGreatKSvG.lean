/- ServerRemoved: of a text that is too long. -/
import Derived.Test.YtbllpnjappddeaaGreatKSvE
import Derived.Test.YtbllpnjappddeaaGreatKLrA
import Derived.Test.YtbllpnjappddeaaGreatKSvR0
import Derived.Test.YtbllpnjappddeaaGreatKSvR1
import Derived.Test.YtbllpnjappddeaaGreatKSvR2
import Derived.Test.YtbllpnjappddeaaGreatKSvR3
import Derived.Test.YtbllpnjappddeaaGreatKSvR4
import Derived.Test.YtbllpnjappddeaaGreatKSvR5
import Derived.Test.YtbllpnjappddeaaGreatKSvR6
import Derived.Test.YtbllpnjappddeaaGreatKSvR7
import Derived.Test.YtbllpnjappddeaaGreatKSvR8
import Derived.Test.YtbllpnjappddeaaGreatKSvR9
import Derived.Test.YtbllpnjappddeaaGreatKSvR10
import Derived.Test.YtbllpnjappddeaaGreatKSvR11
import Derived.Test.YtbllpnjappddeaaGreatKSvR12
set_option linter.unusedVariables false
set_option linter.unusedSimpArgs false
section
set_option linter.unusedSimpArgs false
set_option linter.unusedVariables false
set_option maxRecDepth 1000000
namespace Go.Proofs.YtbllpnjappddeaaGreat.Den
open Go.RowKit
attribute [local simp] runList aop abuiltin acall awanted ayielded env T0 tput tset Ran aload astore setMany upd binV aslice aindexAddr apart aindex alen acopy srcCells natOf boundOf aeq AV.nilEq convV appK fillA List.range List.range.loop onF isU8 rowOf
theorem known19_run : isTrue (callV0 11 [] ⟨0, .nil⟩) = true := by decide +kernel
theorem known19_ok : FnOK Tryz.prog 11 trueS := fn_true (callV0_ok (ρ := ⟨fun _ => 0, fun _ => 0, shaF⟩) rfl) known19_run
theorem notEmpty {s : ByteArray} (h : 0 < s.size) : ¬ s.toList = [] := by
 rw [ByteArray.toList_eq]
 intro hd
 have : s.size = s.data.toList.length := by simp
 rw [this, hd] at h
 simp at h
theorem removed_long (s : ByteArray) (hs : 60 < s.size) :
  ∃ H', Sim Tryz.prog 4 [.val (.string s)] [] (fun _ => none) (.val (.bool true)) H' := by
 have hcall := onF_ok known19_ok (@noCall_ok Tryz.prog)
 have hs' : (60 : Int) < (s.size : Int) := by omega
 have he := notEmpty (s := s) (by omega)
 have he' : s.toList.isEmpty = false := by cases h : s.toList with | nil => exact absurd h he | cons _ _ => rfl
 refine ⟨fun _ => none, ?_⟩
 refine sim_go Tryz.func4 rfl rfl (Nat.le_of_ble_eq_true rfl) fun hH => ?_
 (repeat refine AWP.seq ?_)
 refine AWP.region_last hcall rfl fun K hK => ?_
 simp
 apply hK; clear hK K; simp only [onNormal, onExit]
 (repeat refine AWP.seq ?_)
 refine AWP.region_last hcall rfl fun K hK => ?_
 simp [trueS]
 apply hK; clear hK K; simp only [onNormal, onExit]
 (repeat refine AWP.seq ?_); refine AWP.cond (b := false) (by simp) ?_; simp only [if_true, if_false, Bool.false_eq_true]
 refine AWP.skip ?_; simp only [onNormal, onExit]
 (repeat refine AWP.seq ?_)
 refine AWP.region_last hcall rfl fun K hK => ?_
 simp [hs', he, he']
 apply hK; clear hK K; simp only [onNormal, onExit]
 (repeat refine AWP.seq ?_); refine AWP.cond (b := true) (by simp) ?_; simp only [if_true, if_false, Bool.false_eq_true]
 (repeat refine AWP.seq ?_)
 refine AWP.region_last hcall rfl fun K hK => ?_
 simp
 apply hK; clear hK K; simp only [onNormal, onExit]
 (try refine AWP.ret ?_); (try simp only [onNormal, onExit]); refine ⟨by simp, ⟨_, rfl, by simp [ares1]⟩, fun k row hk => ?_⟩
 exact hk
end Go.Proofs.YtbllpnjappddeaaGreat.Den
end
section
namespace Go.Proofs.YtbllpnjappddeaaGreat.Den
theorem removed_sim (s : ByteArray) : ∃ H', Sim Tryz.prog 4 [.val (.string s)] [] (fun _ => none) (.val (.bool true)) H' := by
 by_cases h : 60 < s.size
 ·exact removed_long s h
 ·generalize hn : s.size = n at h
  match n, h with
  | 0, _ => exact rem_of remRun0 s hn
  | 1, _ => exact rem_of remRun1 s hn
  | 2, _ => exact rem_of remRun2 s hn
  | 3, _ => exact rem_of remRun3 s hn
  | 4, _ => exact rem_of remRun4 s hn
  | 5, _ => exact rem_of remRun5 s hn
  | 6, _ => exact rem_of remRun6 s hn
  | 7, _ => exact rem_of remRun7 s hn
  | 8, _ => exact rem_of remRun8 s hn
  | 9, _ => exact rem_of remRun9 s hn
  | 10, _ => exact rem_of remRun10 s hn
  | 11, _ => exact rem_of remRun11 s hn
  | 12, _ => exact rem_of remRun12 s hn
  | 13, _ => exact rem_of remRun13 s hn
  | 14, _ => exact rem_of remRun14 s hn
  | 15, _ => exact rem_of remRun15 s hn
  | 16, _ => exact rem_of remRun16 s hn
  | 17, _ => exact rem_of remRun17 s hn
  | 18, _ => exact rem_of remRun18 s hn
  | 19, _ => exact rem_of remRun19 s hn
  | 20, _ => exact rem_of remRun20 s hn
  | 21, _ => exact rem_of remRun21 s hn
  | 22, _ => exact rem_of remRun22 s hn
  | 23, _ => exact rem_of remRun23 s hn
  | 24, _ => exact rem_of remRun24 s hn
  | 25, _ => exact rem_of remRun25 s hn
  | 26, _ => exact rem_of remRun26 s hn
  | 27, _ => exact rem_of remRun27 s hn
  | 28, _ => exact rem_of remRun28 s hn
  | 29, _ => exact rem_of remRun29 s hn
  | 30, _ => exact rem_of remRun30 s hn
  | 31, _ => exact rem_of remRun31 s hn
  | 32, _ => exact rem_of remRun32 s hn
  | 33, _ => exact rem_of remRun33 s hn
  | 34, _ => exact rem_of remRun34 s hn
  | 35, _ => exact rem_of remRun35 s hn
  | 36, _ => exact rem_of remRun36 s hn
  | 37, _ => exact rem_of remRun37 s hn
  | 38, _ => exact rem_of remRun38 s hn
  | 39, _ => exact rem_of remRun39 s hn
  | 40, _ => exact rem_of remRun40 s hn
  | 41, _ => exact rem_of remRun41 s hn
  | 42, _ => exact rem_of remRun42 s hn
  | 43, _ => exact rem_of remRun43 s hn
  | 44, _ => exact rem_of remRun44 s hn
  | 45, _ => exact rem_of remRun45 s hn
  | 46, _ => exact rem_of remRun46 s hn
  | 47, _ => exact rem_of remRun47 s hn
  | 48, _ => exact rem_of remRun48 s hn
  | 49, _ => exact rem_of remRun49 s hn
  | 50, _ => exact rem_of remRun50 s hn
  | 51, _ => exact rem_of remRun51 s hn
  | 52, _ => exact rem_of remRun52 s hn
  | 53, _ => exact rem_of remRun53 s hn
  | 54, _ => exact rem_of remRun54 s hn
  | 55, _ => exact rem_of remRun55 s hn
  | 56, _ => exact rem_of remRun56 s hn
  | 57, _ => exact rem_of remRun57 s hn
  | 58, _ => exact rem_of remRun58 s hn
  | 59, _ => exact rem_of remRun59 s hn
  | 60, _ => exact rem_of remRun60 s hn
  | _ + 61, h => exact absurd h (by omega)
end Go.Proofs.YtbllpnjappddeaaGreat.Den
end
