/- WorldNone: of a text that is too long. -/
import Derived.Test.YtbllpnjappddeaaGreatKWnA
import Derived.Test.YtbllpnjappddeaaGreatKLrA
import Derived.Test.YtbllpnjappddeaaGreatKWnR0
import Derived.Test.YtbllpnjappddeaaGreatKWnR1
import Derived.Test.YtbllpnjappddeaaGreatKWnR2
import Derived.Test.YtbllpnjappddeaaGreatKWnR3
import Derived.Test.YtbllpnjappddeaaGreatKWnR4
import Derived.Test.YtbllpnjappddeaaGreatKWnR5
import Derived.Test.YtbllpnjappddeaaGreatKWnR6
import Derived.Test.YtbllpnjappddeaaGreatKWnR7
import Derived.Test.YtbllpnjappddeaaGreatKWnR8
set_option linter.unusedVariables false
set_option linter.unusedSimpArgs false
section
set_option linter.unusedSimpArgs false
set_option linter.unusedVariables false
set_option maxRecDepth 1000000
namespace Go.Proofs.YtbllpnjappddeaaGreat.Den
open Go.RowKit
attribute [local simp] runList aop abuiltin acall awanted ayielded env T0 tput tset Ran aload astore setMany upd binV aslice aindexAddr apart aindex alen acopy srcCells natOf boundOf aeq AV.nilEq convV appK fillA List.range List.range.loop onF isU8 rowOf
theorem known20_run : isTrue (callQ 28 [] ⟨0, .nil⟩) = true := by decide +kernel
theorem known20_ok : FnOK Tryz.prog 28 trueS := fn_true (callQ_ok ⟨fun _ => 0, fun _ => 0, fun _ _ _ => 0⟩) known20_run
theorem none_long (c d i : Int) (s : ByteArray) (hs : 50 < s.size) :
  ∃ H', Sim Tryz.prog 9 [.val (.int .i64 c), .val (.int .i64 d), .val (.int .i64 i), .val (.string s)] [] (fun _ => none) (.val (.bool true)) H' := by
 have hcall := onF_ok known20_ok (@noCall_ok Tryz.prog)
 have hs' : (50 : Int) < (s.size : Int) := by omega
 refine ⟨fun _ => none, ?_⟩
 refine sim_go Tryz.func9 rfl rfl (Nat.le_of_ble_eq_true rfl) fun hH => ?_
 (repeat refine AWP.seq ?_)
 refine AWP.region_last hcall rfl fun K hK => ?_
 simp
 apply hK; clear hK K; simp only [onNormal, onExit]
 (repeat refine AWP.seq ?_)
 refine AWP.region_last hcall rfl fun K hK => ?_
 simp [trueS]
 apply hK; clear hK K; simp only [onNormal, onExit]
 (repeat refine AWP.seq ?_); refine AWP.cond (b := false) (by simp) ?_; simp only [if_true, if_false, Bool.false_eq_true]
 refine AWP.skip ?_; simp only [onNormal, onExit]
 (repeat refine AWP.seq ?_)
 refine AWP.region_last hcall rfl fun K hK => ?_
 simp [hs']
 apply hK; clear hK K; simp only [onNormal, onExit]
 (repeat refine AWP.seq ?_); refine AWP.cond (b := true) (by simp [hs']) ?_; simp only [if_true, if_false, Bool.false_eq_true]
 (repeat refine AWP.seq ?_)
 refine AWP.region_last hcall rfl fun K hK => ?_
 simp
 apply hK; clear hK K; simp only [onNormal, onExit]
 (try refine AWP.ret ?_); (try simp only [onNormal, onExit]); refine ⟨by simp, ⟨_, rfl, by simp [ares1]⟩, fun k row hk => ?_⟩
 exact hk
end Go.Proofs.YtbllpnjappddeaaGreat.Den
end
section
namespace Go.Proofs.YtbllpnjappddeaaGreat.Den
theorem none_sim (c d i : Int) (s : ByteArray) : ∃ H', Sim Tryz.prog 9 [.val (.int .i64 c), .val (.int .i64 d), .val (.int .i64 i), .val (.string s)] [] (fun _ => none) (.val (.bool true)) H' := by
 by_cases h : 50 < s.size
 ·exact none_long c d i s h
 ·generalize hn : s.size = n at h
  match n, h with
  | 0, _ => exact none_of 0 noneAll0 c d i s hn
  | 1, _ => exact none_of 1 noneAll1 c d i s hn
  | 2, _ => exact none_of 2 noneAll2 c d i s hn
  | 3, _ => exact none_of 3 noneAll3 c d i s hn
  | 4, _ => exact none_of 4 noneAll4 c d i s hn
  | 5, _ => exact none_of 5 noneAll5 c d i s hn
  | 6, _ => exact none_of 6 noneAll6 c d i s hn
  | 7, _ => exact none_of 7 noneAll7 c d i s hn
  | 8, _ => exact none_of 8 noneAll8 c d i s hn
  | 9, _ => exact none_of 9 noneAll9 c d i s hn
  | 10, _ => exact none_of 10 noneAll10 c d i s hn
  | 11, _ => exact none_of 11 noneAll11 c d i s hn
  | 12, _ => exact none_of 12 noneAll12 c d i s hn
  | 13, _ => exact none_of 13 noneAll13 c d i s hn
  | 14, _ => exact none_of 14 noneAll14 c d i s hn
  | 15, _ => exact none_of 15 noneAll15 c d i s hn
  | 16, _ => exact none_of 16 noneAll16 c d i s hn
  | 17, _ => exact none_of 17 noneAll17 c d i s hn
  | 18, _ => exact none_of 18 noneAll18 c d i s hn
  | 19, _ => exact none_of 19 noneAll19 c d i s hn
  | 20, _ => exact none_of 20 noneAll20 c d i s hn
  | 21, _ => exact none_of 21 noneAll21 c d i s hn
  | 22, _ => exact none_of 22 noneAll22 c d i s hn
  | 23, _ => exact none_of 23 noneAll23 c d i s hn
  | 24, _ => exact none_of 24 noneAll24 c d i s hn
  | 25, _ => exact none_of 25 noneAll25 c d i s hn
  | 26, _ => exact none_of 26 noneAll26 c d i s hn
  | 27, _ => exact none_of 27 noneAll27 c d i s hn
  | 28, _ => exact none_of 28 noneAll28 c d i s hn
  | 29, _ => exact none_of 29 noneAll29 c d i s hn
  | 30, _ => exact none_of 30 noneAll30 c d i s hn
  | 31, _ => exact none_of 31 noneAll31 c d i s hn
  | 32, _ => exact none_of 32 noneAll32 c d i s hn
  | 33, _ => exact none_of 33 noneAll33 c d i s hn
  | 34, _ => exact none_of 34 noneAll34 c d i s hn
  | 35, _ => exact none_of 35 noneAll35 c d i s hn
  | 36, _ => exact none_of 36 noneAll36 c d i s hn
  | 37, _ => exact none_of 37 noneAll37 c d i s hn
  | 38, _ => exact none_of 38 noneAll38 c d i s hn
  | 39, _ => exact none_of 39 noneAll39 c d i s hn
  | 40, _ => exact none_of 40 noneAll40 c d i s hn
  | 41, _ => exact none_of 41 noneAll41 c d i s hn
  | 42, _ => exact none_of 42 noneAll42 c d i s hn
  | 43, _ => exact none_of 43 noneAll43 c d i s hn
  | 44, _ => exact none_of 44 noneAll44 c d i s hn
  | 45, _ => exact none_of 45 noneAll45 c d i s hn
  | 46, _ => exact none_of 46 noneAll46 c d i s hn
  | 47, _ => exact none_of 47 noneAll47 c d i s hn
  | 48, _ => exact none_of 48 noneAll48 c d i s hn
  | 49, _ => exact none_of 49 noneAll49 c d i s hn
  | 50, _ => exact none_of 50 noneAll50 c d i s hn
  | _ + 51, h => exact absurd h (by omega)
end Go.Proofs.YtbllpnjappddeaaGreat.Den
end
