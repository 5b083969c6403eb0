/- An operation over no bytes, made of whatever numbers. -/
import Derived.Test.YtbllpnjappddeaaGreatKLrA
import Derived.Test.YtbllpnjappddeaaGreatKWkT
import Derived.Lib.Hide
set_option linter.unusedVariables false
set_option linter.unusedSimpArgs false
section
set_option maxRecDepth 1000000
namespace Go.Proofs.YtbllpnjappddeaaGreat
open Go.RowKit
set_option maxHeartbeats 400000 in
theorem within19_any (a n : Int) (hn : 0 < n) (hn2 : n ≤ 9223372036854775807) (w : World) :
    Calls Tryz.prog 13 #[.int .i64 a, .int .i64 n] w fun e w' => e = .returned (.int .i64 (a % n)) ∧ w = w' := by
  have hn0 : n ≠ 0 := by omega
  by_cases h : a.tmod n < 0
  · have e := tmod_neg a n hn h
    have h0 := Int.emod_nonneg a hn0
    have h1 := Int.emod_lt_of_pos a hn
    have e2 : wrap64 (a.tmod n + n) = a % n := by rw [e]; exact wrap64_id _ (by omega) (by omega)
    have E := Lib.hid e2
    clear e e2 h0 h1
    go_enter Tryz.func13, Tryz.ntmps13
    go_wp2
    rw [E.out]
    go_ret
    exact ⟨rfl, rfl⟩
  · have h' : 0 ≤ a.tmod n := by omega
    have e := tmod_pos a n hn h'
    have E := Lib.hid e
    clear e
    go_enter Tryz.func13, Tryz.ntmps13
    go_wp2
    rw [E.out]
    go_ret
    exact ⟨rfl, rfl⟩
set_option maxHeartbeats 400000 in
theorem within4_any (a n : Int) (hn : 0 < n) (hn2 : n ≤ 9223372036854775807) (w : World) :
    Calls Tryz.prog 88 #[.int .i64 a, .int .i64 n] w fun e w' => e = .returned (.int .i64 (a % n)) ∧ w = w' := by
  have hn0 : n ≠ 0 := by omega
  by_cases h : a.tmod n < 0
  · have e := tmod_neg a n hn h
    have h0 := Int.emod_nonneg a hn0
    have h1 := Int.emod_lt_of_pos a hn
    have e2 : wrap64 (a.tmod n + n) = a % n := by rw [e]; exact wrap64_id _ (by omega) (by omega)
    have E := Lib.hid e2
    clear e e2 h0 h1
    go_enter Tryz.func88, Tryz.ntmps88
    go_wp2
    rw [E.out]
    go_ret
    exact ⟨rfl, rfl⟩
  · have h' : 0 ≤ a.tmod n := by omega
    have e := tmod_pos a n hn h'
    have E := Lib.hid e
    clear e
    go_enter Tryz.func88, Tryz.ntmps88
    go_wp2
    rw [E.out]
    go_ret
    exact ⟨rfl, rfl⟩
namespace Den
variable {ρ : Vals}
theorem within19_ok : FnOK Tryz.prog 13 withinS := within_fn (by kernel_rfl) within19_any
theorem within4_ok : FnOK Tryz.prog 88 withinS := within_fn (by kernel_rfl) within4_any
@[simp] theorem sz159 : szOf Tryz.prog 159 = some 3 := by kernel_rfl
@[simp] theorem ze159 : zeroCellsA Tryz.prog 159 = some ([.val (.int .i64 0), .val (.int .i64 0), .val (.string .empty)]) := by kernel_rfl
@[simp] theorem ap62_62 (s x : AV) (nm : Name) (H : AHeap) : aappend Tryz.prog 62 62 s x nm H = appK 3 32 s x nm H := aappend_eq (by kernel_rfl : Tryz.prog.underlying 62 = some (.slice 159)) (by kernel_rfl : Tryz.prog.underlying 62 = some (.slice 159)) rfl (by kernel_rfl) (by kernel_rfl) (by kernel_rfl) s x nm H
end Den
end Go.Proofs.YtbllpnjappddeaaGreat
end
section
set_option linter.unusedSimpArgs false
set_option linter.unusedVariables false
set_option maxRecDepth 100000
namespace Go.Proofs.YtbllpnjappddeaaGreat.Den
open Go.RowKit
attribute [local simp] runList aop abuiltin acall awanted ayielded env T0 tput tset Ran aload astore setMany upd binV aslice aindexAddr apart aindex alen acopy srcCells natOf boundOf aeq AV.nilEq convV appK fillA List.range List.range.loop onF isU8 rowOf
def zCells2 : List AV := [vi 2, vi 0, .val (.string ⟨#[122]⟩)]
/-- Of no numbers: nothing; else by the first one. -/
def makeT : Spec := fun args nm H =>
  match args with
  | [.val (.int .i64 0), .val (.slice none 0 0)] => some (vnil, H)
  | [.val (.int .i64 0), .im _ 0 _] => some (vnil, H)
  | [.val (.int .i64 0), .im _ (k + 1) (.val (.int .i64 a) :: rest)] => if (IntKind.i64.wrap (a.tdiv 3)) % 3 = 0 then some (.sl nm 0 1 3, upd H nm (some zCells2)) else some (vnil, H)
  | _ => none
set_option maxHeartbeats 1000000 in
theorem make_ok2 : FnOK Tryz.prog 25 makeT := by
  refine ⟨by kernel_rfl, fun args nm H r H' h => ?_⟩
  have hcall := onF_ok within4_ok (@noCall_ok Tryz.prog)
  have hpl : places Tryz.prog [{ name := "Kind", type := 3, offset := 0, embedded := false, tag := "", pkgPath := "", byteOffset := 0 }, { name := "N", type := 3, offset := 1, embedded := false, tag := "", pkgPath := "", byteOffset := 8 }, { name := "S", type := 9, offset := 2, embedded := false, tag := "", pkgPath := "", byteOffset := 16 }] = some [(0, 1), (1, 1), (2, 1)] := by kernel_rfl
  unfold makeT at h
  split at h
  · cases h
    refine sim_go Tryz.func25 rfl rfl (Nat.le_of_ble_eq_true rfl) fun hH => ?_
    (repeat refine AWP.seq ?_)
    refine AWP.region_last hcall rfl fun K hK => ?_
    simp
    apply hK; clear hK K; simp only [onNormal, onExit]
    (repeat refine AWP.seq ?_)
    refine AWP.region_last hcall rfl fun K hK => ?_
    simp
    apply hK; clear hK K; simp only [onNormal, onExit]
    (repeat refine AWP.seq ?_)
    refine AWP.region_last hcall rfl fun K hK => ?_
    simp
    apply hK; clear hK K; simp only [onNormal, onExit]
    (repeat refine AWP.seq ?_)
    refine AWP.region_last hcall rfl fun K hK => ?_
    simp
    apply hK; clear hK K; simp only [onNormal, onExit]
    (repeat refine AWP.seq ?_); refine AWP.block ?_
    refine AWP.loop (fun m c T H2 => m = 0 ∧ H2 = H ∧ T 0 = vi 0 ∧ T 1 = vnil ∧ T 5 = vnil ∧ T 6 = vi 0 ∧ T 7 = vi 0) 0 ⟨rfl, rfl, by simp, by simp, by simp, by simp, by simp⟩ ?_
    rintro _ c T H2 ⟨rfl, rfl, t0, t1, t5, t6, t7⟩
    (repeat refine AWP.seq ?_)
    refine AWP.region_last hcall rfl fun K hK => ?_
    simp [t0, t1, t7]
    apply hK; clear hK K; simp only [onNormal, onExit]
    (repeat refine AWP.seq ?_); refine AWP.cond (b := false) (by simp) ?_; simp only [if_true, if_false, Bool.false_eq_true]
    refine AWP.exit ?_; simp only [onNormal, onExit, if_true, reduceCtorEq, if_false]
    (repeat refine AWP.seq ?_)
    refine AWP.region_last hcall rfl fun K hK => ?_
    simp [t0]
    apply hK; clear hK K; simp only [onNormal, onExit]
    (repeat refine AWP.seq ?_); refine AWP.cond (b := false) (by simp) ?_; simp only [if_true, if_false, Bool.false_eq_true]
    refine AWP.skip ?_; simp only [onNormal, onExit]
    (repeat refine AWP.seq ?_)
    refine AWP.region_last hcall rfl fun K hK => ?_
    simp [t1]
    apply hK; clear hK K; simp only [onNormal, onExit]
    (repeat refine AWP.seq ?_); refine AWP.cond (b := false) (by simp) ?_; simp only [if_true, if_false, Bool.false_eq_true]
    refine AWP.skip ?_; simp only [onNormal, onExit]
    (repeat refine AWP.seq ?_)
    refine AWP.region_last hcall rfl fun K hK => ?_
    simp [t5]
    apply hK; clear hK K; simp only [onNormal, onExit]
    (try refine AWP.ret ?_); (try simp only [onNormal, onExit]); refine ⟨by simp, ⟨_, rfl, by simp [ares1]⟩, fun k row hk => ?_⟩
    exact hk
  · rename_i m cells
    cases h
    refine sim_go Tryz.func25 rfl rfl (Nat.le_of_ble_eq_true rfl) fun hH => ?_
    (repeat refine AWP.seq ?_)
    refine AWP.region_last hcall rfl fun K hK => ?_
    simp
    apply hK; clear hK K; simp only [onNormal, onExit]
    (repeat refine AWP.seq ?_)
    refine AWP.region_last hcall rfl fun K hK => ?_
    simp
    apply hK; clear hK K; simp only [onNormal, onExit]
    (repeat refine AWP.seq ?_)
    refine AWP.region_last hcall rfl fun K hK => ?_
    simp
    apply hK; clear hK K; simp only [onNormal, onExit]
    (repeat refine AWP.seq ?_)
    refine AWP.region_last hcall rfl fun K hK => ?_
    simp
    apply hK; clear hK K; simp only [onNormal, onExit]
    (repeat refine AWP.seq ?_); refine AWP.block ?_
    refine AWP.loop (fun m' c T H2 => m' = 0 ∧ H2 = H ∧ T 0 = vi 0 ∧ T 1 = .im m 0 cells ∧ T 5 = vnil ∧ T 6 = vi 0 ∧ T 7 = vi 0) 0 ⟨rfl, rfl, by simp, by simp, by simp, by simp, by simp⟩ ?_
    rintro _ c T H2 ⟨rfl, rfl, t0, t1, t5, t6, t7⟩
    (repeat refine AWP.seq ?_)
    refine AWP.region_last hcall rfl fun K hK => ?_
    simp [t0, t1, t7]
    apply hK; clear hK K; simp only [onNormal, onExit]
    (repeat refine AWP.seq ?_); refine AWP.cond (b := false) (by simp) ?_; simp only [if_true, if_false, Bool.false_eq_true]
    refine AWP.exit ?_; simp only [onNormal, onExit, if_true, reduceCtorEq, if_false]
    (repeat refine AWP.seq ?_)
    refine AWP.region_last hcall rfl fun K hK => ?_
    simp [t0]
    apply hK; clear hK K; simp only [onNormal, onExit]
    (repeat refine AWP.seq ?_); refine AWP.cond (b := false) (by simp) ?_; simp only [if_true, if_false, Bool.false_eq_true]
    refine AWP.skip ?_; simp only [onNormal, onExit]
    (repeat refine AWP.seq ?_)
    refine AWP.region_last hcall rfl fun K hK => ?_
    simp [t1]
    apply hK; clear hK K; simp only [onNormal, onExit]
    (repeat refine AWP.seq ?_); refine AWP.cond (b := false) (by simp) ?_; simp only [if_true, if_false, Bool.false_eq_true]
    refine AWP.skip ?_; simp only [onNormal, onExit]
    (repeat refine AWP.seq ?_)
    refine AWP.region_last hcall rfl fun K hK => ?_
    simp [t5]
    apply hK; clear hK K; simp only [onNormal, onExit]
    (try refine AWP.ret ?_); (try simp only [onNormal, onExit]); refine ⟨by simp, ⟨_, rfl, by simp [ares1]⟩, fun k row hk => ?_⟩
    exact hk
  · rename_i m k a rest
    · have hw : withinS [.val (.int .i64 (IntKind.i64.wrap (a.tdiv 3))), .val (.int .i64 3)] = fun nm H => some (vi ((IntKind.i64.wrap (a.tdiv 3)) % 3), H) := rfl
      have hk0 : (0 : Int) < (k : Int) + 1 := by omega
      have hk1 : (0 : Int) < ((k + 1 : Nat) : Int) := by omega
      split at h
      · rename_i hz
        cases h
        refine sim_row Tryz.func25 rfl rfl (Nat.le_of_ble_eq_true rfl) fun hH => ?_
        (repeat refine AWP.seq ?_)
        refine AWP.region_last hcall rfl fun K hK => ?_
        simp
        apply hK; clear hK K; simp only [onNormal, onExit]
        (repeat refine AWP.seq ?_)
        refine AWP.region_last hcall rfl fun K hK => ?_
        simp
        apply hK; clear hK K; simp only [onNormal, onExit]
        (repeat refine AWP.seq ?_)
        refine AWP.region_last hcall rfl fun K hK => ?_
        simp
        apply hK; clear hK K; simp only [onNormal, onExit]
        (repeat refine AWP.seq ?_)
        refine AWP.region_last hcall rfl fun K hK => ?_
        simp
        apply hK; clear hK K; simp only [onNormal, onExit]
        (repeat refine AWP.seq ?_); refine AWP.block ?_
        refine AWP.loop (fun m' c T H2 => m' = 0 ∧ H2 = H ∧ T 0 = vi 0 ∧ T 1 = .im m (k + 1) (.val (.int .i64 a) :: rest) ∧ T 5 = vnil ∧ T 6 = vi 0 ∧ T 7 = vi 0) 0 ⟨rfl, rfl, by simp, by simp, by simp, by simp, by simp⟩ ?_
        rintro _ c T H2 ⟨rfl, rfl, t0, t1, t5, t6, t7⟩
        (repeat refine AWP.seq ?_)
        refine AWP.region_last hcall rfl fun K hK => ?_
        simp [t0, t1, t7, hk0, hk1]
        apply hK; clear hK K; simp only [onNormal, onExit]
        (repeat refine AWP.seq ?_); refine AWP.cond (b := false) (by simp) ?_; simp only [if_true, if_false, Bool.false_eq_true]
        refine AWP.exit ?_; simp only [onNormal, onExit, if_true, reduceCtorEq, if_false]
        (repeat refine AWP.seq ?_)
        refine AWP.region_last hcall rfl fun K hK => ?_
        simp [t0]
        apply hK; clear hK K; simp only [onNormal, onExit]
        (repeat refine AWP.seq ?_); refine AWP.cond (b := false) (by simp) ?_; simp only [if_true, if_false, Bool.false_eq_true]
        refine AWP.skip ?_; simp only [onNormal, onExit]
        (repeat refine AWP.seq ?_)
        refine AWP.region_last hcall rfl fun K hK => ?_
        simp [t1, t6, hk0, hk1, hw, hz]
        apply hK; clear hK K; simp only [onNormal, onExit]
        (repeat refine AWP.seq ?_); refine AWP.cond (b := true) (by simp) ?_; simp only [if_true, if_false, Bool.false_eq_true]
        (repeat refine AWP.seq ?_)
        refine AWP.region_last hcall rfl fun K hK => ?_
        simp [t5, hpl]
        apply hK; clear hK K; simp only [onNormal, onExit]
        (repeat refine AWP.seq ?_)
        refine AWP.region_last hcall rfl fun K hK => ?_
        simp
        apply hK; clear hK K; simp only [onNormal, onExit]
        (try refine AWP.ret ?_); (try simp only [onNormal, onExit]); refine ⟨by simp, _, rfl, ?_, ?_, fun k row hk => ?_⟩
        · exact hH [_]
        · simp [zCells2]
        · refine SubL.out ?_ k row hk; repeat (first | exact SubL.id | refine SubL.set ?_ | refine SubL.gone ?_ | (refine SubL.ex ?_ ?_; · simp; done) | refine SubL.fresh (hH [_]) ?_ | refine SubL.fresh (hH [_, _]) ?_ | (refine SubL.fresh (upd_none (hH [_]) ?_) ?_; · simp; done) | (refine SubL.fresh (upd_none (hH [_, _]) ?_) ?_; · simp; done))
      · rename_i hz
        cases h
        refine sim_go Tryz.func25 rfl rfl (Nat.le_of_ble_eq_true rfl) fun hH => ?_
        (repeat refine AWP.seq ?_)
        refine AWP.region_last hcall rfl fun K hK => ?_
        simp
        apply hK; clear hK K; simp only [onNormal, onExit]
        (repeat refine AWP.seq ?_)
        refine AWP.region_last hcall rfl fun K hK => ?_
        simp
        apply hK; clear hK K; simp only [onNormal, onExit]
        (repeat refine AWP.seq ?_)
        refine AWP.region_last hcall rfl fun K hK => ?_
        simp
        apply hK; clear hK K; simp only [onNormal, onExit]
        (repeat refine AWP.seq ?_)
        refine AWP.region_last hcall rfl fun K hK => ?_
        simp
        apply hK; clear hK K; simp only [onNormal, onExit]
        (repeat refine AWP.seq ?_); refine AWP.block ?_
        refine AWP.loop (fun m' c T H2 => m' = 0 ∧ H2 = H ∧ T 0 = vi 0 ∧ T 1 = .im m (k + 1) (.val (.int .i64 a) :: rest) ∧ T 5 = vnil ∧ T 6 = vi 0 ∧ T 7 = vi 0) 0 ⟨rfl, rfl, by simp, by simp, by simp, by simp, by simp⟩ ?_
        rintro _ c T H2 ⟨rfl, rfl, t0, t1, t5, t6, t7⟩
        (repeat refine AWP.seq ?_)
        refine AWP.region_last hcall rfl fun K hK => ?_
        simp [t0, t1, t7, hk0, hk1]
        apply hK; clear hK K; simp only [onNormal, onExit]
        (repeat refine AWP.seq ?_); refine AWP.cond (b := false) (by simp) ?_; simp only [if_true, if_false, Bool.false_eq_true]
        refine AWP.exit ?_; simp only [onNormal, onExit, if_true, reduceCtorEq, if_false]
        (repeat refine AWP.seq ?_)
        refine AWP.region_last hcall rfl fun K hK => ?_
        simp [t0]
        apply hK; clear hK K; simp only [onNormal, onExit]
        (repeat refine AWP.seq ?_); refine AWP.cond (b := false) (by simp) ?_; simp only [if_true, if_false, Bool.false_eq_true]
        refine AWP.skip ?_; simp only [onNormal, onExit]
        (repeat refine AWP.seq ?_)
        refine AWP.region_last hcall rfl fun K hK => ?_
        simp [t1, t6, hk0, hk1, hw, hz]
        apply hK; clear hK K; simp only [onNormal, onExit]
        (repeat refine AWP.seq ?_); refine AWP.cond (b := false) (by simp) ?_; simp only [if_true, if_false, Bool.false_eq_true]
        refine AWP.skip ?_; simp only [onNormal, onExit]
        (repeat refine AWP.seq ?_)
        refine AWP.region_last hcall rfl fun K hK => ?_
        simp [t5]
        apply hK; clear hK K; simp only [onNormal, onExit]
        (try refine AWP.ret ?_); (try simp only [onNormal, onExit]); refine ⟨by simp, ⟨_, rfl, by simp [ares1]⟩, fun k row hk => ?_⟩
        exact hk
  · cases h
end Go.Proofs.YtbllpnjappddeaaGreat.Den
end
