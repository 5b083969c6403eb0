/- Equality of two numbers in a struct, as an operation of the abstract memory. -/
import Derived.Test.YtjinjfblilacaaaGreatKDenR
import Derived.Test.YtjinjfblilacaaaGreatKBgA
set_option linter.unusedVariables false
set_option linter.unusedSimpArgs false
section
set_option linter.unusedSimpArgs false
set_option linter.unusedVariables false
set_option maxRecDepth 100000
namespace Go.Proofs.YtjinjfblilacaaaGreat.Den
open Go
variable {P : Program}
theorem peek_prog : peek P program = some P := rfl
theorem peek_i64 {e : TypeId} (he : P.underlying e = some (.int .i64)) (d : Nat) (a b : Int) : peek P (Op.equalIn (d + 1) e (.int .i64 a) (.int .i64 b)) = some (a == b) := by
  unfold Op.equalIn
  rw [peek_bind, peek_underlying he]
  simp [peek_pure]
theorem peek_eq_pair {d : Nat} {t : TypeId} {f0 f1 : Field} (hu : P.underlying t = some (.struct #[f0, f1])) (hst : P.stoodInHeld t = false) (n0 : f0.name ≠ "_") (n1 : f1.name ≠ "_") (t0 : P.underlying f0.type = some (.int .i64)) (t1 : P.underlying f1.type = some (.int .i64)) (o0 : f0.offset = 0) (o1 : f1.offset = 1) (a b c e : Int) :
    peek P (Op.equalIn (d + 2) t (.agg #[.int .i64 a, .int .i64 b]) (.agg #[.int .i64 c, .int .i64 e])) = some (a == c && b == e) := by
  have p0 : ∀ x y : Int, peek P (part f0.type #[.int .i64 x, .int .i64 y] f0.offset) = some (.int .i64 x) := fun x y => by
    simp only [part, peek_bind, isAgg, peek_underlying t0, Option.bind_some, peek_pure, o0]
    simp [peek_pure]
  have p1 : ∀ x y : Int, peek P (part f1.type #[.int .i64 x, .int .i64 y] f1.offset) = some (.int .i64 y) := fun x y => by
    simp only [part, peek_bind, isAgg, peek_underlying t1, Option.bind_some, peek_pure, o1]
    simp [peek_pure]
  unfold Op.equalIn
  rw [peek_bind, peek_underlying hu]
  simp only [Option.bind_some, peek_bind, peek_prog, hst, Bool.false_eq_true, if_false]
  simp [n0, n1, peek_bind, p0, p1, peek_i64 t0, peek_i64 t1, peek_pure]
  by_cases h1 : a = c
  · by_cases h2 : b = e
    · simp [h1, h2, peek_pure, peek_bind, p1, peek_i64 t1]
    · simp [h1, h2, peek_pure, peek_bind, p1, peek_i64 t1]
  · simp [h1, peek_pure, peek_bind, p1, peek_i64 t1]
theorem aeq_pair {t : TypeId} {f0 f1 : Field} (hu : P.underlying t = some (.struct #[f0, f1])) (hst : P.stoodInHeld t = false) (n0 : f0.name ≠ "_") (n1 : f1.name ≠ "_") (t0 : P.underlying f0.type = some (.int .i64)) (t1 : P.underlying f1.type = some (.int .i64)) (o0 : f0.offset = 0) (o1 : f1.offset = 1) (hdep : P.eqGuardType P.depth t = false) (a b c e : Int) (neg : Bool) (x y : Operand) :
    aeq P neg t x y (.agg [.val (.int .i64 a), .val (.int .i64 b)]) (.agg [.val (.int .i64 c), .val (.int .i64 e)]) = some (.val (.bool ((a == c && b == e) != neg))) := by
  have hprog : peek P program = some P := rfl
  have heq : peek P (Op.equal t (.agg #[.int .i64 a, .int .i64 b]) (.agg #[.int .i64 c, .int .i64 e])) = some (a == c && b == e) := peek_eq_pair (d := 9998) hu hst n0 n1 t0 t1 o0 o1 a b c e
  have hguard : peek P (eqGuard (if neg then .neq else .eql) t x y (.agg #[.int .i64 a, .int .i64 b]) (.agg #[.int .i64 c, .int .i64 e])) = some () := by
    unfold eqGuard
    cases neg <;> simp [peek_bind, hprog, hdep, peek_pure]
  simp only [aeq, AV.toVal?, allVals, Option.map_some, peek_bind, hguard, Option.bind_some]
  cases neg <;> simp [binOp, peek_bind, heq, peek_pure, peek_map]
end Go.Proofs.YtjinjfblilacaaaGreat.Den
end
section
set_option linter.unusedSimpArgs false
set_option linter.unusedVariables false
set_option maxRecDepth 100000
namespace Go.Proofs.YtjinjfblilacaaaGreat.Den
open Go.RowKit FI
attribute [local simp] runList aop abuiltin acall awanted ayielded env T0 tput tset Ran aload astore setMany upd binV aslice aindexAddr apart aindex alen acopy srcCells natOf boundOf aeq AV.nilEq convV appK fillA List.range List.range.loop onF isU8 rowOf
theorem aeq_id (a b c e : Int) (neg : Bool) (x y : Operand) : aeq Tryz.prog neg 31 x y (.agg [vi a, vi b]) (.agg [vi c, vi e]) = some (vb ((a == c && b == e) != neg)) :=
  aeq_pair (f0 := { name := "Host", type := 3, offset := 0, embedded := false, tag := "", pkgPath := "", byteOffset := 0 }) (f1 := { name := "N", type := 3, offset := 1, embedded := false, tag := "", pkgPath := "", byteOffset := 8 }) (by kernel_rfl) (by kernel_rfl) (by decide) (by decide) (by kernel_rfl) (by kernel_rfl) rfl rfl (by kernel_rfl) a b c e neg x y
theorem aeq_addr (a b c e : Int) (neg : Bool) (x y : Operand) : aeq Tryz.prog neg 28 x y (.agg [vi a, vi b]) (.agg [vi c, vi e]) = some (vb ((a == c && b == e) != neg)) :=
  aeq_pair (f0 := { name := "D", type := 3, offset := 0, embedded := false, tag := "", pkgPath := "", byteOffset := 0 }) (f1 := { name := "U", type := 3, offset := 1, embedded := false, tag := "", pkgPath := "", byteOffset := 8 }) (by kernel_rfl) (by kernel_rfl) (by decide) (by decide) (by kernel_rfl) (by kernel_rfl) rfl rfl (by kernel_rfl) a b c e neg x y
theorem user_sim {a b d : Int} (h1 : a = d) (h2 : 0 <= d) (h3 : d < 3) (h4 : 0 <= b) (h5 : b < 8) (nm : Name) (H : AHeap) : Sim Tryz.prog 65 [.agg [vi a, vi b], vi d] nm H (vb true) H := by
  have hcall := @noCall_ok Tryz.prog
  refine sim_pure Tryz.func65 rfl rfl (Nat.le_of_ble_eq_true rfl) ?_ H
  (repeat refine AWP.seq ?_)
  refine AWP.region_last hcall rfl fun K hK => ?_
  simp
  apply hK; clear hK K; simp only [onNormal, onExit]
  (repeat refine AWP.seq ?_)
  refine AWP.region_ops hcall rfl fun ops' hops K hK => ?_
  have o_0 := op_at hops 0 rfl
  have o_1 := op_at hops 1 rfl
  have o_2 := op_at hops 2 rfl
  have o_3 := op_at hops 3 rfl
  have o_4 := op_at hops 4 rfl
  have o_5 := op_at hops 5 rfl
  have o_6 := op_at hops 6 rfl
  have o_7 := op_at hops 7 rfl
  have o_8 := op_at hops 8 rfl
  have o_9 := op_at hops 9 rfl
  have o_10 := op_at hops 10 rfl
  have o_11 := op_at hops 11 rfl
  have o_12 := op_at hops 12 rfl
  have o_13 := op_at hops 13 rfl
  have o_14 := op_at hops 14 rfl
  have o_15 := op_at hops 15 rfl
  have o_16 := op_at hops 16 rfl
  have o_17 := op_at hops 17 rfl
  have o_18 := op_at hops 18 rfl
  have o_19 := op_at hops 19 rfl
  have o_20 := op_at hops 20 rfl
  have o_21 := op_at hops 21 rfl
  have o_22 := op_at hops 22 rfl
  have o_sz : ops'.size = 23 := op_sz hops rfl
  clear hops
  rw [o_sz]
  change Ran K _ (runList _ _ ops' _ _ [0, 1, 2, 3, 4, 5, 6, 7, 8, 9, 10, 11, 12, 13, 14, 15, 16, 17, 18, 19, 20, 21, 22] _ _)
  first | (refine run_ex (d := (some 5)) o_0 rfl ?_ ?_; · (simp [o_0, o_1, o_2, o_3, o_4, o_5, o_6, o_7, o_8, o_9, o_10, o_11, o_12, o_13, o_14, o_15, o_16, o_17, o_18, o_19, o_20, o_21, o_22, h1, h2, h3, h4, h5]; done)) | (refine run_skip (d := (some 5)) o_0 rfl ?_ ?_; · (simp [o_0, o_1, o_2, o_3, o_4, o_5, o_6, o_7, o_8, o_9, o_10, o_11, o_12, o_13, o_14, o_15, o_16, o_17, o_18, o_19, o_20, o_21, o_22, h1, h2, h3, h4, h5]; done))
  try refine ⟨_, by simp [h1, h2, h3, h4, h5]; try rfl, ?_⟩
  first | (refine run_ex (d := (some 6)) o_1 rfl ?_ ?_; · (simp [o_0, o_1, o_2, o_3, o_4, o_5, o_6, o_7, o_8, o_9, o_10, o_11, o_12, o_13, o_14, o_15, o_16, o_17, o_18, o_19, o_20, o_21, o_22, h1, h2, h3, h4, h5]; done)) | (refine run_skip (d := (some 6)) o_1 rfl ?_ ?_; · (simp [o_0, o_1, o_2, o_3, o_4, o_5, o_6, o_7, o_8, o_9, o_10, o_11, o_12, o_13, o_14, o_15, o_16, o_17, o_18, o_19, o_20, o_21, o_22, h1, h2, h3, h4, h5]; done))
  try refine ⟨_, by simp [h1, h2, h3, h4, h5]; try rfl, ?_⟩
  first | (refine run_ex (d := (some 7)) o_2 rfl ?_ ?_; · (simp [o_0, o_1, o_2, o_3, o_4, o_5, o_6, o_7, o_8, o_9, o_10, o_11, o_12, o_13, o_14, o_15, o_16, o_17, o_18, o_19, o_20, o_21, o_22, h1, h2, h3, h4, h5]; done)) | (refine run_skip (d := (some 7)) o_2 rfl ?_ ?_; · (simp [o_0, o_1, o_2, o_3, o_4, o_5, o_6, o_7, o_8, o_9, o_10, o_11, o_12, o_13, o_14, o_15, o_16, o_17, o_18, o_19, o_20, o_21, o_22, h1, h2, h3, h4, h5]; done))
  try refine ⟨_, by simp [h1, h2, h3, h4, h5]; try rfl, ?_⟩
  first | (refine run_ex (d := (some 8)) o_3 rfl ?_ ?_; · (simp [o_0, o_1, o_2, o_3, o_4, o_5, o_6, o_7, o_8, o_9, o_10, o_11, o_12, o_13, o_14, o_15, o_16, o_17, o_18, o_19, o_20, o_21, o_22, h1, h2, h3, h4, h5]; done)) | (refine run_skip (d := (some 8)) o_3 rfl ?_ ?_; · (simp [o_0, o_1, o_2, o_3, o_4, o_5, o_6, o_7, o_8, o_9, o_10, o_11, o_12, o_13, o_14, o_15, o_16, o_17, o_18, o_19, o_20, o_21, o_22, h1, h2, h3, h4, h5]; done))
  try refine ⟨_, by simp [h1, h2, h3, h4, h5]; try rfl, ?_⟩
  first | (refine run_ex (d := (some 9)) o_4 rfl ?_ ?_; · (simp [o_0, o_1, o_2, o_3, o_4, o_5, o_6, o_7, o_8, o_9, o_10, o_11, o_12, o_13, o_14, o_15, o_16, o_17, o_18, o_19, o_20, o_21, o_22, h1, h2, h3, h4, h5]; done)) | (refine run_skip (d := (some 9)) o_4 rfl ?_ ?_; · (simp [o_0, o_1, o_2, o_3, o_4, o_5, o_6, o_7, o_8, o_9, o_10, o_11, o_12, o_13, o_14, o_15, o_16, o_17, o_18, o_19, o_20, o_21, o_22, h1, h2, h3, h4, h5]; done))
  try refine ⟨_, by simp [h1, h2, h3, h4, h5]; try rfl, ?_⟩
  first | (refine run_ex (d := (some 10)) o_5 rfl ?_ ?_; · (simp [o_0, o_1, o_2, o_3, o_4, o_5, o_6, o_7, o_8, o_9, o_10, o_11, o_12, o_13, o_14, o_15, o_16, o_17, o_18, o_19, o_20, o_21, o_22, h1, h2, h3, h4, h5]; done)) | (refine run_skip (d := (some 10)) o_5 rfl ?_ ?_; · (simp [o_0, o_1, o_2, o_3, o_4, o_5, o_6, o_7, o_8, o_9, o_10, o_11, o_12, o_13, o_14, o_15, o_16, o_17, o_18, o_19, o_20, o_21, o_22, h1, h2, h3, h4, h5]; done))
  try refine ⟨_, by simp [h1, h2, h3, h4, h5]; try rfl, ?_⟩
  first | (refine run_ex (d := (some 11)) o_6 rfl ?_ ?_; · (simp [o_0, o_1, o_2, o_3, o_4, o_5, o_6, o_7, o_8, o_9, o_10, o_11, o_12, o_13, o_14, o_15, o_16, o_17, o_18, o_19, o_20, o_21, o_22, h1, h2, h3, h4, h5]; done)) | (refine run_skip (d := (some 11)) o_6 rfl ?_ ?_; · (simp [o_0, o_1, o_2, o_3, o_4, o_5, o_6, o_7, o_8, o_9, o_10, o_11, o_12, o_13, o_14, o_15, o_16, o_17, o_18, o_19, o_20, o_21, o_22, h1, h2, h3, h4, h5]; done))
  try refine ⟨_, by simp [h1, h2, h3, h4, h5]; try rfl, ?_⟩
  first | (refine run_ex (d := (some 12)) o_7 rfl ?_ ?_; · (simp [o_0, o_1, o_2, o_3, o_4, o_5, o_6, o_7, o_8, o_9, o_10, o_11, o_12, o_13, o_14, o_15, o_16, o_17, o_18, o_19, o_20, o_21, o_22, h1, h2, h3, h4, h5]; done)) | (refine run_skip (d := (some 12)) o_7 rfl ?_ ?_; · (simp [o_0, o_1, o_2, o_3, o_4, o_5, o_6, o_7, o_8, o_9, o_10, o_11, o_12, o_13, o_14, o_15, o_16, o_17, o_18, o_19, o_20, o_21, o_22, h1, h2, h3, h4, h5]; done))
  try refine ⟨_, by simp [h1, h2, h3, h4, h5]; try rfl, ?_⟩
  first | (refine run_ex (d := (some 13)) o_8 rfl ?_ ?_; · (simp [o_0, o_1, o_2, o_3, o_4, o_5, o_6, o_7, o_8, o_9, o_10, o_11, o_12, o_13, o_14, o_15, o_16, o_17, o_18, o_19, o_20, o_21, o_22, h1, h2, h3, h4, h5]; done)) | (refine run_skip (d := (some 13)) o_8 rfl ?_ ?_; · (simp [o_0, o_1, o_2, o_3, o_4, o_5, o_6, o_7, o_8, o_9, o_10, o_11, o_12, o_13, o_14, o_15, o_16, o_17, o_18, o_19, o_20, o_21, o_22, h1, h2, h3, h4, h5]; done))
  try refine ⟨_, by simp [h1, h2, h3, h4, h5]; try rfl, ?_⟩
  first | (refine run_ex (d := (some 14)) o_9 rfl ?_ ?_; · (simp [o_0, o_1, o_2, o_3, o_4, o_5, o_6, o_7, o_8, o_9, o_10, o_11, o_12, o_13, o_14, o_15, o_16, o_17, o_18, o_19, o_20, o_21, o_22, h1, h2, h3, h4, h5]; done)) | (refine run_skip (d := (some 14)) o_9 rfl ?_ ?_; · (simp [o_0, o_1, o_2, o_3, o_4, o_5, o_6, o_7, o_8, o_9, o_10, o_11, o_12, o_13, o_14, o_15, o_16, o_17, o_18, o_19, o_20, o_21, o_22, h1, h2, h3, h4, h5]; done))
  try refine ⟨_, by simp [h1, h2, h3, h4, h5]; try rfl, ?_⟩
  first | (refine run_ex (d := (some 15)) o_10 rfl ?_ ?_; · (simp [o_0, o_1, o_2, o_3, o_4, o_5, o_6, o_7, o_8, o_9, o_10, o_11, o_12, o_13, o_14, o_15, o_16, o_17, o_18, o_19, o_20, o_21, o_22, h1, h2, h3, h4, h5]; done)) | (refine run_skip (d := (some 15)) o_10 rfl ?_ ?_; · (simp [o_0, o_1, o_2, o_3, o_4, o_5, o_6, o_7, o_8, o_9, o_10, o_11, o_12, o_13, o_14, o_15, o_16, o_17, o_18, o_19, o_20, o_21, o_22, h1, h2, h3, h4, h5]; done))
  try refine ⟨_, by simp [h1, h2, h3, h4, h5]; try rfl, ?_⟩
  first | (refine run_ex (d := (some 16)) o_11 rfl ?_ ?_; · (simp [o_0, o_1, o_2, o_3, o_4, o_5, o_6, o_7, o_8, o_9, o_10, o_11, o_12, o_13, o_14, o_15, o_16, o_17, o_18, o_19, o_20, o_21, o_22, h1, h2, h3, h4, h5]; done)) | (refine run_skip (d := (some 16)) o_11 rfl ?_ ?_; · (simp [o_0, o_1, o_2, o_3, o_4, o_5, o_6, o_7, o_8, o_9, o_10, o_11, o_12, o_13, o_14, o_15, o_16, o_17, o_18, o_19, o_20, o_21, o_22, h1, h2, h3, h4, h5]; done))
  try refine ⟨_, by simp [h1, h2, h3, h4, h5]; try rfl, ?_⟩
  first | (refine run_ex (d := (some 17)) o_12 rfl ?_ ?_; · (simp [o_0, o_1, o_2, o_3, o_4, o_5, o_6, o_7, o_8, o_9, o_10, o_11, o_12, o_13, o_14, o_15, o_16, o_17, o_18, o_19, o_20, o_21, o_22, h1, h2, h3, h4, h5]; done)) | (refine run_skip (d := (some 17)) o_12 rfl ?_ ?_; · (simp [o_0, o_1, o_2, o_3, o_4, o_5, o_6, o_7, o_8, o_9, o_10, o_11, o_12, o_13, o_14, o_15, o_16, o_17, o_18, o_19, o_20, o_21, o_22, h1, h2, h3, h4, h5]; done))
  try refine ⟨_, by simp [h1, h2, h3, h4, h5]; try rfl, ?_⟩
  first | (refine run_ex (d := (some 18)) o_13 rfl ?_ ?_; · (simp [o_0, o_1, o_2, o_3, o_4, o_5, o_6, o_7, o_8, o_9, o_10, o_11, o_12, o_13, o_14, o_15, o_16, o_17, o_18, o_19, o_20, o_21, o_22, h1, h2, h3, h4, h5]; done)) | (refine run_skip (d := (some 18)) o_13 rfl ?_ ?_; · (simp [o_0, o_1, o_2, o_3, o_4, o_5, o_6, o_7, o_8, o_9, o_10, o_11, o_12, o_13, o_14, o_15, o_16, o_17, o_18, o_19, o_20, o_21, o_22, h1, h2, h3, h4, h5]; done))
  try refine ⟨_, by simp [h1, h2, h3, h4, h5]; try rfl, ?_⟩
  first | (refine run_ex (d := (some 19)) o_14 rfl ?_ ?_; · (simp [o_0, o_1, o_2, o_3, o_4, o_5, o_6, o_7, o_8, o_9, o_10, o_11, o_12, o_13, o_14, o_15, o_16, o_17, o_18, o_19, o_20, o_21, o_22, h1, h2, h3, h4, h5]; done)) | (refine run_skip (d := (some 19)) o_14 rfl ?_ ?_; · (simp [o_0, o_1, o_2, o_3, o_4, o_5, o_6, o_7, o_8, o_9, o_10, o_11, o_12, o_13, o_14, o_15, o_16, o_17, o_18, o_19, o_20, o_21, o_22, h1, h2, h3, h4, h5]; done))
  try refine ⟨_, by simp [h1, h2, h3, h4, h5]; try rfl, ?_⟩
  first | (refine run_ex (d := (some 20)) o_15 rfl ?_ ?_; · (simp [o_0, o_1, o_2, o_3, o_4, o_5, o_6, o_7, o_8, o_9, o_10, o_11, o_12, o_13, o_14, o_15, o_16, o_17, o_18, o_19, o_20, o_21, o_22, h1, h2, h3, h4, h5]; done)) | (refine run_skip (d := (some 20)) o_15 rfl ?_ ?_; · (simp [o_0, o_1, o_2, o_3, o_4, o_5, o_6, o_7, o_8, o_9, o_10, o_11, o_12, o_13, o_14, o_15, o_16, o_17, o_18, o_19, o_20, o_21, o_22, h1, h2, h3, h4, h5]; done))
  try refine ⟨_, by simp [h1, h2, h3, h4, h5]; try rfl, ?_⟩
  first | (refine run_ex (d := (some 21)) o_16 rfl ?_ ?_; · (simp [o_0, o_1, o_2, o_3, o_4, o_5, o_6, o_7, o_8, o_9, o_10, o_11, o_12, o_13, o_14, o_15, o_16, o_17, o_18, o_19, o_20, o_21, o_22, h1, h2, h3, h4, h5]; done)) | (refine run_skip (d := (some 21)) o_16 rfl ?_ ?_; · (simp [o_0, o_1, o_2, o_3, o_4, o_5, o_6, o_7, o_8, o_9, o_10, o_11, o_12, o_13, o_14, o_15, o_16, o_17, o_18, o_19, o_20, o_21, o_22, h1, h2, h3, h4, h5]; done))
  try refine ⟨_, by simp [h1, h2, h3, h4, h5]; try rfl, ?_⟩
  first | (refine run_ex (d := (some 22)) o_17 rfl ?_ ?_; · (simp [o_0, o_1, o_2, o_3, o_4, o_5, o_6, o_7, o_8, o_9, o_10, o_11, o_12, o_13, o_14, o_15, o_16, o_17, o_18, o_19, o_20, o_21, o_22, h1, h2, h3, h4, h5]; done)) | (refine run_skip (d := (some 22)) o_17 rfl ?_ ?_; · (simp [o_0, o_1, o_2, o_3, o_4, o_5, o_6, o_7, o_8, o_9, o_10, o_11, o_12, o_13, o_14, o_15, o_16, o_17, o_18, o_19, o_20, o_21, o_22, h1, h2, h3, h4, h5]; done))
  try refine ⟨_, by simp [h1, h2, h3, h4, h5]; try rfl, ?_⟩
  first | (refine run_ex (d := (some 23)) o_18 rfl ?_ ?_; · (simp [o_0, o_1, o_2, o_3, o_4, o_5, o_6, o_7, o_8, o_9, o_10, o_11, o_12, o_13, o_14, o_15, o_16, o_17, o_18, o_19, o_20, o_21, o_22, h1, h2, h3, h4, h5]; done)) | (refine run_skip (d := (some 23)) o_18 rfl ?_ ?_; · (simp [o_0, o_1, o_2, o_3, o_4, o_5, o_6, o_7, o_8, o_9, o_10, o_11, o_12, o_13, o_14, o_15, o_16, o_17, o_18, o_19, o_20, o_21, o_22, h1, h2, h3, h4, h5]; done))
  try refine ⟨_, by simp [h1, h2, h3, h4, h5]; try rfl, ?_⟩
  first | (refine run_ex (d := (some 24)) o_19 rfl ?_ ?_; · (simp [o_0, o_1, o_2, o_3, o_4, o_5, o_6, o_7, o_8, o_9, o_10, o_11, o_12, o_13, o_14, o_15, o_16, o_17, o_18, o_19, o_20, o_21, o_22, h1, h2, h3, h4, h5]; done)) | (refine run_skip (d := (some 24)) o_19 rfl ?_ ?_; · (simp [o_0, o_1, o_2, o_3, o_4, o_5, o_6, o_7, o_8, o_9, o_10, o_11, o_12, o_13, o_14, o_15, o_16, o_17, o_18, o_19, o_20, o_21, o_22, h1, h2, h3, h4, h5]; done))
  try refine ⟨_, by simp [h1, h2, h3, h4, h5]; try rfl, ?_⟩
  first | (refine run_ex (d := (some 25)) o_20 rfl ?_ ?_; · (simp [o_0, o_1, o_2, o_3, o_4, o_5, o_6, o_7, o_8, o_9, o_10, o_11, o_12, o_13, o_14, o_15, o_16, o_17, o_18, o_19, o_20, o_21, o_22, h1, h2, h3, h4, h5]; done)) | (refine run_skip (d := (some 25)) o_20 rfl ?_ ?_; · (simp [o_0, o_1, o_2, o_3, o_4, o_5, o_6, o_7, o_8, o_9, o_10, o_11, o_12, o_13, o_14, o_15, o_16, o_17, o_18, o_19, o_20, o_21, o_22, h1, h2, h3, h4, h5]; done))
  try refine ⟨_, by simp [h1, h2, h3, h4, h5]; try rfl, ?_⟩
  first | (refine run_ex (d := (some 26)) o_21 rfl ?_ ?_; · (simp [o_0, o_1, o_2, o_3, o_4, o_5, o_6, o_7, o_8, o_9, o_10, o_11, o_12, o_13, o_14, o_15, o_16, o_17, o_18, o_19, o_20, o_21, o_22, h1, h2, h3, h4, h5]; done)) | (refine run_skip (d := (some 26)) o_21 rfl ?_ ?_; · (simp [o_0, o_1, o_2, o_3, o_4, o_5, o_6, o_7, o_8, o_9, o_10, o_11, o_12, o_13, o_14, o_15, o_16, o_17, o_18, o_19, o_20, o_21, o_22, h1, h2, h3, h4, h5]; done))
  try refine ⟨_, by simp [h1, h2, h3, h4, h5]; try rfl, ?_⟩
  first | (refine run_ex (d := (some 4)) o_22 rfl ?_ ?_; · (simp [o_0, o_1, o_2, o_3, o_4, o_5, o_6, o_7, o_8, o_9, o_10, o_11, o_12, o_13, o_14, o_15, o_16, o_17, o_18, o_19, o_20, o_21, o_22, h1, h2, h3, h4, h5]; done)) | (refine run_skip (d := (some 4)) o_22 rfl ?_ ?_; · (simp [o_0, o_1, o_2, o_3, o_4, o_5, o_6, o_7, o_8, o_9, o_10, o_11, o_12, o_13, o_14, o_15, o_16, o_17, o_18, o_19, o_20, o_21, o_22, h1, h2, h3, h4, h5]; done))
  try refine ⟨_, by simp [h1, h2, h3, h4, h5]; try rfl, ?_⟩
  refine run_end ?_
  apply hK; clear hK K o_0 o_1 o_2 o_3 o_4 o_5 o_6 o_7 o_8 o_9 o_10 o_11 o_12 o_13 o_14 o_15 o_16 o_17 o_18 o_19 o_20 o_21 o_22 o_sz; simp only [onNormal, onExit, tput]
  (try refine AWP.ret ?_); (try simp only [onNormal, onExit])
  exact ⟨by simp, [_], by simp [ares]; rfl, by simp [ares1]; exact .refl _⟩
theorem user_not {a b d : Int} (h1 : ¬ a = d) (nm : Name) (H : AHeap) : Sim Tryz.prog 65 [.agg [vi a, vi b], vi d] nm H (vb false) H := by
  have hcall := @noCall_ok Tryz.prog
  refine sim_pure Tryz.func65 rfl rfl (Nat.le_of_ble_eq_true rfl) ?_ H
  (repeat refine AWP.seq ?_)
  refine AWP.region_last hcall rfl fun K hK => ?_
  simp
  apply hK; clear hK K; simp only [onNormal, onExit]
  (repeat refine AWP.seq ?_)
  refine AWP.region_ops hcall rfl fun ops' hops K hK => ?_
  have o_0 := op_at hops 0 rfl
  have o_1 := op_at hops 1 rfl
  have o_2 := op_at hops 2 rfl
  have o_3 := op_at hops 3 rfl
  have o_4 := op_at hops 4 rfl
  have o_5 := op_at hops 5 rfl
  have o_6 := op_at hops 6 rfl
  have o_7 := op_at hops 7 rfl
  have o_8 := op_at hops 8 rfl
  have o_9 := op_at hops 9 rfl
  have o_10 := op_at hops 10 rfl
  have o_11 := op_at hops 11 rfl
  have o_12 := op_at hops 12 rfl
  have o_13 := op_at hops 13 rfl
  have o_14 := op_at hops 14 rfl
  have o_15 := op_at hops 15 rfl
  have o_16 := op_at hops 16 rfl
  have o_17 := op_at hops 17 rfl
  have o_18 := op_at hops 18 rfl
  have o_19 := op_at hops 19 rfl
  have o_20 := op_at hops 20 rfl
  have o_21 := op_at hops 21 rfl
  have o_22 := op_at hops 22 rfl
  have o_sz : ops'.size = 23 := op_sz hops rfl
  clear hops
  rw [o_sz]
  change Ran K _ (runList _ _ ops' _ _ [0, 1, 2, 3, 4, 5, 6, 7, 8, 9, 10, 11, 12, 13, 14, 15, 16, 17, 18, 19, 20, 21, 22] _ _)
  first | (refine run_ex (d := (some 5)) o_0 rfl ?_ ?_; · (simp [o_0, o_1, o_2, o_3, o_4, o_5, o_6, o_7, o_8, o_9, o_10, o_11, o_12, o_13, o_14, o_15, o_16, o_17, o_18, o_19, o_20, o_21, o_22, h1]; done)) | (refine run_skip (d := (some 5)) o_0 rfl ?_ ?_; · (simp [o_0, o_1, o_2, o_3, o_4, o_5, o_6, o_7, o_8, o_9, o_10, o_11, o_12, o_13, o_14, o_15, o_16, o_17, o_18, o_19, o_20, o_21, o_22, h1]; done))
  try refine ⟨_, by simp [h1]; try rfl, ?_⟩
  first | (refine run_ex (d := (some 6)) o_1 rfl ?_ ?_; · (simp [o_0, o_1, o_2, o_3, o_4, o_5, o_6, o_7, o_8, o_9, o_10, o_11, o_12, o_13, o_14, o_15, o_16, o_17, o_18, o_19, o_20, o_21, o_22, h1]; done)) | (refine run_skip (d := (some 6)) o_1 rfl ?_ ?_; · (simp [o_0, o_1, o_2, o_3, o_4, o_5, o_6, o_7, o_8, o_9, o_10, o_11, o_12, o_13, o_14, o_15, o_16, o_17, o_18, o_19, o_20, o_21, o_22, h1]; done))
  try refine ⟨_, by simp [h1]; try rfl, ?_⟩
  first | (refine run_ex (d := (some 7)) o_2 rfl ?_ ?_; · (simp [o_0, o_1, o_2, o_3, o_4, o_5, o_6, o_7, o_8, o_9, o_10, o_11, o_12, o_13, o_14, o_15, o_16, o_17, o_18, o_19, o_20, o_21, o_22, h1]; done)) | (refine run_skip (d := (some 7)) o_2 rfl ?_ ?_; · (simp [o_0, o_1, o_2, o_3, o_4, o_5, o_6, o_7, o_8, o_9, o_10, o_11, o_12, o_13, o_14, o_15, o_16, o_17, o_18, o_19, o_20, o_21, o_22, h1]; done))
  try refine ⟨_, by simp [h1]; try rfl, ?_⟩
  first | (refine run_ex (d := (some 8)) o_3 rfl ?_ ?_; · (simp [o_0, o_1, o_2, o_3, o_4, o_5, o_6, o_7, o_8, o_9, o_10, o_11, o_12, o_13, o_14, o_15, o_16, o_17, o_18, o_19, o_20, o_21, o_22, h1]; done)) | (refine run_skip (d := (some 8)) o_3 rfl ?_ ?_; · (simp [o_0, o_1, o_2, o_3, o_4, o_5, o_6, o_7, o_8, o_9, o_10, o_11, o_12, o_13, o_14, o_15, o_16, o_17, o_18, o_19, o_20, o_21, o_22, h1]; done))
  try refine ⟨_, by simp [h1]; try rfl, ?_⟩
  first | (refine run_ex (d := (some 9)) o_4 rfl ?_ ?_; · (simp [o_0, o_1, o_2, o_3, o_4, o_5, o_6, o_7, o_8, o_9, o_10, o_11, o_12, o_13, o_14, o_15, o_16, o_17, o_18, o_19, o_20, o_21, o_22, h1]; done)) | (refine run_skip (d := (some 9)) o_4 rfl ?_ ?_; · (simp [o_0, o_1, o_2, o_3, o_4, o_5, o_6, o_7, o_8, o_9, o_10, o_11, o_12, o_13, o_14, o_15, o_16, o_17, o_18, o_19, o_20, o_21, o_22, h1]; done))
  try refine ⟨_, by simp [h1]; try rfl, ?_⟩
  first | (refine run_ex (d := (some 10)) o_5 rfl ?_ ?_; · (simp [o_0, o_1, o_2, o_3, o_4, o_5, o_6, o_7, o_8, o_9, o_10, o_11, o_12, o_13, o_14, o_15, o_16, o_17, o_18, o_19, o_20, o_21, o_22, h1]; done)) | (refine run_skip (d := (some 10)) o_5 rfl ?_ ?_; · (simp [o_0, o_1, o_2, o_3, o_4, o_5, o_6, o_7, o_8, o_9, o_10, o_11, o_12, o_13, o_14, o_15, o_16, o_17, o_18, o_19, o_20, o_21, o_22, h1]; done))
  try refine ⟨_, by simp [h1]; try rfl, ?_⟩
  first | (refine run_ex (d := (some 11)) o_6 rfl ?_ ?_; · (simp [o_0, o_1, o_2, o_3, o_4, o_5, o_6, o_7, o_8, o_9, o_10, o_11, o_12, o_13, o_14, o_15, o_16, o_17, o_18, o_19, o_20, o_21, o_22, h1]; done)) | (refine run_skip (d := (some 11)) o_6 rfl ?_ ?_; · (simp [o_0, o_1, o_2, o_3, o_4, o_5, o_6, o_7, o_8, o_9, o_10, o_11, o_12, o_13, o_14, o_15, o_16, o_17, o_18, o_19, o_20, o_21, o_22, h1]; done))
  try refine ⟨_, by simp [h1]; try rfl, ?_⟩
  first | (refine run_ex (d := (some 12)) o_7 rfl ?_ ?_; · (simp [o_0, o_1, o_2, o_3, o_4, o_5, o_6, o_7, o_8, o_9, o_10, o_11, o_12, o_13, o_14, o_15, o_16, o_17, o_18, o_19, o_20, o_21, o_22, h1]; done)) | (refine run_skip (d := (some 12)) o_7 rfl ?_ ?_; · (simp [o_0, o_1, o_2, o_3, o_4, o_5, o_6, o_7, o_8, o_9, o_10, o_11, o_12, o_13, o_14, o_15, o_16, o_17, o_18, o_19, o_20, o_21, o_22, h1]; done))
  try refine ⟨_, by simp [h1]; try rfl, ?_⟩
  first | (refine run_ex (d := (some 13)) o_8 rfl ?_ ?_; · (simp [o_0, o_1, o_2, o_3, o_4, o_5, o_6, o_7, o_8, o_9, o_10, o_11, o_12, o_13, o_14, o_15, o_16, o_17, o_18, o_19, o_20, o_21, o_22, h1]; done)) | (refine run_skip (d := (some 13)) o_8 rfl ?_ ?_; · (simp [o_0, o_1, o_2, o_3, o_4, o_5, o_6, o_7, o_8, o_9, o_10, o_11, o_12, o_13, o_14, o_15, o_16, o_17, o_18, o_19, o_20, o_21, o_22, h1]; done))
  try refine ⟨_, by simp [h1]; try rfl, ?_⟩
  first | (refine run_ex (d := (some 14)) o_9 rfl ?_ ?_; · (simp [o_0, o_1, o_2, o_3, o_4, o_5, o_6, o_7, o_8, o_9, o_10, o_11, o_12, o_13, o_14, o_15, o_16, o_17, o_18, o_19, o_20, o_21, o_22, h1]; done)) | (refine run_skip (d := (some 14)) o_9 rfl ?_ ?_; · (simp [o_0, o_1, o_2, o_3, o_4, o_5, o_6, o_7, o_8, o_9, o_10, o_11, o_12, o_13, o_14, o_15, o_16, o_17, o_18, o_19, o_20, o_21, o_22, h1]; done))
  try refine ⟨_, by simp [h1]; try rfl, ?_⟩
  first | (refine run_ex (d := (some 15)) o_10 rfl ?_ ?_; · (simp [o_0, o_1, o_2, o_3, o_4, o_5, o_6, o_7, o_8, o_9, o_10, o_11, o_12, o_13, o_14, o_15, o_16, o_17, o_18, o_19, o_20, o_21, o_22, h1]; done)) | (refine run_skip (d := (some 15)) o_10 rfl ?_ ?_; · (simp [o_0, o_1, o_2, o_3, o_4, o_5, o_6, o_7, o_8, o_9, o_10, o_11, o_12, o_13, o_14, o_15, o_16, o_17, o_18, o_19, o_20, o_21, o_22, h1]; done))
  try refine ⟨_, by simp [h1]; try rfl, ?_⟩
  first | (refine run_ex (d := (some 16)) o_11 rfl ?_ ?_; · (simp [o_0, o_1, o_2, o_3, o_4, o_5, o_6, o_7, o_8, o_9, o_10, o_11, o_12, o_13, o_14, o_15, o_16, o_17, o_18, o_19, o_20, o_21, o_22, h1]; done)) | (refine run_skip (d := (some 16)) o_11 rfl ?_ ?_; · (simp [o_0, o_1, o_2, o_3, o_4, o_5, o_6, o_7, o_8, o_9, o_10, o_11, o_12, o_13, o_14, o_15, o_16, o_17, o_18, o_19, o_20, o_21, o_22, h1]; done))
  try refine ⟨_, by simp [h1]; try rfl, ?_⟩
  first | (refine run_ex (d := (some 17)) o_12 rfl ?_ ?_; · (simp [o_0, o_1, o_2, o_3, o_4, o_5, o_6, o_7, o_8, o_9, o_10, o_11, o_12, o_13, o_14, o_15, o_16, o_17, o_18, o_19, o_20, o_21, o_22, h1]; done)) | (refine run_skip (d := (some 17)) o_12 rfl ?_ ?_; · (simp [o_0, o_1, o_2, o_3, o_4, o_5, o_6, o_7, o_8, o_9, o_10, o_11, o_12, o_13, o_14, o_15, o_16, o_17, o_18, o_19, o_20, o_21, o_22, h1]; done))
  try refine ⟨_, by simp [h1]; try rfl, ?_⟩
  first | (refine run_ex (d := (some 18)) o_13 rfl ?_ ?_; · (simp [o_0, o_1, o_2, o_3, o_4, o_5, o_6, o_7, o_8, o_9, o_10, o_11, o_12, o_13, o_14, o_15, o_16, o_17, o_18, o_19, o_20, o_21, o_22, h1]; done)) | (refine run_skip (d := (some 18)) o_13 rfl ?_ ?_; · (simp [o_0, o_1, o_2, o_3, o_4, o_5, o_6, o_7, o_8, o_9, o_10, o_11, o_12, o_13, o_14, o_15, o_16, o_17, o_18, o_19, o_20, o_21, o_22, h1]; done))
  try refine ⟨_, by simp [h1]; try rfl, ?_⟩
  first | (refine run_ex (d := (some 19)) o_14 rfl ?_ ?_; · (simp [o_0, o_1, o_2, o_3, o_4, o_5, o_6, o_7, o_8, o_9, o_10, o_11, o_12, o_13, o_14, o_15, o_16, o_17, o_18, o_19, o_20, o_21, o_22, h1]; done)) | (refine run_skip (d := (some 19)) o_14 rfl ?_ ?_; · (simp [o_0, o_1, o_2, o_3, o_4, o_5, o_6, o_7, o_8, o_9, o_10, o_11, o_12, o_13, o_14, o_15, o_16, o_17, o_18, o_19, o_20, o_21, o_22, h1]; done))
  try refine ⟨_, by simp [h1]; try rfl, ?_⟩
  first | (refine run_ex (d := (some 20)) o_15 rfl ?_ ?_; · (simp [o_0, o_1, o_2, o_3, o_4, o_5, o_6, o_7, o_8, o_9, o_10, o_11, o_12, o_13, o_14, o_15, o_16, o_17, o_18, o_19, o_20, o_21, o_22, h1]; done)) | (refine run_skip (d := (some 20)) o_15 rfl ?_ ?_; · (simp [o_0, o_1, o_2, o_3, o_4, o_5, o_6, o_7, o_8, o_9, o_10, o_11, o_12, o_13, o_14, o_15, o_16, o_17, o_18, o_19, o_20, o_21, o_22, h1]; done))
  try refine ⟨_, by simp [h1]; try rfl, ?_⟩
  first | (refine run_ex (d := (some 21)) o_16 rfl ?_ ?_; · (simp [o_0, o_1, o_2, o_3, o_4, o_5, o_6, o_7, o_8, o_9, o_10, o_11, o_12, o_13, o_14, o_15, o_16, o_17, o_18, o_19, o_20, o_21, o_22, h1]; done)) | (refine run_skip (d := (some 21)) o_16 rfl ?_ ?_; · (simp [o_0, o_1, o_2, o_3, o_4, o_5, o_6, o_7, o_8, o_9, o_10, o_11, o_12, o_13, o_14, o_15, o_16, o_17, o_18, o_19, o_20, o_21, o_22, h1]; done))
  try refine ⟨_, by simp [h1]; try rfl, ?_⟩
  first | (refine run_ex (d := (some 22)) o_17 rfl ?_ ?_; · (simp [o_0, o_1, o_2, o_3, o_4, o_5, o_6, o_7, o_8, o_9, o_10, o_11, o_12, o_13, o_14, o_15, o_16, o_17, o_18, o_19, o_20, o_21, o_22, h1]; done)) | (refine run_skip (d := (some 22)) o_17 rfl ?_ ?_; · (simp [o_0, o_1, o_2, o_3, o_4, o_5, o_6, o_7, o_8, o_9, o_10, o_11, o_12, o_13, o_14, o_15, o_16, o_17, o_18, o_19, o_20, o_21, o_22, h1]; done))
  try refine ⟨_, by simp [h1]; try rfl, ?_⟩
  first | (refine run_ex (d := (some 23)) o_18 rfl ?_ ?_; · (simp [o_0, o_1, o_2, o_3, o_4, o_5, o_6, o_7, o_8, o_9, o_10, o_11, o_12, o_13, o_14, o_15, o_16, o_17, o_18, o_19, o_20, o_21, o_22, h1]; done)) | (refine run_skip (d := (some 23)) o_18 rfl ?_ ?_; · (simp [o_0, o_1, o_2, o_3, o_4, o_5, o_6, o_7, o_8, o_9, o_10, o_11, o_12, o_13, o_14, o_15, o_16, o_17, o_18, o_19, o_20, o_21, o_22, h1]; done))
  try refine ⟨_, by simp [h1]; try rfl, ?_⟩
  first | (refine run_ex (d := (some 24)) o_19 rfl ?_ ?_; · (simp [o_0, o_1, o_2, o_3, o_4, o_5, o_6, o_7, o_8, o_9, o_10, o_11, o_12, o_13, o_14, o_15, o_16, o_17, o_18, o_19, o_20, o_21, o_22, h1]; done)) | (refine run_skip (d := (some 24)) o_19 rfl ?_ ?_; · (simp [o_0, o_1, o_2, o_3, o_4, o_5, o_6, o_7, o_8, o_9, o_10, o_11, o_12, o_13, o_14, o_15, o_16, o_17, o_18, o_19, o_20, o_21, o_22, h1]; done))
  try refine ⟨_, by simp [h1]; try rfl, ?_⟩
  first | (refine run_ex (d := (some 25)) o_20 rfl ?_ ?_; · (simp [o_0, o_1, o_2, o_3, o_4, o_5, o_6, o_7, o_8, o_9, o_10, o_11, o_12, o_13, o_14, o_15, o_16, o_17, o_18, o_19, o_20, o_21, o_22, h1]; done)) | (refine run_skip (d := (some 25)) o_20 rfl ?_ ?_; · (simp [o_0, o_1, o_2, o_3, o_4, o_5, o_6, o_7, o_8, o_9, o_10, o_11, o_12, o_13, o_14, o_15, o_16, o_17, o_18, o_19, o_20, o_21, o_22, h1]; done))
  try refine ⟨_, by simp [h1]; try rfl, ?_⟩
  first | (refine run_ex (d := (some 26)) o_21 rfl ?_ ?_; · (simp [o_0, o_1, o_2, o_3, o_4, o_5, o_6, o_7, o_8, o_9, o_10, o_11, o_12, o_13, o_14, o_15, o_16, o_17, o_18, o_19, o_20, o_21, o_22, h1]; done)) | (refine run_skip (d := (some 26)) o_21 rfl ?_ ?_; · (simp [o_0, o_1, o_2, o_3, o_4, o_5, o_6, o_7, o_8, o_9, o_10, o_11, o_12, o_13, o_14, o_15, o_16, o_17, o_18, o_19, o_20, o_21, o_22, h1]; done))
  try refine ⟨_, by simp [h1]; try rfl, ?_⟩
  first | (refine run_ex (d := (some 4)) o_22 rfl ?_ ?_; · (simp [o_0, o_1, o_2, o_3, o_4, o_5, o_6, o_7, o_8, o_9, o_10, o_11, o_12, o_13, o_14, o_15, o_16, o_17, o_18, o_19, o_20, o_21, o_22, h1]; done)) | (refine run_skip (d := (some 4)) o_22 rfl ?_ ?_; · (simp [o_0, o_1, o_2, o_3, o_4, o_5, o_6, o_7, o_8, o_9, o_10, o_11, o_12, o_13, o_14, o_15, o_16, o_17, o_18, o_19, o_20, o_21, o_22, h1]; done))
  try refine ⟨_, by simp [h1]; try rfl, ?_⟩
  refine run_end ?_
  apply hK; clear hK K o_0 o_1 o_2 o_3 o_4 o_5 o_6 o_7 o_8 o_9 o_10 o_11 o_12 o_13 o_14 o_15 o_16 o_17 o_18 o_19 o_20 o_21 o_22 o_sz; simp only [onNormal, onExit, tput]
  (try refine AWP.ret ?_); (try simp only [onNormal, onExit])
  exact ⟨by simp, [_], by simp [ares]; rfl, by simp [ares1]; exact .refl _⟩
/-- A wavelet's record. -/
def rec0 : List UInt8 := [1]
def rec1 (a : Int) : List UInt8 := rec0 ++ i8 a
def rec2 (a b : Int) : List UInt8 := rec1 a ++ i8 b
def rec3 (a b c : Int) : List UInt8 := rec2 a b ++ i8 c
def recB (a b c d : Int) : List UInt8 := rec3 a b c ++ i8 d
theorem rec1_len (a : Int) : (rec1 a).length = 9 := by rw [rec1, List.length_append, i8_len]; rfl
theorem rec2_len (a b : Int) : (rec2 a b).length = 17 := by rw [rec2, List.length_append, i8_len, rec1_len]
theorem rec3_len (a b c : Int) : (rec3 a b c).length = 25 := by rw [rec3, List.length_append, i8_len, rec2_len]
theorem recB_len (a b c d : Int) : (recB a b c d).length = 33 := by rw [recB, List.length_append, i8_len, rec3_len]
theorem int_on {l : List UInt8} {k : Nat} (hk : l.length = k) (h0 : 0 < k) (h1 : k < 1000) (x : Int) (n nm : Name) (H : AHeap) : intS [.sl n 0 k 1, vi x] nm (upd H n (some (bs l))) = some (.sl nm 0 (k + 8) 1, upd (upd H n (some (bs l))) nm (some (bs (l ++ i8 x)))) := by
  subst hk
  exact int_at (.inr ⟨n, rfl, upd_same _ _ _, h0⟩) (by omega) x nm
set_option maxHeartbeats 1000000 in
theorem named_sim {w : Name} {wrow : List AV} {a b : Int} (nm : Name) (H : AHeap) (hw : H w = some wrow) (h0 : wrow[0]? = some (vi a)) (h1 : wrow[1]? = some (vi b)) :
    Sim Tryz.prog 173 [.ptr w 0, vi 1] nm H (.sl nm 0 17 1) (upd H nm (some (bs (rec2 a b)))) := by
  have hcall := onF_ok byte_ok (onF_ok int_ok (@noCall_ok Tryz.prog))
  have h0' : ∀ h : 0 < wrow.length, wrow[0] = vi a := fun h => (List.getElem?_eq_some_iff.1 h0).2
  have h1' : ∀ h : 1 < wrow.length, wrow[1] = vi b := fun h => (List.getElem?_eq_some_iff.1 h1).2
  have hl1 : 1 < wrow.length := (List.getElem?_eq_some_iff.1 h1).1
  have hb1 : ∀ nm' H', byteS [vnil, vi 1] nm' H' = some (.sl nm' 0 1 1, upd H' nm' (some (bs rec0))) := fun nm' H' => by
    simp [byteS, partC]; rfl
  have hi1 : ∀ n nm' H', intS [.sl n 0 1 1, vi a] nm' (upd H' n (some (bs rec0))) = some (.sl nm' 0 9 1, upd (upd H' n (some (bs rec0))) nm' (some (bs (rec1 a)))) := fun n nm' H' => int_on (l := rec0) rfl (by decide) (by decide) a n nm' H'
  have hi2 : ∀ n nm' H', intS [.sl n 0 9 1, vi b] nm' (upd H' n (some (bs (rec1 a)))) = some (.sl nm' 0 17 1, upd (upd H' n (some (bs (rec1 a)))) nm' (some (bs (rec2 a b)))) := fun n nm' H' => int_on (rec1_len a) (by decide) (by decide) b n nm' H'
  refine sim_row Tryz.func173 rfl rfl (Nat.le_of_ble_eq_true rfl) fun hH => ?_
  (repeat refine AWP.seq ?_)
  refine AWP.region_last hcall rfl fun K hK => ?_
  simp
  apply hK; clear hK K; simp only [onNormal, onExit]
  have hwn : ∀ x, ¬ w = x :: 0 :: nm := fun x e => by have := hH [x]; rw [List.singleton_append, <- e, hw] at this; cases this
  (repeat refine AWP.seq ?_)
  refine AWP.draw_ops rfl hcall [0, 1, 0, 4, 12, 28, 60, 127, 0, 256, 768, 1792, 3840, 8191, 16383] [⟨0, false, []⟩, ⟨1, true, []⟩, ⟨2, false, []⟩, ⟨3, false, []⟩, ⟨4, false, []⟩, ⟨5, false, []⟩, ⟨6, false, [0, 2]⟩, ⟨7, true, []⟩, ⟨8, false, []⟩, ⟨9, false, []⟩, ⟨10, false, []⟩, ⟨11, false, []⟩, ⟨12, false, [0, 2, 8]⟩, ⟨13, true, []⟩, ⟨14, false, []⟩] rfl (by kernel_rfl) fun ops' hops K hK => ?_
  have o_0 := op_at hops 0 rfl
  have o_1 := op_at hops 1 rfl
  have o_2 := op_at hops 2 rfl
  have o_3 := op_at hops 3 rfl
  have o_4 := op_at hops 4 rfl
  have o_5 := op_at hops 5 rfl
  have o_6 := op_at hops 6 rfl
  have o_7 := op_at hops 7 rfl
  have o_8 := op_at hops 8 rfl
  have o_9 := op_at hops 9 rfl
  have o_10 := op_at hops 10 rfl
  have o_11 := op_at hops 11 rfl
  have o_12 := op_at hops 12 rfl
  have o_13 := op_at hops 13 rfl
  have o_14 := op_at hops 14 rfl
  have o_sz : ops'.size = 15 := op_sz hops rfl
  clear hops
  refine planW_ex (d := (some 5)) o_0 rfl rfl ⟨_, by simp [List.lookup, hb1, hi1, hi2, hw, hwn, h0, h0', h1, h1', hl1]; try rfl, trivial, ?_⟩
  clear o_0
  refine planW_ex (d := (some 6)) o_1 rfl rfl ⟨_, by simp [List.lookup, hb1, hi1, hi2, hw, hwn, h0, h0', h1, h1', hl1]; try rfl, trivial, ?_⟩
  clear o_1
  refine planW_ex (d := (some 7)) o_2 rfl rfl ⟨_, by simp [List.lookup, hb1, hi1, hi2, hw, hwn, h0, h0', h1, h1', hl1]; try rfl, trivial, ?_⟩
  clear o_2
  refine planW_ex (d := (some 8)) o_3 rfl rfl ⟨_, by simp [List.lookup, hb1, hi1, hi2, hw, hwn, h0, h0', h1, h1', hl1]; try rfl, trivial, ?_⟩
  clear o_3
  refine planW_ex (d := (some 9)) o_4 rfl rfl ⟨_, by simp [List.lookup, hb1, hi1, hi2, hw, hwn, h0, h0', h1, h1', hl1]; try rfl, trivial, ?_⟩
  clear o_4
  refine planW_ex (d := (some 10)) o_5 rfl rfl ⟨_, by simp [List.lookup, hb1, hi1, hi2, hw, hwn, h0, h0', h1, h1', hl1]; try rfl, trivial, ?_⟩
  clear o_5
  refine planW_ex (d := (some 11)) o_6 rfl rfl ⟨_, by simp [List.lookup, hb1, hi1, hi2, hw, hwn, h0, h0', h1, h1', hl1]; try rfl, by simp [chkW, List.lookup, List.lookup, hb1, hi1, hi2, hw, hwn, h0, h0', h1, h1', hl1], ?_⟩
  clear o_6
  refine planW_ex (d := (some 12)) o_7 rfl rfl ⟨_, by simp [List.lookup, hb1, hi1, hi2, hw, hwn, h0, h0', h1, h1', hl1]; try rfl, trivial, ?_⟩
  clear o_7
  refine planW_ex (d := (some 13)) o_8 rfl rfl ⟨_, by simp [List.lookup, hb1, hi1, hi2, hw, hwn, h0, h0', h1, h1', hl1]; try rfl, trivial, ?_⟩
  clear o_8
  refine planW_ex (d := (some 14)) o_9 rfl rfl ⟨_, by simp [List.lookup, hb1, hi1, hi2, hw, hwn, h0, h0', h1, h1', hl1]; try rfl, trivial, ?_⟩
  clear o_9
  refine planW_ex (d := (some 15)) o_10 rfl rfl ⟨_, by simp [List.lookup, hb1, hi1, hi2, hw, hwn, h0, h0', h1, h1', hl1]; try rfl, trivial, ?_⟩
  clear o_10
  refine planW_ex (d := (some 16)) o_11 rfl rfl ⟨_, by simp [List.lookup, hb1, hi1, hi2, hw, hwn, h0, h0', h1, h1', hl1]; try rfl, trivial, ?_⟩
  clear o_11
  refine planW_ex (d := (some 17)) o_12 rfl rfl ⟨_, by simp [List.lookup, hb1, hi1, hi2, hw, hwn, h0, h0', h1, h1', hl1]; try rfl, by simp [chkW, List.lookup, List.lookup, hb1, hi1, hi2, hw, hwn, h0, h0', h1, h1', hl1], ?_⟩
  clear o_12
  refine planW_ex (d := (some 18)) o_13 rfl rfl ⟨_, by simp [List.lookup, hb1, hi1, hi2, hw, hwn, h0, h0', h1, h1', hl1]; try rfl, trivial, ?_⟩
  clear o_13
  refine planW_ex (d := (some 4)) o_14 rfl rfl ⟨_, by simp [List.lookup, hb1, hi1, hi2, hw, hwn, h0, h0', h1, h1', hl1]; try rfl, trivial, ?_⟩
  clear o_14
  refine planW_end o_sz ?_
  apply hK; clear hK K o_sz; simp only [onNormal, onExit, tput]
  (try refine AWP.ret ?_); (try simp only [onNormal, onExit]); refine ⟨by simp, _, rfl, ?_, ?_, fun k row hk => ?_⟩
  · exact hH [_]
  · simp
  · refine SubL.out ?_ k row hk; repeat (first | exact SubL.id | refine SubL.set ?_ | refine SubL.gone ?_ | (refine SubL.ex ?_ ?_; · simp; done) | refine SubL.fresh (hH [_]) ?_ | refine SubL.fresh (hH [_, _]) ?_ | (refine SubL.fresh (upd_none (hH [_]) ?_) ?_; · simp; done) | (refine SubL.fresh (upd_none (hH [_, _]) ?_) ?_; · simp; done))
set_option maxHeartbeats 1000000 in
theorem bytes_sim {w : Name} {wrow : List AV} {a b c d : Int} (nm : Name) (H : AHeap) (hw : H w = some wrow) (h0 : wrow[0]? = some (vi a)) (h1 : wrow[1]? = some (vi b)) (h2 : wrow[2]? = some (vi c)) (h3 : wrow[3]? = some (vi d)) :
    Sim Tryz.prog 69 [.ptr w 0] nm H (.sl nm 0 33 1) (upd H nm (some (bs (recB a b c d)))) := by
  have hcall := onF_ok int_ok (onF_ok (stS_ok (f := 173) (xs := [.ptr w 0, vi 1]) (pre := fun H => H w = some wrow) (r := fun nm => .sl nm 0 17 1) (post := fun nm H => upd H nm (some (bs (rec2 a b)))) (by kernel_rfl) fun nm H hw => named_sim nm H hw h0 h1) (@noCall_ok Tryz.prog))
  have h2' : ∀ h : 2 < wrow.length, wrow[2] = vi c := fun h => (List.getElem?_eq_some_iff.1 h2).2
  have h3' : ∀ h : 3 < wrow.length, wrow[3] = vi d := fun h => (List.getElem?_eq_some_iff.1 h3).2
  have hl3 : 3 < wrow.length := (List.getElem?_eq_some_iff.1 h3).1
  have hl2 : 2 < wrow.length := (List.getElem?_eq_some_iff.1 h2).1
  have hn1 : ∀ nm', stS [.ptr w 0, vi 1] (fun H => H w = some wrow) (fun nm => .sl nm 0 17 1) (fun nm H => upd H nm (some (bs (rec2 a b)))) [.ptr w 0, vi 1] nm' H = some (.sl nm' 0 17 1, upd H nm' (some (bs (rec2 a b)))) := fun nm' => stS_at hw
  have hi1 : ∀ n nm' H', intS [.sl n 0 17 1, vi c] nm' (upd H' n (some (bs (rec2 a b)))) = some (.sl nm' 0 25 1, upd (upd H' n (some (bs (rec2 a b)))) nm' (some (bs (rec3 a b c)))) := fun n nm' H' => int_on (rec2_len a b) (by decide) (by decide) c n nm' H'
  have hi2 : ∀ n nm' H', intS [.sl n 0 25 1, vi d] nm' (upd H' n (some (bs (rec3 a b c)))) = some (.sl nm' 0 33 1, upd (upd H' n (some (bs (rec3 a b c)))) nm' (some (bs (recB a b c d)))) := fun n nm' H' => int_on (rec3_len a b c) (by decide) (by decide) d n nm' H'
  refine sim_row Tryz.func69 rfl rfl (Nat.le_of_ble_eq_true rfl) fun hH => ?_
  (repeat refine AWP.seq ?_)
  refine AWP.region_last hcall rfl fun K hK => ?_
  simp
  apply hK; clear hK K; simp only [onNormal, onExit]
  have hwn : ∀ x, ¬ w = x :: 0 :: nm := fun x e => by have := hH [x]; rw [List.singleton_append, <- e, hw] at this; cases this
  (repeat refine AWP.seq ?_)
  refine AWP.draw_ops rfl hcall [0, 1, 0, 4, 12, 28, 60, 127, 0, 256, 768, 1792, 3840, 8191, 16383] [⟨0, false, []⟩, ⟨1, true, []⟩, ⟨2, false, []⟩, ⟨3, false, []⟩, ⟨4, false, []⟩, ⟨5, false, []⟩, ⟨6, false, [0, 2]⟩, ⟨7, true, []⟩, ⟨8, false, []⟩, ⟨9, false, []⟩, ⟨10, false, []⟩, ⟨11, false, []⟩, ⟨12, false, [0, 2, 8]⟩, ⟨13, true, []⟩, ⟨14, false, []⟩] rfl (by kernel_rfl) fun ops' hops K hK => ?_
  have o_0 := op_at hops 0 rfl
  have o_1 := op_at hops 1 rfl
  have o_2 := op_at hops 2 rfl
  have o_3 := op_at hops 3 rfl
  have o_4 := op_at hops 4 rfl
  have o_5 := op_at hops 5 rfl
  have o_6 := op_at hops 6 rfl
  have o_7 := op_at hops 7 rfl
  have o_8 := op_at hops 8 rfl
  have o_9 := op_at hops 9 rfl
  have o_10 := op_at hops 10 rfl
  have o_11 := op_at hops 11 rfl
  have o_12 := op_at hops 12 rfl
  have o_13 := op_at hops 13 rfl
  have o_14 := op_at hops 14 rfl
  have o_sz : ops'.size = 15 := op_sz hops rfl
  clear hops
  refine planW_ex (d := (some 3)) o_0 rfl rfl ⟨_, by simp [List.lookup, hn1, hi1, hi2, hw, hwn, h2, h2', h3, h3', hl3, hl2, -List.append_assoc]; try rfl, trivial, ?_⟩
  clear o_0
  refine planW_ex (d := (some 4)) o_1 rfl rfl ⟨_, by simp [List.lookup, hn1, hi1, hi2, hw, hwn, h2, h2', h3, h3', hl3, hl2, -List.append_assoc]; try rfl, trivial, ?_⟩
  clear o_1
  refine planW_ex (d := (some 5)) o_2 rfl rfl ⟨_, by simp [List.lookup, hn1, hi1, hi2, hw, hwn, h2, h2', h3, h3', hl3, hl2, -List.append_assoc]; try rfl, trivial, ?_⟩
  clear o_2
  refine planW_ex (d := (some 6)) o_3 rfl rfl ⟨_, by simp [List.lookup, hn1, hi1, hi2, hw, hwn, h2, h2', h3, h3', hl3, hl2, -List.append_assoc]; try rfl, trivial, ?_⟩
  clear o_3
  refine planW_ex (d := (some 7)) o_4 rfl rfl ⟨_, by simp [List.lookup, hn1, hi1, hi2, hw, hwn, h2, h2', h3, h3', hl3, hl2, -List.append_assoc]; try rfl, trivial, ?_⟩
  clear o_4
  refine planW_ex (d := (some 8)) o_5 rfl rfl ⟨_, by simp [List.lookup, hn1, hi1, hi2, hw, hwn, h2, h2', h3, h3', hl3, hl2, -List.append_assoc]; try rfl, trivial, ?_⟩
  clear o_5
  refine planW_ex (d := (some 9)) o_6 rfl rfl ⟨_, by simp [List.lookup, hn1, hi1, hi2, hw, hwn, h2, h2', h3, h3', hl3, hl2, -List.append_assoc]; try rfl, by simp [chkW, List.lookup, List.lookup, hn1, hi1, hi2, hw, hwn, h2, h2', h3, h3', hl3, hl2, -List.append_assoc], ?_⟩
  clear o_6
  refine planW_ex (d := (some 10)) o_7 rfl rfl ⟨_, by simp [List.lookup, hn1, hi1, hi2, hw, hwn, h2, h2', h3, h3', hl3, hl2, -List.append_assoc]; try rfl, trivial, ?_⟩
  clear o_7
  refine planW_ex (d := (some 11)) o_8 rfl rfl ⟨_, by simp [List.lookup, hn1, hi1, hi2, hw, hwn, h2, h2', h3, h3', hl3, hl2, -List.append_assoc]; try rfl, trivial, ?_⟩
  clear o_8
  refine planW_ex (d := (some 12)) o_9 rfl rfl ⟨_, by simp [List.lookup, hn1, hi1, hi2, hw, hwn, h2, h2', h3, h3', hl3, hl2, -List.append_assoc]; try rfl, trivial, ?_⟩
  clear o_9
  refine planW_ex (d := (some 13)) o_10 rfl rfl ⟨_, by simp [List.lookup, hn1, hi1, hi2, hw, hwn, h2, h2', h3, h3', hl3, hl2, -List.append_assoc]; try rfl, trivial, ?_⟩
  clear o_10
  refine planW_ex (d := (some 14)) o_11 rfl rfl ⟨_, by simp [List.lookup, hn1, hi1, hi2, hw, hwn, h2, h2', h3, h3', hl3, hl2, -List.append_assoc]; try rfl, trivial, ?_⟩
  clear o_11
  refine planW_ex (d := (some 15)) o_12 rfl rfl ⟨_, by simp [List.lookup, hn1, hi1, hi2, hw, hwn, h2, h2', h3, h3', hl3, hl2, -List.append_assoc]; try rfl, by simp [chkW, List.lookup, List.lookup, hn1, hi1, hi2, hw, hwn, h2, h2', h3, h3', hl3, hl2, -List.append_assoc], ?_⟩
  clear o_12
  refine planW_ex (d := (some 16)) o_13 rfl rfl ⟨_, by simp [List.lookup, hn1, hi1, hi2, hw, hwn, h2, h2', h3, h3', hl3, hl2, -List.append_assoc]; try rfl, trivial, ?_⟩
  clear o_13
  refine planW_ex (d := (some 2)) o_14 rfl rfl ⟨_, by simp [List.lookup, hn1, hi1, hi2, hw, hwn, h2, h2', h3, h3', hl3, hl2, -List.append_assoc]; try rfl, trivial, ?_⟩
  clear o_14
  refine planW_end o_sz ?_
  apply hK; clear hK K o_sz; simp only [onNormal, onExit, tput]
  (try refine AWP.ret ?_); (try simp only [onNormal, onExit]); refine ⟨by simp, _, rfl, ?_, ?_, fun k row hk => ?_⟩
  · exact hH [_]
  · simp
  · refine SubL.out ?_ k row hk; repeat (first | exact SubL.id | refine SubL.set ?_ | refine SubL.gone ?_ | (refine SubL.ex ?_ ?_; · simp; done) | refine SubL.fresh (hH [_]) ?_ | refine SubL.fresh (hH [_, _]) ?_ | (refine SubL.fresh (upd_none (hH [_]) ?_) ?_; · simp; done) | (refine SubL.fresh (upd_none (hH [_, _]) ?_) ?_; · simp; done))
/-- What a record more is. -/
def recsN (nm : Name) : Name := 12 :: nm
set_option maxHeartbeats 1000000 in
theorem record_sim {s w l : Name} {srow wrow : List AV} {n : Int} {y z : AV} (nm : Name) (H : AHeap) (hs : H s = some srow) (hw : H w = some wrow) (hl : H l = some [y, vi n, z]) (h4 : srow[4]? = some (.ptr l 0)) (h58 : wrow[58]? = some vnil) (hn : 0 < n /\ n < 1000000) :
    Sim Tryz.prog 70 [.ptr s 0, .ptr w 0] nm H (.tup []) (upd (upd H (recsN nm) (some [vi (n - 1)])) w (some (wrow.set 58 (.sl (recsN nm) 0 1 1)))) := by
  have hcall := onF_ok (stS_ok (f := 174) (xs := [.ptr l 0]) (pre := fun H => H l = some [y, vi n, z]) (r := fun _ => vi n) (post := fun _ H => H) (by kernel_rfl) fun nm H h => lcount_sim nm H h) (@noCall_ok Tryz.prog)
  have hc : ∀ nm', stS [.ptr l 0] (fun H => H l = some [y, vi n, z]) (fun _ => vi n) (fun _ H => H) [.ptr l 0] nm' H = some (vi n, H) := fun nm' => stS_at hl
  have h4' : ∀ h : 4 < srow.length, srow[4] = .ptr l 0 := fun h => (List.getElem?_eq_some_iff.1 h4).2
  have h58' : ∀ h : 58 < wrow.length, wrow[58] = vnil := fun h => (List.getElem?_eq_some_iff.1 h58).2
  have hl4 : 4 < srow.length := (List.getElem?_eq_some_iff.1 h4).1
  have hl58 : 58 < wrow.length := (List.getElem?_eq_some_iff.1 h58).1
  have hl59 : 59 <= wrow.length := by omega
  have hwn1 : IntKind.i64.wrap (n - 1) = n - 1 := by rw [IntKind.wrap_i64]; omega
  refine sim_go Tryz.func70 rfl rfl (Nat.le_of_ble_eq_true rfl) fun hH => ?_
  have hwn : ∀ x, ¬ w = x :: nm := fun x e => by have := hH [x]; rw [List.singleton_append, <- e, hw] at this; cases this
  (repeat refine AWP.seq ?_)
  refine AWP.draw_ops rfl hcall [0, 0, 2, 6, 14, 0, 32, 96, 224, 480, 992, 2016, 4094, 8191, 16383, 32767] [⟨5, false, []⟩, ⟨6, false, []⟩, ⟨7, false, []⟩, ⟨8, false, [0]⟩, ⟨9, true, []⟩, ⟨1, false, []⟩, ⟨2, false, []⟩, ⟨3, false, []⟩, ⟨4, false, [0, 5]⟩, ⟨10, false, []⟩, ⟨11, false, []⟩, ⟨12, true, []⟩, ⟨0, false, []⟩, ⟨13, false, []⟩, ⟨14, false, []⟩, ⟨15, true, []⟩] rfl (by kernel_rfl) fun ops' hops K hK => ?_
  have o_0 := op_at hops 0 rfl
  have o_1 := op_at hops 1 rfl
  have o_2 := op_at hops 2 rfl
  have o_3 := op_at hops 3 rfl
  have o_4 := op_at hops 4 rfl
  have o_5 := op_at hops 5 rfl
  have o_6 := op_at hops 6 rfl
  have o_7 := op_at hops 7 rfl
  have o_8 := op_at hops 8 rfl
  have o_9 := op_at hops 9 rfl
  have o_10 := op_at hops 10 rfl
  have o_11 := op_at hops 11 rfl
  have o_12 := op_at hops 12 rfl
  have o_13 := op_at hops 13 rfl
  have o_14 := op_at hops 14 rfl
  have o_15 := op_at hops 15 rfl
  have o_sz : ops'.size = 16 := op_sz hops rfl
  clear hops
  refine planW_ex (d := (some 9)) o_5 rfl rfl ⟨_, by simp [List.lookup, hc, hs, hw, hl, h4, h4', hl4, h58, h58', hl58, hl59, hwn1, hwn]; try rfl, trivial, ?_⟩
  clear o_5
  refine planW_ex (d := (some 10)) o_6 rfl rfl ⟨_, by simp [List.lookup, hc, hs, hw, hl, h4, h4', hl4, h58, h58', hl58, hl59, hwn1, hwn]; try rfl, trivial, ?_⟩
  clear o_6
  refine planW_ex (d := (some 11)) o_7 rfl rfl ⟨_, by simp [List.lookup, hc, hs, hw, hl, h4, h4', hl4, h58, h58', hl58, hl59, hwn1, hwn]; try rfl, trivial, ?_⟩
  clear o_7
  refine planW_ex (d := (some 12)) o_8 rfl rfl ⟨_, by simp [List.lookup, hc, hs, hw, hl, h4, h4', hl4, h58, h58', hl58, hl59, hwn1, hwn]; try rfl, by simp [chkW, List.lookup, List.lookup, hc, hs, hw, hl, h4, h4', hl4, h58, h58', hl58, hl59, hwn1, hwn], ?_⟩
  clear o_8
  refine planW_ex (d := (some 13)) o_9 rfl rfl ⟨_, by simp [List.lookup, hc, hs, hw, hl, h4, h4', hl4, h58, h58', hl58, hl59, hwn1, hwn]; try rfl, trivial, ?_⟩
  clear o_9
  refine planW_ex (d := (some 5)) o_1 rfl rfl ⟨_, by simp [List.lookup, hc, hs, hw, hl, h4, h4', hl4, h58, h58', hl58, hl59, hwn1, hwn]; try rfl, trivial, ?_⟩
  clear o_1
  refine planW_ex (d := (some 6)) o_2 rfl rfl ⟨_, by simp [List.lookup, hc, hs, hw, hl, h4, h4', hl4, h58, h58', hl58, hl59, hwn1, hwn]; try rfl, trivial, ?_⟩
  clear o_2
  refine planW_ex (d := (some 7)) o_3 rfl rfl ⟨_, by simp [List.lookup, hc, hs, hw, hl, h4, h4', hl4, h58, h58', hl58, hl59, hwn1, hwn]; try rfl, trivial, ?_⟩
  clear o_3
  refine planW_ex (d := (some 8)) o_4 rfl rfl ⟨_, by simp [List.lookup, hc, hs, hw, hl, h4, h4', hl4, h58, h58', hl58, hl59, hwn1, hwn]; try rfl, by simp [chkW, List.lookup, List.lookup, hc, hs, hw, hl, h4, h4', hl4, h58, h58', hl58, hl59, hwn1, hwn], ?_⟩
  clear o_4
  refine planW_ex (d := (some 14)) o_10 rfl rfl ⟨_, by simp [List.lookup, hc, hs, hw, hl, h4, h4', hl4, h58, h58', hl58, hl59, hwn1, hwn]; try rfl, trivial, ?_⟩
  clear o_10
  refine planW_ex (d := (some 15)) o_11 rfl rfl ⟨_, by simp [List.lookup, hc, hs, hw, hl, h4, h4', hl4, h58, h58', hl58, hl59, hwn1, hwn]; try rfl, trivial, ?_⟩
  clear o_11
  refine planW_ex (d := (some 16)) o_12 rfl rfl ⟨_, by simp [List.lookup, hc, hs, hw, hl, h4, h4', hl4, h58, h58', hl58, hl59, hwn1, hwn]; try rfl, trivial, ?_⟩
  clear o_12
  refine planW_ex (d := (some 4)) o_0 rfl rfl ⟨_, by simp [List.lookup, hc, hs, hw, hl, h4, h4', hl4, h58, h58', hl58, hl59, hwn1, hwn]; try rfl, trivial, ?_⟩
  clear o_0
  refine planW_ex (d := (some 17)) o_13 rfl rfl ⟨_, by simp [List.lookup, hc, hs, hw, hl, h4, h4', hl4, h58, h58', hl58, hl59, hwn1, hwn]; try rfl, trivial, ?_⟩
  clear o_13
  refine planW_ex (d := (some 18)) o_14 rfl rfl ⟨_, by simp [List.lookup, hc, hs, hw, hl, h4, h4', hl4, h58, h58', hl58, hl59, hwn1, hwn]; try rfl, trivial, ?_⟩
  clear o_14
  refine planW_ex (d := none) o_15 rfl rfl ⟨_, by simp [List.lookup, hc, hs, hw, hl, h4, h4', hl4, h58, h58', hl58, hl59, hwn1, hwn]; try rfl, trivial, ?_⟩
  clear o_15
  refine planW_end o_sz ?_
  apply hK; clear hK K o_sz; simp only [onNormal, onExit, tput]
  (try refine AWP.ret ?_); (try simp only [onNormal, onExit]); refine ⟨by simp, ⟨_, rfl, by simp [ares1]⟩, fun k row hk => ?_⟩
  simp only [recsN] at hk
  refine SubL.out ?_ k row hk; repeat (first | exact SubL.id | refine SubL.set ?_ | refine SubL.gone ?_ | (refine SubL.ex ?_ ?_; · simp; done) | refine SubL.fresh (hH [_]) ?_ | refine SubL.fresh (hH [_, _]) ?_ | (refine SubL.fresh (upd_none (hH [_]) ?_) ?_; · simp; done) | (refine SubL.fresh (upd_none (hH [_, _]) ?_) ?_; · simp; done))
/-- How a wave lies there: hosted by domain 0. -/
structure WvD where
  w : Name
  r : Name
  b : Nat
  d : Nat
def WvIs (H : AHeap) (x : WvD) (i : Nat) : Prop := H x.w = some ((waveA 0 x.b 0 x.d (.sl x.r 0 1 1))) /\ H x.r = some [vi (i : Int)]
def WavesIs (H : AHeap) (v : AV) (L : List WvD) : Prop := (v = vnil /\ L = []) \/ ∃ n, v = .sl n 0 L.length 1 /\ H n = some (L.map fun x => .ptr x.w 0)
theorem waveA_id (a b c d : Int) (x : AV) : (waveA a b c d x).length = 59 := by
  have hbz : (bz 32).length = 32 := by simp [bz]
  simp [waveA, hbz]
open Classical in
/-- Which wavelet it is. -/
noncomputable def findV (L : List WvD) (k : Nat) : AV := match L.find? fun x => decide (x.b = k) with
  | some x => .ptr x.w 0
  | none => .val (.pointer none)
set_option maxHeartbeats 1000000 in
theorem find_sim {s : Name} {srow : List AV} {v : AV} {L : List WvD} {k : Nat} (nm : Name) (H : AHeap) (hs : H s = some srow) (h5 : srow[5]? = some v) (hv : WavesIs H v L) (hL : L.length <= 8) (hw : ∀ (i : Nat) (x : WvD), L[i]? = some x -> ∃ rec, H x.w = some (waveA 0 x.b 0 x.d rec)) :
    Sim Tryz.prog 66 [.ptr s 0, .agg [vi 0, vi (k : Int)]] nm H (findV L k) H := by
  have hcall := @noCall_ok Tryz.prog
  have h5' : ∀ h : 5 < srow.length, srow[5] = v := fun h => (List.getElem?_eq_some_iff.1 h5).2
  have hl5 : 5 < srow.length := (List.getElem?_eq_some_iff.1 h5).1
  have hal : alen Tryz.prog 140 v = some (vi (L.length : Nat)) := by
    rcases hv with ⟨rfl, rfl⟩ | ⟨n, rfl, _⟩
    · rfl
    · rfl
  refine sim_go Tryz.func66 rfl rfl (Nat.le_of_ble_eq_true rfl) fun hH => ?_
  (repeat refine AWP.seq ?_)
  refine AWP.region_last hcall rfl fun K hK => ?_
  simp
  apply hK; clear hK K; simp only [onNormal, onExit]
  have hsn : ∀ x, ¬ s = x :: nm := fun x e => by have := hH [x]; rw [List.singleton_append, <- e, hs] at this; cases this
  (repeat refine AWP.seq ?_)
  refine AWP.region_last hcall rfl fun K hK => ?_
  simp [-alen, hs, h5, h5', hl5, hal, hsn]
  apply hK; clear hK K; simp only [onNormal, onExit]
  (repeat refine AWP.seq ?_); refine AWP.block ?_
  obtain ⟨Hb, hHb⟩ : ∃ Hb, Hb = upd H (0 :: nm) (some [vi 0, vi (k : Int)]) := ⟨_, rfl⟩
  have hsub : ∀ q row, H q = some row -> Hb q = some row := fun q row hq => by
    rw [hHb, upd_ne]; exact hq
    rintro rfl
    have := hH [0]
    rw [List.singleton_append, hq] at this
    cases this
  have hb0 : Hb (0 :: nm) = some [vi 0, vi (k : Int)] := by rw [hHb, upd_same]
  rw [<- hHb]
  refine AWP.loop (fun m c' T H' => ∃ j : Nat, j <= L.length /\ m = L.length - j /\ T 3 = .ptr (0 :: nm) 0 /\ T 10 = v /\ T 11 = vi (L.length : Nat) /\ T 12 = vi j /\ H' = Hb /\ ∀ i x, i < j -> L[i]? = some x -> x.b ≠ k) L.length ⟨0, by omega, rfl, by simp, by simp, by simp, by simp, rfl, fun i x hi => (by omega)⟩ ?_
  rintro m c' T H' ⟨j, hj, rfl, t3, t10, t11, t12, rfl, hno⟩
  by_cases hlt : j < L.length
  · have hlt' : (j : Int) < (L.length : Int) := by omega
    have hwj : IntKind.i64.wrap ((j : Int) + 1) = ((j + 1 : Nat) : Int) := by rw [IntKind.wrap_i64]; omega
    obtain ⟨x, hx⟩ : ∃ x, L[j]? = some x := ⟨_, List.getElem?_eq_getElem hlt⟩
    obtain ⟨n, hvn, hn⟩ : ∃ n, v = .sl n 0 L.length 1 /\ H n = some (L.map fun x => .ptr x.w 0) := by
      rcases hv with ⟨_, h⟩ | h
      · rw [h] at hlt; simp at hlt
      · exact h
    have hnb := hsub _ _ hn
    obtain ⟨R, hR⟩ : ∃ R, R = L.map fun x => AV.ptr x.w 0 := ⟨_, rfl⟩
    have hRj : R[j]? = some (.ptr x.w 0) := by rw [hR, List.getElem?_map, hx]; rfl
    have hRj' : ∀ h : j < R.length, R[j] = .ptr x.w 0 := fun h => (List.getElem?_eq_some_iff.1 hRj).2
    have hRl : j < R.length := (List.getElem?_eq_some_iff.1 hRj).1
    rw [<- hR] at hnb
    obtain ⟨rec, hxw⟩ := hw j x hx
    have hxb := hsub _ _ hxw
    have hwl := waveA_id 0 x.b 0 x.d rec
    have htk : (waveA 0 x.b 0 x.d rec).take 2 = [vi 0, vi (x.b : Int)] := rfl
    obtain ⟨W, hW⟩ : ∃ W, W = waveA 0 x.b 0 x.d rec := ⟨_, rfl⟩
    rw [<- hW] at hxb hwl htk
    have hW2 : 2 <= W.length := by omega
    (repeat refine AWP.seq ?_)
    refine AWP.region_last hcall rfl fun K hK => ?_
    simp [t11, t12, hlt']
    apply hK; clear hK K; simp only [onNormal, onExit]
    (repeat refine AWP.seq ?_); refine AWP.cond (b := true) (by simp [hlt']) ?_; simp only [if_true, if_false, Bool.false_eq_true]
    refine AWP.skip ?_; simp only [onNormal, onExit]
    (repeat refine AWP.seq ?_); refine AWP.block ?_
    (repeat refine AWP.seq ?_)
    refine AWP.region_last hcall rfl fun K hK => ?_
    simp [t10, hvn, t12, hlt, hnb, hRj, hRj', hRl]
    apply hK; clear hK K; simp only [onNormal, onExit]
    by_cases he : x.b = k
    · (repeat refine AWP.seq ?_)
      refine AWP.draw_last rfl hcall [0, 1, 3, 7, 0, 31] [⟨0, false, []⟩, ⟨1, false, []⟩, ⟨2, false, []⟩, ⟨3, false, [0]⟩, ⟨4, false, [0]⟩, ⟨5, false, []⟩] rfl (by kernel_rfl) fun K hK => ?_
      simp (maxDischargeDepth := 20) [planW, chkW, -aeq, List.lookup, t3, hxb, hb0, hW2, htk, aeq_id, he]
      apply hK; clear hK K; simp only [onNormal, onExit]
      (repeat refine AWP.seq ?_); refine AWP.cond (b := true) (by simp) ?_; simp only [if_true, if_false, Bool.false_eq_true]
      (repeat refine AWP.seq ?_)
      refine AWP.region_last hcall rfl fun K hK => ?_
      simp
      apply hK; clear hK K; simp only [onNormal, onExit]
      have hf : findV L k = .ptr x.w 0 := by
        have : L.find? (fun y => decide (y.b = k)) = some x := List.find?_eq_some_iff_getElem.2 ⟨by simp [he], j, hlt, (List.getElem?_eq_some_iff.1 hx).2, fun i hi => by simpa using hno i L[i] hi (List.getElem?_eq_getElem (by omega))⟩
        simp only [findV, this]
      rw [hf]
      (try refine AWP.ret ?_); (try simp only [onNormal, onExit]); refine ⟨by simp, ⟨_, rfl, by simp [ares1]⟩, fun k row hk => ?_⟩
      exact hsub _ _ hk
    · (repeat refine AWP.seq ?_)
      refine AWP.draw_last rfl hcall [0, 1, 3, 7, 0, 31] [⟨0, false, []⟩, ⟨1, false, []⟩, ⟨2, false, []⟩, ⟨3, false, [0]⟩, ⟨4, false, [0]⟩, ⟨5, false, []⟩] rfl (by kernel_rfl) fun K hK => ?_
      simp (maxDischargeDepth := 20) [planW, chkW, -aeq, List.lookup, t3, hxb, hb0, hW2, htk, aeq_id, he]
      apply hK; clear hK K; simp only [onNormal, onExit]
      (repeat refine AWP.seq ?_); refine AWP.cond (b := false) (by simp [Int.natCast_inj, he]) ?_; simp only [if_true, if_false, Bool.false_eq_true]
      refine AWP.skip ?_; simp only [onNormal, onExit]
      (repeat refine AWP.seq ?_)
      refine AWP.region_last hcall rfl fun K hK => ?_
      simp [t12, hwj]
      apply hK; clear hK K; simp only [onNormal, onExit]
      refine ⟨L.length - (j + 1), by omega, j + 1, by omega, rfl, by simp [t3], by simp [t10], by simp [t11], by simp, trivial, fun i y hi hy => ?_⟩
      rcases (by omega : i < j \/ i = j) with h | rfl
      · exact hno i y h hy
      · rw [hx] at hy; cases hy; exact he
  · obtain rfl : j = L.length := by omega
    have hlt' : ¬ (L.length : Int) < (L.length : Int) := by omega
    (repeat refine AWP.seq ?_)
    refine AWP.region_last hcall rfl fun K hK => ?_
    simp [t11, t12]
    apply hK; clear hK K; simp only [onNormal, onExit]
    (repeat refine AWP.seq ?_); refine AWP.cond (b := false) (by simp) ?_; simp only [if_true, if_false, Bool.false_eq_true]
    refine AWP.exit ?_; simp only [onNormal, onExit, if_true, reduceCtorEq, if_false]
    (repeat refine AWP.seq ?_)
    refine AWP.region_last hcall rfl fun K hK => ?_
    simp
    apply hK; clear hK K; simp only [onNormal, onExit]
    have hf : findV L k = .val (.pointer none) := by
      have : L.find? (fun y => decide (y.b = k)) = none := List.find?_eq_none.2 fun y hy => by
        obtain ⟨i, hi, rfl⟩ := List.mem_iff_getElem.1 hy
        simpa using hno i L[i] hi (List.getElem?_eq_getElem hi)
      simp only [findV, this]
    rw [hf]
    (try refine AWP.ret ?_); (try simp only [onNormal, onExit]); refine ⟨by simp, ⟨_, rfl, by simp [ares1]⟩, fun k row hk => ?_⟩
    exact hsub _ _ hk
end Go.Proofs.YtjinjfblilacaaaGreat.Den
end
