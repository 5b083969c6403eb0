/- What walks ask of types: facts by number, of this program. Printed by gen_ty.py. -/
import Derived.Test.YtbllpnjappddeaaGreatKWkA
import Derived.Test.YtbllpnjappddeaaGreatProg
import Derived.ProofKit
set_option linter.unusedVariables false
set_option linter.unusedSimpArgs false
set_option maxRecDepth 1000000
namespace Go.Proofs.YtbllpnjappddeaaGreat.Den
open Go Go.RowKit
@[simp] theorem sz3 : szOf Tryz.prog 3 = some 1 := by kernel_rfl
@[simp] theorem ag3 : aggB Tryz.prog 3 = some false := by kernel_rfl
@[simp] theorem sz5 : szOf Tryz.prog 5 = some 1 := by kernel_rfl
@[simp] theorem ag5 : aggB Tryz.prog 5 = some false := by kernel_rfl
@[simp] theorem by5 : bytesOf' Tryz.prog 5 = some 1 := by kernel_rfl
@[simp] theorem ze5 : zeroCellsA Tryz.prog 5 = some ([.val (.int .u8 0)]) := by kernel_rfl
@[simp] theorem sz22 : szOf Tryz.prog 22 = some 1 := by kernel_rfl
@[simp] theorem ag22 : aggB Tryz.prog 22 = some false := by kernel_rfl
@[simp] theorem sz28 : szOf Tryz.prog 28 = some 2 := by kernel_rfl
@[simp] theorem ag28 : aggB Tryz.prog 28 = some true := by kernel_rfl
@[simp] theorem ze28 : zeroCellsA Tryz.prog 28 = some ([.val (.int .i64 0), .val (.int .i64 0)]) := by kernel_rfl
@[simp] theorem sz32 : szOf Tryz.prog 32 = some 1 := by kernel_rfl
@[simp] theorem ag32 : aggB Tryz.prog 32 = some false := by kernel_rfl
@[simp] theorem sz49 : szOf Tryz.prog 49 = some 32 := by kernel_rfl
@[simp] theorem ag49 : aggB Tryz.prog 49 = some true := by kernel_rfl
@[simp] theorem ze49 : zeroCellsA Tryz.prog 49 = some (bz 32) := by kernel_rfl
@[simp] theorem sz62 : szOf Tryz.prog 62 = some 1 := by kernel_rfl
@[simp] theorem ag62 : aggB Tryz.prog 62 = some false := by kernel_rfl
@[simp] theorem sz64 : szOf Tryz.prog 64 = some 40 := by kernel_rfl
@[simp] theorem ag64 : aggB Tryz.prog 64 = some true := by kernel_rfl
@[simp] theorem ze64 : zeroCellsA Tryz.prog 64 = some ([.val (.int .i64 0), .val (.int .i64 0), .val (.int .i64 0), .val (.int .i64 0)] ++ bz 32 ++ [.val (.int .i64 0), .val (.slice none 0 0), .val (.int .i64 0), .val (.int .i64 0)]) := by kernel_rfl
@[simp] theorem sz72 : szOf Tryz.prog 72 = some 1 := by kernel_rfl
@[simp] theorem ag72 : aggB Tryz.prog 72 = some false := by kernel_rfl
@[simp] theorem ze72 : zeroCellsA Tryz.prog 72 = some ([.val (.slice none 0 0)]) := by kernel_rfl
@[simp] theorem sz120 : szOf Tryz.prog 120 = some 1 := by kernel_rfl
@[simp] theorem ag120 : aggB Tryz.prog 120 = some false := by kernel_rfl
@[simp] theorem sz366 : szOf Tryz.prog 366 = some 64 := by kernel_rfl
@[simp] theorem ag366 : aggB Tryz.prog 366 = some true := by kernel_rfl
@[simp] theorem ze366 : zeroCellsA Tryz.prog 366 = some (bz 64) := by kernel_rfl
@[simp] theorem ze378 : zeroCellsA Tryz.prog 378 = some ([.val (.slice none 0 0), .val (.int .i64 0)]) := by kernel_rfl
@[simp] theorem sz439 : szOf Tryz.prog 439 = some 1 := by kernel_rfl
@[simp] theorem ag439 : aggB Tryz.prog 439 = some false := by kernel_rfl
@[simp] theorem sz440 : szOf Tryz.prog 440 = some 8 := by kernel_rfl
@[simp] theorem ag440 : aggB Tryz.prog 440 = some true := by kernel_rfl
@[simp] theorem ze440 : zeroCellsA Tryz.prog 440 = some (List.replicate 8 (.val (.int .u32 0))) := by kernel_rfl
@[simp] theorem sz441 : szOf Tryz.prog 441 = some 8 := by kernel_rfl
@[simp] theorem ag441 : aggB Tryz.prog 441 = some true := by kernel_rfl
@[simp] theorem ze441 : zeroCellsA Tryz.prog 441 = some (List.replicate 8 (.val (.int .u32 0))) := by kernel_rfl
@[simp] theorem sz487 : szOf Tryz.prog 487 = some 64 := by kernel_rfl
@[simp] theorem ag487 : aggB Tryz.prog 487 = some true := by kernel_rfl
@[simp] theorem ze487 : zeroCellsA Tryz.prog 487 = some (List.replicate 64 (.val (.int .u32 0))) := by kernel_rfl
@[simp] theorem fa28_0 (x : AV) : afieldAddr Tryz.prog 28 x 0 = fldK 0 x := by kernel_rfl
@[simp] theorem fa28_1 (x : AV) : afieldAddr Tryz.prog 28 x 1 = fldK 1 x := by kernel_rfl
@[simp] theorem fa64_0 (x : AV) : afieldAddr Tryz.prog 64 x 0 = fldK 0 x := by kernel_rfl
@[simp] theorem fa64_1 (x : AV) : afieldAddr Tryz.prog 64 x 1 = fldK 2 x := by kernel_rfl
@[simp] theorem fa64_2 (x : AV) : afieldAddr Tryz.prog 64 x 2 = fldK 3 x := by kernel_rfl
@[simp] theorem fa64_3 (x : AV) : afieldAddr Tryz.prog 64 x 3 = fldK 4 x := by kernel_rfl
@[simp] theorem fa64_4 (x : AV) : afieldAddr Tryz.prog 64 x 4 = fldK 36 x := by kernel_rfl
@[simp] theorem fa64_5 (x : AV) : afieldAddr Tryz.prog 64 x 5 = fldK 37 x := by kernel_rfl
@[simp] theorem fa64_6 (x : AV) : afieldAddr Tryz.prog 64 x 6 = fldK 38 x := by kernel_rfl
@[simp] theorem fa125_2 (x : AV) : afieldAddr Tryz.prog 125 x 2 = fldK 4 x := by kernel_rfl
@[simp] theorem fa145_8 (x : AV) : afieldAddr Tryz.prog 145 x 8 = fldK 58 x := by kernel_rfl
@[simp] theorem fa259_2 (x : AV) : afieldAddr Tryz.prog 259 x 2 = fldK 2 x := by kernel_rfl
@[simp] theorem fa378_0 (x : AV) : afieldAddr Tryz.prog 378 x 0 = fldK 0 x := by kernel_rfl
@[simp] theorem fa378_1 (x : AV) : afieldAddr Tryz.prog 378 x 1 = fldK 1 x := by kernel_rfl
@[simp] theorem fa424_0 (x : AV) : afieldAddr Tryz.prog 424 x 0 = fldK 0 x := by kernel_rfl
@[simp] theorem fa424_1 (x : AV) : afieldAddr Tryz.prog 424 x 1 = fldK 1 x := by kernel_rfl
@[simp] theorem fa424_2 (x : AV) : afieldAddr Tryz.prog 424 x 2 = fldK 2 x := by kernel_rfl
@[simp] theorem ap42_42 (s x : AV) (nm : Name) (H : AHeap) : aappend Tryz.prog 42 42 s x nm H = appK 1 24 s x nm H := aappend_eq (by kernel_rfl : Tryz.prog.underlying 42 = some (.slice 72)) (by kernel_rfl : Tryz.prog.underlying 42 = some (.slice 72)) rfl (by kernel_rfl) (by kernel_rfl) (by kernel_rfl) s x nm H
@[simp] theorem ap72_72 (s x : AV) (nm : Name) (H : AHeap) : aappend Tryz.prog 72 72 s x nm H = appK 1 1 s x nm H := aappend_eq (by kernel_rfl : Tryz.prog.underlying 72 = some (.slice 5)) (by kernel_rfl : Tryz.prog.underlying 72 = some (.slice 5)) rfl (by kernel_rfl) (by kernel_rfl) (by kernel_rfl) s x nm H
theorem r3ag70 : aggB Tryz.prog 72 = some false := by kernel_rfl
theorem r3sz70 : szOf Tryz.prog 72 = some 1 := by kernel_rfl
theorem r3und42 : Tryz.prog.underlying 42 = some (.slice 72) := by kernel_rfl
theorem r3und70 : Tryz.prog.underlying 72 = some (.slice 5) := by kernel_rfl
end Go.Proofs.YtbllpnjappddeaaGreat.Den
