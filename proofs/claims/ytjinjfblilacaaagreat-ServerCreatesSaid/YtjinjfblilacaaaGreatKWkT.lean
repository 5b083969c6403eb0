/- What walks ask of types: facts by number, of this program. Printed by gen_ty.py. -/
import Derived.Test.YtjinjfblilacaaaGreatKWkA
import Derived.Test.YtjinjfblilacaaaGreatProg
import Derived.ProofKit
set_option linter.unusedVariables false
set_option linter.unusedSimpArgs false
set_option maxRecDepth 1000000
namespace Go.Proofs.YtjinjfblilacaaaGreat.Den
open Go Go.RowKit
@[simp] theorem sz3 : szOf Tryz.prog 3 = some 1 := by kernel_rfl
@[simp] theorem ag3 : aggB Tryz.prog 3 = some false := by kernel_rfl
@[simp] theorem ze3 : zeroCellsA Tryz.prog 3 = some ([.val (.int .i64 0)]) := by kernel_rfl
@[simp] theorem sz4 : szOf Tryz.prog 4 = some 1 := by kernel_rfl
@[simp] theorem ag4 : aggB Tryz.prog 4 = some false := by kernel_rfl
@[simp] theorem sz5 : szOf Tryz.prog 5 = some 1 := by kernel_rfl
@[simp] theorem ze5 : zeroCellsA Tryz.prog 5 = some ([.val (.int .u8 0)]) := by kernel_rfl
@[simp] theorem sz22 : szOf Tryz.prog 22 = some 1 := by kernel_rfl
@[simp] theorem ag22 : aggB Tryz.prog 22 = some false := by kernel_rfl
@[simp] theorem sz28 : szOf Tryz.prog 28 = some 2 := by kernel_rfl
@[simp] theorem ag28 : aggB Tryz.prog 28 = some true := by kernel_rfl
@[simp] theorem ze28 : zeroCellsA Tryz.prog 28 = some ([.val (.int .i64 0), .val (.int .i64 0)]) := by kernel_rfl
@[simp] theorem ze29 : zeroCellsA Tryz.prog 29 = some (List.replicate 100 (.val (.bool false))) := by kernel_rfl
@[simp] theorem sz31 : szOf Tryz.prog 31 = some 2 := by kernel_rfl
@[simp] theorem ag31 : aggB Tryz.prog 31 = some true := by kernel_rfl
@[simp] theorem by31 : bytesOf' Tryz.prog 31 = some 16 := by kernel_rfl
@[simp] theorem ze31 : zeroCellsA Tryz.prog 31 = some ([.val (.int .i64 0), .val (.int .i64 0)]) := by kernel_rfl
@[simp] theorem sz34 : szOf Tryz.prog 34 = some 1 := by kernel_rfl
@[simp] theorem ag34 : aggB Tryz.prog 34 = some false := by kernel_rfl
@[simp] theorem sz35 : szOf Tryz.prog 35 = some 1 := by kernel_rfl
@[simp] theorem ag35 : aggB Tryz.prog 35 = some false := by kernel_rfl
@[simp] theorem sz47 : szOf Tryz.prog 47 = some 1 := by kernel_rfl
@[simp] theorem ag47 : aggB Tryz.prog 47 = some false := by kernel_rfl
@[simp] theorem sz49 : szOf Tryz.prog 49 = some 32 := by kernel_rfl
@[simp] theorem ag49 : aggB Tryz.prog 49 = some true := by kernel_rfl
@[simp] theorem ze49 : zeroCellsA Tryz.prog 49 = some (bz 32) := by kernel_rfl
@[simp] theorem sz51 : szOf Tryz.prog 51 = some 37 := by kernel_rfl
@[simp] theorem ag51 : aggB Tryz.prog 51 = some true := by kernel_rfl
@[simp] theorem ze51 : zeroCellsA Tryz.prog 51 = some ([.val (.int .i64 0), .val (.int .i64 0), .val (.string .empty), .val (.slice none 0 0), .val (.int .i64 0)] ++ bz 32) := by kernel_rfl
@[simp] theorem sz60 : szOf Tryz.prog 60 = some 1 := by kernel_rfl
@[simp] theorem ag60 : aggB Tryz.prog 60 = some false := by kernel_rfl
@[simp] theorem ze60 : zeroCellsA Tryz.prog 60 = some ([.val (.slice none 0 0)]) := by kernel_rfl
@[simp] theorem sz82 : szOf Tryz.prog 82 = some 1 := by kernel_rfl
@[simp] theorem ag82 : aggB Tryz.prog 82 = some false := by kernel_rfl
@[simp] theorem sz93 : szOf Tryz.prog 93 = some 99 := by kernel_rfl
@[simp] theorem sz139 : szOf Tryz.prog 139 = some 1 := by kernel_rfl
@[simp] theorem ag139 : aggB Tryz.prog 139 = some false := by kernel_rfl
@[simp] theorem sz140 : szOf Tryz.prog 140 = some 1 := by kernel_rfl
@[simp] theorem ag140 : aggB Tryz.prog 140 = some false := by kernel_rfl
@[simp] theorem sz146 : szOf Tryz.prog 146 = some 1 := by kernel_rfl
@[simp] theorem ag146 : aggB Tryz.prog 146 = some false := by kernel_rfl
@[simp] theorem ze146 : zeroCellsA Tryz.prog 146 = some ([.val (.pointer none)]) := by kernel_rfl
@[simp] theorem sz155 : szOf Tryz.prog 155 = some 1 := by kernel_rfl
@[simp] theorem ag155 : aggB Tryz.prog 155 = some false := by kernel_rfl
@[simp] theorem sz157 : szOf Tryz.prog 157 = some 2 := by kernel_rfl
@[simp] theorem ag157 : aggB Tryz.prog 157 = some true := by kernel_rfl
@[simp] theorem ze157 : zeroCellsA Tryz.prog 157 = some ([.val (.slice none 0 0), .val (.slice none 0 0)]) := by kernel_rfl
@[simp] theorem sz159 : szOf Tryz.prog 159 = some 2 := by kernel_rfl
@[simp] theorem ag159 : aggB Tryz.prog 159 = some true := by kernel_rfl
@[simp] theorem ze159 : zeroCellsA Tryz.prog 159 = some ([.val (.int .i64 0), .val (.int .i64 0)]) := by kernel_rfl
@[simp] theorem sz161 : szOf Tryz.prog 161 = some 3 := by kernel_rfl
@[simp] theorem ze164 : zeroCellsA Tryz.prog 164 = some ([.val (.int .i64 0), .val (.int .i64 0), .val (.int .i64 0), .val (.int .i64 0), .val (.bool false), .val (.slice none 0 0), .val (.slice none 0 0)] ++ List.replicate 11 (.val (.int .i64 0)) ++ [.val (.string .empty), .val (.slice none 0 0), .val (.int .i64 0)] ++ bz 32 ++ [.val (.slice none 0 0), .val (.slice none 0 0), .val (.bool false), .val (.int .i64 0), .val (.int .i64 0), .val (.slice none 0 0)]) := by kernel_rfl
@[simp] theorem sz179 : szOf Tryz.prog 179 = some 1 := by kernel_rfl
@[simp] theorem ag179 : aggB Tryz.prog 179 = some false := by kernel_rfl
@[simp] theorem ze179 : zeroCellsA Tryz.prog 179 = some ([.val (.complex .f64 0 0)]) := by kernel_rfl
@[simp] theorem sz413 : szOf Tryz.prog 413 = some 1 := by kernel_rfl
@[simp] theorem ag413 : aggB Tryz.prog 413 = some false := by kernel_rfl
@[simp] theorem sz492 : szOf Tryz.prog 492 = some 8 := by kernel_rfl
@[simp] theorem ag492 : aggB Tryz.prog 492 = some true := by kernel_rfl
@[simp] theorem ze492 : zeroCellsA Tryz.prog 492 = some (List.replicate 8 (.val (.int .u32 0))) := by kernel_rfl
@[simp] theorem fa28_0 (x : AV) : afieldAddr Tryz.prog 28 x 0 = fldK 0 x := by kernel_rfl
@[simp] theorem fa28_1 (x : AV) : afieldAddr Tryz.prog 28 x 1 = fldK 1 x := by kernel_rfl
@[simp] theorem fa31_0 (x : AV) : afieldAddr Tryz.prog 31 x 0 = fldK 0 x := by kernel_rfl
@[simp] theorem fa31_1 (x : AV) : afieldAddr Tryz.prog 31 x 1 = fldK 1 x := by kernel_rfl
@[simp] theorem fa45_2 (x : AV) : afieldAddr Tryz.prog 45 x 2 = fldK 4 x := by kernel_rfl
@[simp] theorem fa51_2 (x : AV) : afieldAddr Tryz.prog 51 x 2 = fldK 3 x := by kernel_rfl
@[simp] theorem fa51_3 (x : AV) : afieldAddr Tryz.prog 51 x 3 = fldK 4 x := by kernel_rfl
@[simp] theorem fa144_0 (x : AV) : afieldAddr Tryz.prog 144 x 0 = fldK 0 x := by kernel_rfl
@[simp] theorem fa144_2 (x : AV) : afieldAddr Tryz.prog 144 x 2 = fldK 4 x := by kernel_rfl
@[simp] theorem fa144_3 (x : AV) : afieldAddr Tryz.prog 144 x 3 = fldK 5 x := by kernel_rfl
@[simp] theorem fa154_0 (x : AV) : afieldAddr Tryz.prog 154 x 0 = fldK 0 x := by kernel_rfl
@[simp] theorem fa157_0 (x : AV) : afieldAddr Tryz.prog 157 x 0 = fldK 0 x := by kernel_rfl
@[simp] theorem fa157_1 (x : AV) : afieldAddr Tryz.prog 157 x 1 = fldK 1 x := by kernel_rfl
@[simp] theorem fa161_1 (x : AV) : afieldAddr Tryz.prog 161 x 1 = fldK 1 x := by kernel_rfl
@[simp] theorem fa164_0 (x : AV) : afieldAddr Tryz.prog 164 x 0 = fldK 0 x := by kernel_rfl
@[simp] theorem fa164_1 (x : AV) : afieldAddr Tryz.prog 164 x 1 = fldK 2 x := by kernel_rfl
@[simp] theorem fa164_2 (x : AV) : afieldAddr Tryz.prog 164 x 2 = fldK 4 x := by kernel_rfl
@[simp] theorem fa164_3 (x : AV) : afieldAddr Tryz.prog 164 x 3 = fldK 5 x := by kernel_rfl
@[simp] theorem fa164_4 (x : AV) : afieldAddr Tryz.prog 164 x 4 = fldK 7 x := by kernel_rfl
@[simp] theorem fa164_5 (x : AV) : afieldAddr Tryz.prog 164 x 5 = fldK 16 x := by kernel_rfl
@[simp] theorem fa164_8 (x : AV) : afieldAddr Tryz.prog 164 x 8 = fldK 58 x := by kernel_rfl
@[simp] theorem fa181_0 (x : AV) : afieldAddr Tryz.prog 181 x 0 = fldK 0 x := by kernel_rfl
@[simp] theorem fa181_1 (x : AV) : afieldAddr Tryz.prog 181 x 1 = fldK 1 x := by kernel_rfl
@[simp] theorem fa181_2 (x : AV) : afieldAddr Tryz.prog 181 x 2 = fldK 2 x := by kernel_rfl
@[simp] theorem fa181_3 (x : AV) : afieldAddr Tryz.prog 181 x 3 = fldK 3 x := by kernel_rfl
@[simp] theorem fa310_0 (x : AV) : afieldAddr Tryz.prog 310 x 0 = fldK 0 x := by kernel_rfl
@[simp] theorem fa310_1 (x : AV) : afieldAddr Tryz.prog 310 x 1 = fldK 1 x := by kernel_rfl
@[simp] theorem fa310_2 (x : AV) : afieldAddr Tryz.prog 310 x 2 = fldK 2 x := by kernel_rfl
@[simp] theorem ap22_22 (s x : AV) (nm : Name) (H : AHeap) : aappend Tryz.prog 22 22 s x nm H = appK 1 8 s x nm H := aappend_eq (by kernel_rfl : Tryz.prog.underlying 22 = some (.slice 3)) (by kernel_rfl : Tryz.prog.underlying 22 = some (.slice 3)) rfl (by kernel_rfl) (by kernel_rfl) (by kernel_rfl) s x nm H
@[simp] theorem ap47_47 (s x : AV) (nm : Name) (H : AHeap) : aappend Tryz.prog 47 47 s x nm H = appK 2 16 s x nm H := aappend_eq (by kernel_rfl : Tryz.prog.underlying 47 = some (.slice 28)) (by kernel_rfl : Tryz.prog.underlying 47 = some (.slice 28)) rfl (by kernel_rfl) (by kernel_rfl) (by kernel_rfl) s x nm H
@[simp] theorem ap60_60 (s x : AV) (nm : Name) (H : AHeap) : aappend Tryz.prog 60 60 s x nm H = appK 1 1 s x nm H := aappend_eq (by kernel_rfl : Tryz.prog.underlying 60 = some (.slice 5)) (by kernel_rfl : Tryz.prog.underlying 60 = some (.slice 5)) rfl (by kernel_rfl) (by kernel_rfl) (by kernel_rfl) s x nm H
@[simp] theorem ap140_140 (s x : AV) (nm : Name) (H : AHeap) : aappend Tryz.prog 140 140 s x nm H = appK 1 8 s x nm H := aappend_eq (by kernel_rfl : Tryz.prog.underlying 140 = some (.slice 146)) (by kernel_rfl : Tryz.prog.underlying 140 = some (.slice 146)) rfl (by kernel_rfl) (by kernel_rfl) (by kernel_rfl) s x nm H
theorem r3ag70 : aggB Tryz.prog 60 = some false := by kernel_rfl
theorem r3sz70 : szOf Tryz.prog 60 = some 1 := by kernel_rfl
theorem r3und42 : Tryz.prog.underlying 42 = some (.slice 60) := by kernel_rfl
theorem r3und70 : Tryz.prog.underlying 60 = some (.slice 5) := by kernel_rfl
end Go.Proofs.YtjinjfblilacaaaGreat.Den
