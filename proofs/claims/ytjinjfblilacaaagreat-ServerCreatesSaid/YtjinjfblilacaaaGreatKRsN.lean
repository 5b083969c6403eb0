/- Package comitiaref2, Sum: the rounds of a piece. -/
import Derived.Test.YtjinjfblilacaaaGreatKShaC
set_option linter.unusedVariables false
set_option linter.unusedSimpArgs false
set_option linter.unusedSimpArgs false
set_option linter.unusedVariables false
set_option maxRecDepth 100000
namespace Go.Proofs.YtjinjfblilacaaaGreat.Den
open Go.RowKit
attribute [local simp] runList aop abuiltin acall awanted ayielded env T0 tput tset Ran aload astore setMany upd binV aslice aindexAddr apart aindex alen acopy srcCells natOf boundOf aeq AV.nilEq convV appK fillA List.range List.range.loop onF isU8 rowOf
end Go.Proofs.YtjinjfblilacaaaGreat.Den
