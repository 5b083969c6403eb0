/-
  No cell of these rows narrows 'for every input' (looked for: loops, veiled, ifaces, maps, wideKeys, modest, calm, conditions, laid).
  DERIVED. THE GIVEN ROWS OF THIS SEAT. 12 by the template 'for every input the law returns true; each argument reads behind the call as it read before'; 0 by the template 'total and deterministic' (their statements: YtjinjfblilacaaaGreatTotals.lean).
  GIVEN WITH THE SEED: the statements are not yours to turn. If you find one false, say at which input.
  Laid BY PROGRAM, IN A SANDBOX (cutbox-rows.mjs): the forced cells as the released guide's own fill.sh prints them over the translation 8ce269c72e2b2be5… (all of the seat's roots in one cut). By AI agents, Wed Nov 11 2026. No macro, syntax, notation, axiom, sorry.
-/
import Derived.Test.YtjinjfblilacaaaGreatChecked
import GoSem.Claim
import GoSem.ClaimJoined
import GoSem.ClaimMapViews
import Derived.JoinedTies
import Derived.KernelRfl
namespace Go.Proofs.YtjinjfblilacaaaGreat
/- THE CELL 'sum', in the pinned program and in every row, IS THE sha256 OF THE DUMP (.gsa) THAT YtjinjfblilacaaaGreatProg.lean LOADS. Nothing in Lean hashes anything: it is a label: what it is worth is what the hold of that sum in a sandbox is worth. -/
noncomputable def Tryz.pinned : Pinned := { name := "ytjinjfblilacaaagreat", sum := "8ce269c72e2b2be5ba66a8cc391ac0b5634d991f9b73e91eb915b9d3d188fbde", checked := Tryz.checked }
namespace Rows
def none {H : Type} : Left H := { results := [], args := [] }

/-- 'comitialaw19.ServerCreates': WHATEVER THE INPUT: true; the input reads as it did. -/
def serverCreatesSpec : ChangeSpec := { name := "serverCreates", fn := fun _ => fun
  | [d1, d2, d3] => { results := [.lit (.bool true)], args := [d1, d2, d3] }
  | _ => none }
def serverCreatesRow : OpenClaim := { program := "ytjinjfblilacaaagreat", sum := "8ce269c72e2b2be5ba66a8cc391ac0b5634d991f9b73e91eb915b9d3d188fbde", func := "comitia/comitialaw19.ServerCreates", spec := "serverCreates", inPlace := ["slices.overlaps[[]byte]"], unfollowed := true, recurses := true, apart := false }
def ServerCreatesSaid : Prop := serverCreatesRow.holds Tryz.pinned (OpenSpec.ofChange serverCreatesSpec)

/-- ITS FALSE NEIGHBOUR: 'it returns false'. Refute it at one input. -/
def serverCreatesWrong : ChangeSpec := { name := "serverCreates", fn := fun _ => fun
  | [d1, d2, d3] => { results := [.lit (.bool false)], args := [d1, d2, d3] }
  | _ => none }
def ServerCreatesWrongFalsely : Prop := serverCreatesRow.holds Tryz.pinned (OpenSpec.ofChange serverCreatesWrong)

/-- 'comitialaw19.ServerNobody': WHATEVER THE INPUT: true; the input reads as it did. -/
def serverNobodySpec : ChangeSpec := { name := "serverNobody", fn := fun _ => fun
  | [d1, d2] => { results := [.lit (.bool true)], args := [d1, d2] }
  | _ => none }
def serverNobodyRow : OpenClaim := { program := "ytjinjfblilacaaagreat", sum := "8ce269c72e2b2be5ba66a8cc391ac0b5634d991f9b73e91eb915b9d3d188fbde", func := "comitia/comitialaw19.ServerNobody", spec := "serverNobody", inPlace := ["slices.overlaps[[]byte]"], unfollowed := true, recurses := true, apart := false }
def ServerNobodySaid : Prop := serverNobodyRow.holds Tryz.pinned (OpenSpec.ofChange serverNobodySpec)

/-- ITS FALSE NEIGHBOUR: 'it returns false'. Refute it at one input. -/
def serverNobodyWrong : ChangeSpec := { name := "serverNobody", fn := fun _ => fun
  | [d1, d2] => { results := [.lit (.bool false)], args := [d1, d2] }
  | _ => none }
def ServerNobodyWrongFalsely : Prop := serverNobodyRow.holds Tryz.pinned (OpenSpec.ofChange serverNobodyWrong)

/-- 'comitialaw19.ServerTells': WHATEVER THE INPUT: true; the input reads as it did. -/
def serverTellsSpec : ChangeSpec := { name := "serverTells", fn := fun _ => fun
  | [d1, d2] => { results := [.lit (.bool true)], args := [d1, d2] }
  | _ => none }
def serverTellsRow : OpenClaim := { program := "ytjinjfblilacaaagreat", sum := "8ce269c72e2b2be5ba66a8cc391ac0b5634d991f9b73e91eb915b9d3d188fbde", func := "comitia/comitialaw19.ServerTells", spec := "serverTells", inPlace := ["slices.overlaps[[]byte]"], unfollowed := true, recurses := true, apart := false }
def ServerTellsSaid : Prop := serverTellsRow.holds Tryz.pinned (OpenSpec.ofChange serverTellsSpec)

/-- ITS FALSE NEIGHBOUR: 'it returns false'. Refute it at one input. -/
def serverTellsWrong : ChangeSpec := { name := "serverTells", fn := fun _ => fun
  | [d1, d2] => { results := [.lit (.bool false)], args := [d1, d2] }
  | _ => none }
def ServerTellsWrongFalsely : Prop := serverTellsRow.holds Tryz.pinned (OpenSpec.ofChange serverTellsWrong)

/-- 'comitialaw19.ServerForgets': WHATEVER THE INPUT: true; the input reads as it did. -/
def serverForgetsSpec : ChangeSpec := { name := "serverForgets", fn := fun _ => fun
  | [d1, d2] => { results := [.lit (.bool true)], args := [d1, d2] }
  | _ => none }
def serverForgetsRow : OpenClaim := { program := "ytjinjfblilacaaagreat", sum := "8ce269c72e2b2be5ba66a8cc391ac0b5634d991f9b73e91eb915b9d3d188fbde", func := "comitia/comitialaw19.ServerForgets", spec := "serverForgets", inPlace := ["slices.overlaps[[]byte]"], unfollowed := true, recurses := true, apart := false }
def ServerForgetsSaid : Prop := serverForgetsRow.holds Tryz.pinned (OpenSpec.ofChange serverForgetsSpec)

/-- ITS FALSE NEIGHBOUR: 'it returns false'. Refute it at one input. -/
def serverForgetsWrong : ChangeSpec := { name := "serverForgets", fn := fun _ => fun
  | [d1, d2] => { results := [.lit (.bool false)], args := [d1, d2] }
  | _ => none }
def ServerForgetsWrongFalsely : Prop := serverForgetsRow.holds Tryz.pinned (OpenSpec.ofChange serverForgetsWrong)

/-- 'comitialaw19.ServerPlays': WHATEVER THE INPUT: true; the input reads as it did. -/
def serverPlaysSpec : ChangeSpec := { name := "serverPlays", fn := fun _ => fun
  | [d1, d2] => { results := [.lit (.bool true)], args := [d1, d2] }
  | _ => none }
def serverPlaysRow : OpenClaim := { program := "ytjinjfblilacaaagreat", sum := "8ce269c72e2b2be5ba66a8cc391ac0b5634d991f9b73e91eb915b9d3d188fbde", func := "comitia/comitialaw19.ServerPlays", spec := "serverPlays", inPlace := ["slices.overlaps[[]byte]"], unfollowed := true, recurses := true, apart := false }
def ServerPlaysSaid : Prop := serverPlaysRow.holds Tryz.pinned (OpenSpec.ofChange serverPlaysSpec)

/-- ITS FALSE NEIGHBOUR: 'it returns false'. Refute it at one input. -/
def serverPlaysWrong : ChangeSpec := { name := "serverPlays", fn := fun _ => fun
  | [d1, d2] => { results := [.lit (.bool false)], args := [d1, d2] }
  | _ => none }
def ServerPlaysWrongFalsely : Prop := serverPlaysRow.holds Tryz.pinned (OpenSpec.ofChange serverPlaysWrong)

/-- 'comitialaw20.WorldAlone': WHATEVER THE INPUT: true; the input reads as it did. -/
def worldAloneSpec : ChangeSpec := { name := "worldAlone", fn := fun _ => fun
  | [d] => { results := [.lit (.bool true)], args := [d] }
  | _ => none }
def worldAloneRow : OpenClaim := { program := "ytjinjfblilacaaagreat", sum := "8ce269c72e2b2be5ba66a8cc391ac0b5634d991f9b73e91eb915b9d3d188fbde", func := "comitia/comitialaw20.WorldAlone", spec := "worldAlone", inPlace := ["slices.overlaps[[]byte]"], unfollowed := true, recurses := true, apart := false }
def WorldAloneSaid : Prop := worldAloneRow.holds Tryz.pinned (OpenSpec.ofChange worldAloneSpec)

/-- ITS FALSE NEIGHBOUR: 'it returns false'. Refute it at one input. -/
def worldAloneWrong : ChangeSpec := { name := "worldAlone", fn := fun _ => fun
  | [d] => { results := [.lit (.bool false)], args := [d] }
  | _ => none }
def WorldAloneWrongFalsely : Prop := worldAloneRow.holds Tryz.pinned (OpenSpec.ofChange worldAloneWrong)

/-- 'comitialaw20.WorldEdits': WHATEVER THE INPUT: true; the input reads as it did. -/
def worldEditsSpec : ChangeSpec := { name := "worldEdits", fn := fun _ => fun
  | [d1, d2, d3] => { results := [.lit (.bool true)], args := [d1, d2, d3] }
  | _ => none }
def worldEditsRow : OpenClaim := { program := "ytjinjfblilacaaagreat", sum := "8ce269c72e2b2be5ba66a8cc391ac0b5634d991f9b73e91eb915b9d3d188fbde", func := "comitia/comitialaw20.WorldEdits", spec := "worldEdits", inPlace := ["slices.overlaps[[]byte]"], unfollowed := true, recurses := true, apart := false }
def WorldEditsSaid : Prop := worldEditsRow.holds Tryz.pinned (OpenSpec.ofChange worldEditsSpec)

/-- ITS FALSE NEIGHBOUR: 'it returns false'. Refute it at one input. -/
def worldEditsWrong : ChangeSpec := { name := "worldEdits", fn := fun _ => fun
  | [d1, d2, d3] => { results := [.lit (.bool false)], args := [d1, d2, d3] }
  | _ => none }
def WorldEditsWrongFalsely : Prop := worldEditsRow.holds Tryz.pinned (OpenSpec.ofChange worldEditsWrong)

/-- 'comitialaw20.WorldCuts': WHATEVER THE INPUT: true; the input reads as it did. -/
def worldCutsSpec : ChangeSpec := { name := "worldCuts", fn := fun _ => fun
  | [d1, d2, d3] => { results := [.lit (.bool true)], args := [d1, d2, d3] }
  | _ => none }
def worldCutsRow : OpenClaim := { program := "ytjinjfblilacaaagreat", sum := "8ce269c72e2b2be5ba66a8cc391ac0b5634d991f9b73e91eb915b9d3d188fbde", func := "comitia/comitialaw20.WorldCuts", spec := "worldCuts", inPlace := ["slices.overlaps[[]byte]"], unfollowed := true, recurses := true, apart := false }
def WorldCutsSaid : Prop := worldCutsRow.holds Tryz.pinned (OpenSpec.ofChange worldCutsSpec)

/-- ITS FALSE NEIGHBOUR: 'it returns false'. Refute it at one input. -/
def worldCutsWrong : ChangeSpec := { name := "worldCuts", fn := fun _ => fun
  | [d1, d2, d3] => { results := [.lit (.bool false)], args := [d1, d2, d3] }
  | _ => none }
def WorldCutsWrongFalsely : Prop := worldCutsRow.holds Tryz.pinned (OpenSpec.ofChange worldCutsWrong)

/-- 'comitialaw20.WorldCrash': WHATEVER THE INPUT: true; the input reads as it did. -/
def worldCrashSpec : ChangeSpec := { name := "worldCrash", fn := fun _ => fun
  | [d1, d2, d3, d4] => { results := [.lit (.bool true)], args := [d1, d2, d3, d4] }
  | _ => none }
def worldCrashRow : OpenClaim := { program := "ytjinjfblilacaaagreat", sum := "8ce269c72e2b2be5ba66a8cc391ac0b5634d991f9b73e91eb915b9d3d188fbde", func := "comitia/comitialaw20.WorldCrash", spec := "worldCrash", inPlace := ["slices.overlaps[[]byte]"], unfollowed := true, recurses := true, apart := false }
def WorldCrashSaid : Prop := worldCrashRow.holds Tryz.pinned (OpenSpec.ofChange worldCrashSpec)

/-- ITS FALSE NEIGHBOUR: 'it returns false'. Refute it at one input. -/
def worldCrashWrong : ChangeSpec := { name := "worldCrash", fn := fun _ => fun
  | [d1, d2, d3, d4] => { results := [.lit (.bool false)], args := [d1, d2, d3, d4] }
  | _ => none }
def WorldCrashWrongFalsely : Prop := worldCrashRow.holds Tryz.pinned (OpenSpec.ofChange worldCrashWrong)

/-- 'comitialaw21.ScriptRest': WHATEVER THE INPUT: true; the input reads as it did. -/
def scriptRestSpec : ChangeSpec := { name := "scriptRest", fn := fun _ => fun
  | [d1, d2] => { results := [.lit (.bool true)], args := [d1, d2] }
  | _ => none }
def scriptRestRow : OpenClaim := { program := "ytjinjfblilacaaagreat", sum := "8ce269c72e2b2be5ba66a8cc391ac0b5634d991f9b73e91eb915b9d3d188fbde", func := "comitia/comitialaw21.ScriptRest", spec := "scriptRest", inPlace := ["slices.overlaps[[]byte]"], unfollowed := true, recurses := true, apart := false }
def ScriptRestSaid : Prop := scriptRestRow.holds Tryz.pinned (OpenSpec.ofChange scriptRestSpec)

/-- ITS FALSE NEIGHBOUR: 'it returns false'. Refute it at one input. -/
def scriptRestWrong : ChangeSpec := { name := "scriptRest", fn := fun _ => fun
  | [d1, d2] => { results := [.lit (.bool false)], args := [d1, d2] }
  | _ => none }
def ScriptRestWrongFalsely : Prop := scriptRestRow.holds Tryz.pinned (OpenSpec.ofChange scriptRestWrong)

/-- 'comitialaw21.ScriptSteps': WHATEVER THE INPUT: true; the input reads as it did. -/
def scriptStepsSpec : ChangeSpec := { name := "scriptSteps", fn := fun _ => fun
  | [d1, d2] => { results := [.lit (.bool true)], args := [d1, d2] }
  | _ => none }
def scriptStepsRow : OpenClaim := { program := "ytjinjfblilacaaagreat", sum := "8ce269c72e2b2be5ba66a8cc391ac0b5634d991f9b73e91eb915b9d3d188fbde", func := "comitia/comitialaw21.ScriptSteps", spec := "scriptSteps", inPlace := ["slices.overlaps[[]byte]"], unfollowed := true, recurses := true, apart := false }
def ScriptStepsSaid : Prop := scriptStepsRow.holds Tryz.pinned (OpenSpec.ofChange scriptStepsSpec)

/-- ITS FALSE NEIGHBOUR: 'it returns false'. Refute it at one input. -/
def scriptStepsWrong : ChangeSpec := { name := "scriptSteps", fn := fun _ => fun
  | [d1, d2] => { results := [.lit (.bool false)], args := [d1, d2] }
  | _ => none }
def ScriptStepsWrongFalsely : Prop := scriptStepsRow.holds Tryz.pinned (OpenSpec.ofChange scriptStepsWrong)

/-- 'comitialaw21.ScriptKinds': WHATEVER THE INPUT: true; the input reads as it did. -/
def scriptKindsSpec : ChangeSpec := { name := "scriptKinds", fn := fun _ => fun
  | [d1, d2, d3, d4] => { results := [.lit (.bool true)], args := [d1, d2, d3, d4] }
  | _ => none }
def scriptKindsRow : OpenClaim := { program := "ytjinjfblilacaaagreat", sum := "8ce269c72e2b2be5ba66a8cc391ac0b5634d991f9b73e91eb915b9d3d188fbde", func := "comitia/comitialaw21.ScriptKinds", spec := "scriptKinds", inPlace := ["slices.overlaps[[]byte]"], unfollowed := true, recurses := true, apart := false }
def ScriptKindsSaid : Prop := scriptKindsRow.holds Tryz.pinned (OpenSpec.ofChange scriptKindsSpec)

/-- ITS FALSE NEIGHBOUR: 'it returns false'. Refute it at one input. -/
def scriptKindsWrong : ChangeSpec := { name := "scriptKinds", fn := fun _ => fun
  | [d1, d2, d3, d4] => { results := [.lit (.bool false)], args := [d1, d2, d3, d4] }
  | _ => none }
def ScriptKindsWrongFalsely : Prop := scriptKindsRow.holds Tryz.pinned (OpenSpec.ofChange scriptKindsWrong)

/- THE SECOND FORM. 'bulk': how many values and letters a reading holds, each counted each time it is reached (what is shared counts as often as it is met; a slice's spare places count too). A statement '..UptoSaid' is the law's where the arguments, and the package variables that the reading takes, are together of bulk at most 1048576: NARROWER than '..Said'. Prove '..Said' where nothing that the law and all that it calls make is longer than what came in: it says more and counts as full. Else prove '..UptoSaid'. A law counts once. -/
mutual
def uptoBulk {H : Type} : DataW H → Nat
  | .lit (.string bytes) => bytes.length + 1
  | .lit _ => 1
  | .nil => 1
  | .ptr d => uptoBulk d + 1
  | .slice elems spare => uptoBulkAll elems + uptoBulkAll spare + 1
  | .agg parts => uptoBulkAll parts + 1
  | .iface _ d => uptoBulk d + 1
  | .map entries => uptoBulkEntries entries + 1
  | .held _ => 1
def uptoBulkAll {H : Type} : List (DataW H) → Nat
  | [] => 0
  | d :: r => uptoBulk d + uptoBulkAll r
def uptoBulkEntries {H : Type} : List (Lit × DataW H) → Nat
  | [] => 0
  | x :: r => uptoBulkEntry x + uptoBulkEntries r
def uptoBulkEntry {H : Type} : Lit × DataW H → Nat
  | (.string bytes, d) => bytes.length + uptoBulk d + 1
  | (_, d) => uptoBulk d + 1
 end
def uptoSmall : (H : Type) → List (DataW H) → Bool := fun _ ds => decide (uptoBulkAll ds ≤ 1048576)
def OpenSpec.upto (s : _root_.Go.ChangeSpec) : _root_.Go.OpenSpec := { _root_.Go.OpenSpec.ofChange s with cond := some uptoSmall }

/-- 'comitialaw19.ServerCreates', WHERE WHAT IT READS IS OF BULK AT MOST 1048576: true; the input reads as it did. -/
def serverCreatesUptoRow : OpenClaim := { program := "ytjinjfblilacaaagreat", sum := "8ce269c72e2b2be5ba66a8cc391ac0b5634d991f9b73e91eb915b9d3d188fbde", func := "comitia/comitialaw19.ServerCreates", spec := "serverCreates", inPlace := ["slices.overlaps[[]byte]"], unfollowed := true, recurses := true, apart := false, narrowed := true }
def ServerCreatesUptoSaid : Prop := serverCreatesUptoRow.holds Tryz.pinned (OpenSpec.upto serverCreatesSpec)

/-- 'comitialaw19.ServerNobody', WHERE WHAT IT READS IS OF BULK AT MOST 1048576: true; the input reads as it did. -/
def serverNobodyUptoRow : OpenClaim := { program := "ytjinjfblilacaaagreat", sum := "8ce269c72e2b2be5ba66a8cc391ac0b5634d991f9b73e91eb915b9d3d188fbde", func := "comitia/comitialaw19.ServerNobody", spec := "serverNobody", inPlace := ["slices.overlaps[[]byte]"], unfollowed := true, recurses := true, apart := false, narrowed := true }
def ServerNobodyUptoSaid : Prop := serverNobodyUptoRow.holds Tryz.pinned (OpenSpec.upto serverNobodySpec)

/-- 'comitialaw19.ServerTells', WHERE WHAT IT READS IS OF BULK AT MOST 1048576: true; the input reads as it did. -/
def serverTellsUptoRow : OpenClaim := { program := "ytjinjfblilacaaagreat", sum := "8ce269c72e2b2be5ba66a8cc391ac0b5634d991f9b73e91eb915b9d3d188fbde", func := "comitia/comitialaw19.ServerTells", spec := "serverTells", inPlace := ["slices.overlaps[[]byte]"], unfollowed := true, recurses := true, apart := false, narrowed := true }
def ServerTellsUptoSaid : Prop := serverTellsUptoRow.holds Tryz.pinned (OpenSpec.upto serverTellsSpec)

/-- 'comitialaw19.ServerForgets', WHERE WHAT IT READS IS OF BULK AT MOST 1048576: true; the input reads as it did. -/
def serverForgetsUptoRow : OpenClaim := { program := "ytjinjfblilacaaagreat", sum := "8ce269c72e2b2be5ba66a8cc391ac0b5634d991f9b73e91eb915b9d3d188fbde", func := "comitia/comitialaw19.ServerForgets", spec := "serverForgets", inPlace := ["slices.overlaps[[]byte]"], unfollowed := true, recurses := true, apart := false, narrowed := true }
def ServerForgetsUptoSaid : Prop := serverForgetsUptoRow.holds Tryz.pinned (OpenSpec.upto serverForgetsSpec)

/-- 'comitialaw19.ServerPlays', WHERE WHAT IT READS IS OF BULK AT MOST 1048576: true; the input reads as it did. -/
def serverPlaysUptoRow : OpenClaim := { program := "ytjinjfblilacaaagreat", sum := "8ce269c72e2b2be5ba66a8cc391ac0b5634d991f9b73e91eb915b9d3d188fbde", func := "comitia/comitialaw19.ServerPlays", spec := "serverPlays", inPlace := ["slices.overlaps[[]byte]"], unfollowed := true, recurses := true, apart := false, narrowed := true }
def ServerPlaysUptoSaid : Prop := serverPlaysUptoRow.holds Tryz.pinned (OpenSpec.upto serverPlaysSpec)

/-- 'comitialaw20.WorldAlone', WHERE WHAT IT READS IS OF BULK AT MOST 1048576: true; the input reads as it did. -/
def worldAloneUptoRow : OpenClaim := { program := "ytjinjfblilacaaagreat", sum := "8ce269c72e2b2be5ba66a8cc391ac0b5634d991f9b73e91eb915b9d3d188fbde", func := "comitia/comitialaw20.WorldAlone", spec := "worldAlone", inPlace := ["slices.overlaps[[]byte]"], unfollowed := true, recurses := true, apart := false, narrowed := true }
def WorldAloneUptoSaid : Prop := worldAloneUptoRow.holds Tryz.pinned (OpenSpec.upto worldAloneSpec)

/-- 'comitialaw20.WorldEdits', WHERE WHAT IT READS IS OF BULK AT MOST 1048576: true; the input reads as it did. -/
def worldEditsUptoRow : OpenClaim := { program := "ytjinjfblilacaaagreat", sum := "8ce269c72e2b2be5ba66a8cc391ac0b5634d991f9b73e91eb915b9d3d188fbde", func := "comitia/comitialaw20.WorldEdits", spec := "worldEdits", inPlace := ["slices.overlaps[[]byte]"], unfollowed := true, recurses := true, apart := false, narrowed := true }
def WorldEditsUptoSaid : Prop := worldEditsUptoRow.holds Tryz.pinned (OpenSpec.upto worldEditsSpec)

/-- 'comitialaw20.WorldCuts', WHERE WHAT IT READS IS OF BULK AT MOST 1048576: true; the input reads as it did. -/
def worldCutsUptoRow : OpenClaim := { program := "ytjinjfblilacaaagreat", sum := "8ce269c72e2b2be5ba66a8cc391ac0b5634d991f9b73e91eb915b9d3d188fbde", func := "comitia/comitialaw20.WorldCuts", spec := "worldCuts", inPlace := ["slices.overlaps[[]byte]"], unfollowed := true, recurses := true, apart := false, narrowed := true }
def WorldCutsUptoSaid : Prop := worldCutsUptoRow.holds Tryz.pinned (OpenSpec.upto worldCutsSpec)

/-- 'comitialaw20.WorldCrash', WHERE WHAT IT READS IS OF BULK AT MOST 1048576: true; the input reads as it did. -/
def worldCrashUptoRow : OpenClaim := { program := "ytjinjfblilacaaagreat", sum := "8ce269c72e2b2be5ba66a8cc391ac0b5634d991f9b73e91eb915b9d3d188fbde", func := "comitia/comitialaw20.WorldCrash", spec := "worldCrash", inPlace := ["slices.overlaps[[]byte]"], unfollowed := true, recurses := true, apart := false, narrowed := true }
def WorldCrashUptoSaid : Prop := worldCrashUptoRow.holds Tryz.pinned (OpenSpec.upto worldCrashSpec)

/-- 'comitialaw21.ScriptRest', WHERE WHAT IT READS IS OF BULK AT MOST 1048576: true; the input reads as it did. -/
def scriptRestUptoRow : OpenClaim := { program := "ytjinjfblilacaaagreat", sum := "8ce269c72e2b2be5ba66a8cc391ac0b5634d991f9b73e91eb915b9d3d188fbde", func := "comitia/comitialaw21.ScriptRest", spec := "scriptRest", inPlace := ["slices.overlaps[[]byte]"], unfollowed := true, recurses := true, apart := false, narrowed := true }
def ScriptRestUptoSaid : Prop := scriptRestUptoRow.holds Tryz.pinned (OpenSpec.upto scriptRestSpec)

/-- 'comitialaw21.ScriptSteps', WHERE WHAT IT READS IS OF BULK AT MOST 1048576: true; the input reads as it did. -/
def scriptStepsUptoRow : OpenClaim := { program := "ytjinjfblilacaaagreat", sum := "8ce269c72e2b2be5ba66a8cc391ac0b5634d991f9b73e91eb915b9d3d188fbde", func := "comitia/comitialaw21.ScriptSteps", spec := "scriptSteps", inPlace := ["slices.overlaps[[]byte]"], unfollowed := true, recurses := true, apart := false, narrowed := true }
def ScriptStepsUptoSaid : Prop := scriptStepsUptoRow.holds Tryz.pinned (OpenSpec.upto scriptStepsSpec)

/-- 'comitialaw21.ScriptKinds', WHERE WHAT IT READS IS OF BULK AT MOST 1048576: true; the input reads as it did. -/
def scriptKindsUptoRow : OpenClaim := { program := "ytjinjfblilacaaagreat", sum := "8ce269c72e2b2be5ba66a8cc391ac0b5634d991f9b73e91eb915b9d3d188fbde", func := "comitia/comitialaw21.ScriptKinds", spec := "scriptKinds", inPlace := ["slices.overlaps[[]byte]"], unfollowed := true, recurses := true, apart := false, narrowed := true }
def ScriptKindsUptoSaid : Prop := scriptKindsUptoRow.holds Tryz.pinned (OpenSpec.upto scriptKindsSpec)

end Rows
end Go.Proofs.YtjinjfblilacaaaGreat
