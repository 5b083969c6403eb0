/-
  No cell of these rows narrows 'for every input' (looked for: loops, veiled, ifaces, maps, wideKeys, modest, calm, conditions, laid).
  DERIVED. THE GIVEN ROWS OF THIS SEAT. 8 by the template 'for every input the law returns true; each argument reads behind the call as it read before'; 0 by the template 'total and deterministic' (their statements: YtbllpnjappddeaaGreatTotals.lean).
  GIVEN WITH THE SEED: the statements are not yours to turn. If you find one false, say at which input.
  Laid BY PROGRAM, IN A SANDBOX (cutbox-rows.mjs): the forced cells as the released guide's own fill.sh prints them over the translation 496f94f36da30c21… (all of the seat's roots in one cut). By AI agents, Wed Nov 11 2026. No macro, syntax, notation, axiom, sorry.
-/
import Derived.Test.YtbllpnjappddeaaGreatChecked
import GoSem.Claim
import GoSem.ClaimJoined
import GoSem.ClaimMapViews
import Derived.JoinedTies
import Derived.KernelRfl
namespace Go.Proofs.YtbllpnjappddeaaGreat
/- THE CELL 'sum', in the pinned program and in every row, IS THE sha256 OF THE DUMP (.gsa) THAT YtbllpnjappddeaaGreatProg.lean LOADS. Nothing in Lean hashes anything: it is a label: what it is worth is what the hold of that sum in a sandbox is worth. -/
noncomputable def Tryz.pinned : Pinned := { name := "ytbllpnjappddeaagreat", sum := "496f94f36da30c217f6257ab40b088be9e33014d6935485eeec8a4033fe865fb", checked := Tryz.checked }
namespace Rows
def none {H : Type} : Left H := { results := [], args := [] }

/-- 'comitialaw19.ServerCreates': WHATEVER THE INPUT: true; the input reads as it did. -/
def serverCreatesSpec : ChangeSpec := { name := "serverCreates", fn := fun _ => fun
  | [d1, d2, d3] => { results := [.lit (.bool true)], args := [d1, d2, d3] }
  | _ => none }
def serverCreatesRow : OpenClaim := { program := "ytbllpnjappddeaagreat", sum := "496f94f36da30c217f6257ab40b088be9e33014d6935485eeec8a4033fe865fb", func := "comitia/comitialaw19.ServerCreates", spec := "serverCreates", inPlace := ["slices.overlaps[[]byte]"], unfollowed := true, recurses := true, apart := false }
def ServerCreatesSaid : Prop := serverCreatesRow.holds Tryz.pinned (OpenSpec.ofChange serverCreatesSpec)

/-- ITS FALSE NEIGHBOUR: 'it returns false'. Refute it at one input. -/
def serverCreatesWrong : ChangeSpec := { name := "serverCreates", fn := fun _ => fun
  | [d1, d2, d3] => { results := [.lit (.bool false)], args := [d1, d2, d3] }
  | _ => none }
def ServerCreatesWrongFalsely : Prop := serverCreatesRow.holds Tryz.pinned (OpenSpec.ofChange serverCreatesWrong)

/-- 'comitialaw19.ServerRemoved': WHATEVER THE INPUT: true; the input reads as it did. -/
def serverRemovedSpec : ChangeSpec := { name := "serverRemoved", fn := fun _ => fun
  | [d] => { results := [.lit (.bool true)], args := [d] }
  | _ => none }
def serverRemovedRow : OpenClaim := { program := "ytbllpnjappddeaagreat", sum := "496f94f36da30c217f6257ab40b088be9e33014d6935485eeec8a4033fe865fb", func := "comitia/comitialaw19.ServerRemoved", spec := "serverRemoved", inPlace := ["slices.overlaps[[]byte]"], unfollowed := true, recurses := true, apart := false }
def ServerRemovedSaid : Prop := serverRemovedRow.holds Tryz.pinned (OpenSpec.ofChange serverRemovedSpec)

/-- ITS FALSE NEIGHBOUR: 'it returns false'. Refute it at one input. -/
def serverRemovedWrong : ChangeSpec := { name := "serverRemoved", fn := fun _ => fun
  | [d] => { results := [.lit (.bool false)], args := [d] }
  | _ => none }
def ServerRemovedWrongFalsely : Prop := serverRemovedRow.holds Tryz.pinned (OpenSpec.ofChange serverRemovedWrong)

/-- 'comitialaw19.ServerUnsafe': WHATEVER THE INPUT: true; the input reads as it did. -/
def serverUnsafeSpec : ChangeSpec := { name := "serverUnsafe", fn := fun _ => fun
  | [d1, d2] => { results := [.lit (.bool true)], args := [d1, d2] }
  | _ => none }
def serverUnsafeRow : OpenClaim := { program := "ytbllpnjappddeaagreat", sum := "496f94f36da30c217f6257ab40b088be9e33014d6935485eeec8a4033fe865fb", func := "comitia/comitialaw19.ServerUnsafe", spec := "serverUnsafe", inPlace := ["slices.overlaps[[]byte]"], unfollowed := true, recurses := true, apart := false }
def ServerUnsafeSaid : Prop := serverUnsafeRow.holds Tryz.pinned (OpenSpec.ofChange serverUnsafeSpec)

/-- ITS FALSE NEIGHBOUR: 'it returns false'. Refute it at one input. -/
def serverUnsafeWrong : ChangeSpec := { name := "serverUnsafe", fn := fun _ => fun
  | [d1, d2] => { results := [.lit (.bool false)], args := [d1, d2] }
  | _ => none }
def ServerUnsafeWrongFalsely : Prop := serverUnsafeRow.holds Tryz.pinned (OpenSpec.ofChange serverUnsafeWrong)

/-- 'comitialaw19.ServerAnswers': WHATEVER THE INPUT: true; the input reads as it did. -/
def serverAnswersSpec : ChangeSpec := { name := "serverAnswers", fn := fun _ => fun
  | [d1, d2, d3] => { results := [.lit (.bool true)], args := [d1, d2, d3] }
  | _ => none }
def serverAnswersRow : OpenClaim := { program := "ytbllpnjappddeaagreat", sum := "496f94f36da30c217f6257ab40b088be9e33014d6935485eeec8a4033fe865fb", func := "comitia/comitialaw19.ServerAnswers", spec := "serverAnswers", inPlace := ["slices.overlaps[[]byte]"], unfollowed := true, recurses := true, apart := false }
def ServerAnswersSaid : Prop := serverAnswersRow.holds Tryz.pinned (OpenSpec.ofChange serverAnswersSpec)

/-- ITS FALSE NEIGHBOUR: 'it returns false'. Refute it at one input. -/
def serverAnswersWrong : ChangeSpec := { name := "serverAnswers", fn := fun _ => fun
  | [d1, d2, d3] => { results := [.lit (.bool false)], args := [d1, d2, d3] }
  | _ => none }
def ServerAnswersWrongFalsely : Prop := serverAnswersRow.holds Tryz.pinned (OpenSpec.ofChange serverAnswersWrong)

/-- 'comitialaw20.WorldJoins': WHATEVER THE INPUT: true; the input reads as it did. -/
def worldJoinsSpec : ChangeSpec := { name := "worldJoins", fn := fun _ => fun
  | [d1, d2] => { results := [.lit (.bool true)], args := [d1, d2] }
  | _ => none }
def worldJoinsRow : OpenClaim := { program := "ytbllpnjappddeaagreat", sum := "496f94f36da30c217f6257ab40b088be9e33014d6935485eeec8a4033fe865fb", func := "comitia/comitialaw20.WorldJoins", spec := "worldJoins", inPlace := ["slices.overlaps[[]byte]"], unfollowed := true, recurses := true, apart := false }
def WorldJoinsSaid : Prop := worldJoinsRow.holds Tryz.pinned (OpenSpec.ofChange worldJoinsSpec)

/-- ITS FALSE NEIGHBOUR: 'it returns false'. Refute it at one input. -/
def worldJoinsWrong : ChangeSpec := { name := "worldJoins", fn := fun _ => fun
  | [d1, d2] => { results := [.lit (.bool false)], args := [d1, d2] }
  | _ => none }
def WorldJoinsWrongFalsely : Prop := worldJoinsRow.holds Tryz.pinned (OpenSpec.ofChange worldJoinsWrong)

/-- 'comitialaw20.WorldNet': WHATEVER THE INPUT: true; the input reads as it did. -/
def worldNetSpec : ChangeSpec := { name := "worldNet", fn := fun _ => fun
  | [d1, d2, d3] => { results := [.lit (.bool true)], args := [d1, d2, d3] }
  | _ => none }
def worldNetRow : OpenClaim := { program := "ytbllpnjappddeaagreat", sum := "496f94f36da30c217f6257ab40b088be9e33014d6935485eeec8a4033fe865fb", func := "comitia/comitialaw20.WorldNet", spec := "worldNet", inPlace := ["slices.overlaps[[]byte]"], unfollowed := true, recurses := true, apart := false }
def WorldNetSaid : Prop := worldNetRow.holds Tryz.pinned (OpenSpec.ofChange worldNetSpec)

/-- ITS FALSE NEIGHBOUR: 'it returns false'. Refute it at one input. -/
def worldNetWrong : ChangeSpec := { name := "worldNet", fn := fun _ => fun
  | [d1, d2, d3] => { results := [.lit (.bool false)], args := [d1, d2, d3] }
  | _ => none }
def WorldNetWrongFalsely : Prop := worldNetRow.holds Tryz.pinned (OpenSpec.ofChange worldNetWrong)

/-- 'comitialaw20.WorldNone': WHATEVER THE INPUT: true; the input reads as it did. -/
def worldNoneSpec : ChangeSpec := { name := "worldNone", fn := fun _ => fun
  | [d1, d2, d3, d4] => { results := [.lit (.bool true)], args := [d1, d2, d3, d4] }
  | _ => none }
def worldNoneRow : OpenClaim := { program := "ytbllpnjappddeaagreat", sum := "496f94f36da30c217f6257ab40b088be9e33014d6935485eeec8a4033fe865fb", func := "comitia/comitialaw20.WorldNone", spec := "worldNone", inPlace := ["slices.overlaps[[]byte]"], unfollowed := true, recurses := true, apart := false }
def WorldNoneSaid : Prop := worldNoneRow.holds Tryz.pinned (OpenSpec.ofChange worldNoneSpec)

/-- ITS FALSE NEIGHBOUR: 'it returns false'. Refute it at one input. -/
def worldNoneWrong : ChangeSpec := { name := "worldNone", fn := fun _ => fun
  | [d1, d2, d3, d4] => { results := [.lit (.bool false)], args := [d1, d2, d3, d4] }
  | _ => none }
def WorldNoneWrongFalsely : Prop := worldNoneRow.holds Tryz.pinned (OpenSpec.ofChange worldNoneWrong)

/-- 'comitialaw21.ScriptLong': WHATEVER THE INPUT: true; the input reads as it did. -/
def scriptLongSpec : ChangeSpec := { name := "scriptLong", fn := fun _ => fun
  | [d] => { results := [.lit (.bool true)], args := [d] }
  | _ => none }
def scriptLongRow : OpenClaim := { program := "ytbllpnjappddeaagreat", sum := "496f94f36da30c217f6257ab40b088be9e33014d6935485eeec8a4033fe865fb", func := "comitia/comitialaw21.ScriptLong", spec := "scriptLong", inPlace := ["slices.overlaps[[]byte]"], unfollowed := true, recurses := true, apart := false }
def ScriptLongSaid : Prop := scriptLongRow.holds Tryz.pinned (OpenSpec.ofChange scriptLongSpec)

/-- ITS FALSE NEIGHBOUR: 'it returns false'. Refute it at one input. -/
def scriptLongWrong : ChangeSpec := { name := "scriptLong", fn := fun _ => fun
  | [d] => { results := [.lit (.bool false)], args := [d] }
  | _ => none }
def ScriptLongWrongFalsely : Prop := scriptLongRow.holds Tryz.pinned (OpenSpec.ofChange scriptLongWrong)

/- THE SECOND FORM. 'bulk': how many values and letters a reading holds, each counted each time it is reached (what is shared counts as often as it is met; a slice's spare places count too). A statement '..UptoSaid' is the law's where the arguments, and the package variables that the reading takes, are together of bulk at most 1048576: NARROWER than '..Said'. Prove '..Said' where nothing that the law and all that it calls make is longer than what came in: it says more and counts as full. Else prove '..UptoSaid'. A law counts once. -/
mutual
def uptoBulk {H : Type} : DataW H → Nat
  | .lit (.string bytes) => bytes.length + 1
  | .lit _ => 1
  | .nil => 1
  | .ptr d => uptoBulk d + 1
  | .slice elems spare => uptoBulkAll elems + uptoBulkAll spare + 1
  | .agg parts => uptoBulkAll parts + 1
  | .iface _ d => uptoBulk d + 1
  | .map entries => uptoBulkEntries entries + 1
  | .held _ => 1
def uptoBulkAll {H : Type} : List (DataW H) → Nat
  | [] => 0
  | d :: r => uptoBulk d + uptoBulkAll r
def uptoBulkEntries {H : Type} : List (Lit × DataW H) → Nat
  | [] => 0
  | x :: r => uptoBulkEntry x + uptoBulkEntries r
def uptoBulkEntry {H : Type} : Lit × DataW H → Nat
  | (.string bytes, d) => bytes.length + uptoBulk d + 1
  | (_, d) => uptoBulk d + 1
 end
def uptoSmall : (H : Type) → List (DataW H) → Bool := fun _ ds => decide (uptoBulkAll ds ≤ 1048576)
def OpenSpec.upto (s : _root_.Go.ChangeSpec) : _root_.Go.OpenSpec := { _root_.Go.OpenSpec.ofChange s with cond := some uptoSmall }

/-- 'comitialaw19.ServerCreates', WHERE WHAT IT READS IS OF BULK AT MOST 1048576: true; the input reads as it did. -/
def serverCreatesUptoRow : OpenClaim := { program := "ytbllpnjappddeaagreat", sum := "496f94f36da30c217f6257ab40b088be9e33014d6935485eeec8a4033fe865fb", func := "comitia/comitialaw19.ServerCreates", spec := "serverCreates", inPlace := ["slices.overlaps[[]byte]"], unfollowed := true, recurses := true, apart := false, narrowed := true }
def ServerCreatesUptoSaid : Prop := serverCreatesUptoRow.holds Tryz.pinned (OpenSpec.upto serverCreatesSpec)

/-- 'comitialaw19.ServerRemoved', WHERE WHAT IT READS IS OF BULK AT MOST 1048576: true; the input reads as it did. -/
def serverRemovedUptoRow : OpenClaim := { program := "ytbllpnjappddeaagreat", sum := "496f94f36da30c217f6257ab40b088be9e33014d6935485eeec8a4033fe865fb", func := "comitia/comitialaw19.ServerRemoved", spec := "serverRemoved", inPlace := ["slices.overlaps[[]byte]"], unfollowed := true, recurses := true, apart := false, narrowed := true }
def ServerRemovedUptoSaid : Prop := serverRemovedUptoRow.holds Tryz.pinned (OpenSpec.upto serverRemovedSpec)

/-- 'comitialaw19.ServerUnsafe', WHERE WHAT IT READS IS OF BULK AT MOST 1048576: true; the input reads as it did. -/
def serverUnsafeUptoRow : OpenClaim := { program := "ytbllpnjappddeaagreat", sum := "496f94f36da30c217f6257ab40b088be9e33014d6935485eeec8a4033fe865fb", func := "comitia/comitialaw19.ServerUnsafe", spec := "serverUnsafe", inPlace := ["slices.overlaps[[]byte]"], unfollowed := true, recurses := true, apart := false, narrowed := true }
def ServerUnsafeUptoSaid : Prop := serverUnsafeUptoRow.holds Tryz.pinned (OpenSpec.upto serverUnsafeSpec)

/-- 'comitialaw19.ServerAnswers', WHERE WHAT IT READS IS OF BULK AT MOST 1048576: true; the input reads as it did. -/
def serverAnswersUptoRow : OpenClaim := { program := "ytbllpnjappddeaagreat", sum := "496f94f36da30c217f6257ab40b088be9e33014d6935485eeec8a4033fe865fb", func := "comitia/comitialaw19.ServerAnswers", spec := "serverAnswers", inPlace := ["slices.overlaps[[]byte]"], unfollowed := true, recurses := true, apart := false, narrowed := true }
def ServerAnswersUptoSaid : Prop := serverAnswersUptoRow.holds Tryz.pinned (OpenSpec.upto serverAnswersSpec)

/-- 'comitialaw20.WorldJoins', WHERE WHAT IT READS IS OF BULK AT MOST 1048576: true; the input reads as it did. -/
def worldJoinsUptoRow : OpenClaim := { program := "ytbllpnjappddeaagreat", sum := "496f94f36da30c217f6257ab40b088be9e33014d6935485eeec8a4033fe865fb", func := "comitia/comitialaw20.WorldJoins", spec := "worldJoins", inPlace := ["slices.overlaps[[]byte]"], unfollowed := true, recurses := true, apart := false, narrowed := true }
def WorldJoinsUptoSaid : Prop := worldJoinsUptoRow.holds Tryz.pinned (OpenSpec.upto worldJoinsSpec)

/-- 'comitialaw20.WorldNet', WHERE WHAT IT READS IS OF BULK AT MOST 1048576: true; the input reads as it did. -/
def worldNetUptoRow : OpenClaim := { program := "ytbllpnjappddeaagreat", sum := "496f94f36da30c217f6257ab40b088be9e33014d6935485eeec8a4033fe865fb", func := "comitia/comitialaw20.WorldNet", spec := "worldNet", inPlace := ["slices.overlaps[[]byte]"], unfollowed := true, recurses := true, apart := false, narrowed := true }
def WorldNetUptoSaid : Prop := worldNetUptoRow.holds Tryz.pinned (OpenSpec.upto worldNetSpec)

/-- 'comitialaw20.WorldNone', WHERE WHAT IT READS IS OF BULK AT MOST 1048576: true; the input reads as it did. -/
def worldNoneUptoRow : OpenClaim := { program := "ytbllpnjappddeaagreat", sum := "496f94f36da30c217f6257ab40b088be9e33014d6935485eeec8a4033fe865fb", func := "comitia/comitialaw20.WorldNone", spec := "worldNone", inPlace := ["slices.overlaps[[]byte]"], unfollowed := true, recurses := true, apart := false, narrowed := true }
def WorldNoneUptoSaid : Prop := worldNoneUptoRow.holds Tryz.pinned (OpenSpec.upto worldNoneSpec)

/-- 'comitialaw21.ScriptLong', WHERE WHAT IT READS IS OF BULK AT MOST 1048576: true; the input reads as it did. -/
def scriptLongUptoRow : OpenClaim := { program := "ytbllpnjappddeaagreat", sum := "496f94f36da30c217f6257ab40b088be9e33014d6935485eeec8a4033fe865fb", func := "comitia/comitialaw21.ScriptLong", spec := "scriptLong", inPlace := ["slices.overlaps[[]byte]"], unfollowed := true, recurses := true, apart := false, narrowed := true }
def ScriptLongUptoSaid : Prop := scriptLongUptoRow.holds Tryz.pinned (OpenSpec.upto scriptLongSpec)

end Rows
end Go.Proofs.YtbllpnjappddeaaGreat
