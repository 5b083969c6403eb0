/-
  No cell of these rows narrows 'for every input' (looked for: loops, veiled, ifaces, maps, wideKeys, modest, calm, conditions, laid).
  DERIVED. THE GIVEN ROWS OF THIS SEAT. 7 by the template 'for every input the law returns true; each argument reads behind the call as it read before'; 0 by the template 'total and deterministic' (their statements: YtijbnccphmfdkaaGreatTotals.lean).
  GIVEN WITH THE SEED: the statements are not yours to turn. If you find one false, say at which input.
  Laid BY PROGRAM, IN A SANDBOX (cutbox-rows.mjs): the forced cells as the released guide's own fill.sh prints them over the translation d4526818f064eb44… (all of the seat's roots in one cut). By AI agents, Wed Nov 11 2026. No macro, syntax, notation, axiom, sorry.
-/
import Derived.Test.YtijbnccphmfdkaaGreatChecked
import GoSem.Claim
import GoSem.ClaimJoined
import GoSem.ClaimMapViews
import Derived.JoinedTies
import Derived.KernelRfl
namespace Go.Proofs.YtijbnccphmfdkaaGreat
/- THE CELL 'sum', in the pinned program and in every row, IS THE sha256 OF THE DUMP (.gsa) THAT YtijbnccphmfdkaaGreatProg.lean LOADS. Nothing in Lean hashes anything: it is a label: what it is worth is what the hold of that sum in a sandbox is worth. -/
noncomputable def Tryz.pinned : Pinned := { name := "ytijbnccphmfdkaagreat", sum := "d4526818f064eb44094cc74e5ad1d51ded72dd5f5d50ccfc0dd0e1207f75e6f7", checked := Tryz.checked }
namespace Rows
def none {H : Type} : Left H := { results := [], args := [] }

/-- 'comitialaw19.ServerCreates': WHATEVER THE INPUT: true; the input reads as it did. -/
def serverCreatesSpec : ChangeSpec := { name := "serverCreates", fn := fun _ => fun
  | [d1, d2, d3] => { results := [.lit (.bool true)], args := [d1, d2, d3] }
  | _ => none }
def serverCreatesRow : OpenClaim := { program := "ytijbnccphmfdkaagreat", sum := "d4526818f064eb44094cc74e5ad1d51ded72dd5f5d50ccfc0dd0e1207f75e6f7", func := "comitia/comitialaw19.ServerCreates", spec := "serverCreates", inPlace := ["slices.overlaps[[]byte]"], unfollowed := true, recurses := true, apart := false }
def ServerCreatesSaid : Prop := serverCreatesRow.holds Tryz.pinned (OpenSpec.ofChange serverCreatesSpec)

/-- ITS FALSE NEIGHBOUR: 'it returns false'. Refute it at one input. -/
def serverCreatesWrong : ChangeSpec := { name := "serverCreates", fn := fun _ => fun
  | [d1, d2, d3] => { results := [.lit (.bool false)], args := [d1, d2, d3] }
  | _ => none }
def ServerCreatesWrongFalsely : Prop := serverCreatesRow.holds Tryz.pinned (OpenSpec.ofChange serverCreatesWrong)

/-- 'comitialaw19.ServerSubs': WHATEVER THE INPUT: true; the input reads as it did. -/
def serverSubsSpec : ChangeSpec := { name := "serverSubs", fn := fun _ => fun
  | [d] => { results := [.lit (.bool true)], args := [d] }
  | _ => none }
def serverSubsRow : OpenClaim := { program := "ytijbnccphmfdkaagreat", sum := "d4526818f064eb44094cc74e5ad1d51ded72dd5f5d50ccfc0dd0e1207f75e6f7", func := "comitia/comitialaw19.ServerSubs", spec := "serverSubs", inPlace := ["slices.overlaps[[]byte]"], unfollowed := true, recurses := true, apart := false }
def ServerSubsSaid : Prop := serverSubsRow.holds Tryz.pinned (OpenSpec.ofChange serverSubsSpec)

/-- ITS FALSE NEIGHBOUR: 'it returns false'. Refute it at one input. -/
def serverSubsWrong : ChangeSpec := { name := "serverSubs", fn := fun _ => fun
  | [d] => { results := [.lit (.bool false)], args := [d] }
  | _ => none }
def ServerSubsWrongFalsely : Prop := serverSubsRow.holds Tryz.pinned (OpenSpec.ofChange serverSubsWrong)

/-- 'comitialaw19.ServerNobody': WHATEVER THE INPUT: true; the input reads as it did. -/
def serverNobodySpec : ChangeSpec := { name := "serverNobody", fn := fun _ => fun
  | [d1, d2] => { results := [.lit (.bool true)], args := [d1, d2] }
  | _ => none }
def serverNobodyRow : OpenClaim := { program := "ytijbnccphmfdkaagreat", sum := "d4526818f064eb44094cc74e5ad1d51ded72dd5f5d50ccfc0dd0e1207f75e6f7", func := "comitia/comitialaw19.ServerNobody", spec := "serverNobody", inPlace := ["slices.overlaps[[]byte]"], unfollowed := true, recurses := true, apart := false }
def ServerNobodySaid : Prop := serverNobodyRow.holds Tryz.pinned (OpenSpec.ofChange serverNobodySpec)

/-- ITS FALSE NEIGHBOUR: 'it returns false'. Refute it at one input. -/
def serverNobodyWrong : ChangeSpec := { name := "serverNobody", fn := fun _ => fun
  | [d1, d2] => { results := [.lit (.bool false)], args := [d1, d2] }
  | _ => none }
def ServerNobodyWrongFalsely : Prop := serverNobodyRow.holds Tryz.pinned (OpenSpec.ofChange serverNobodyWrong)

/-- 'comitialaw19.ServerRemoved': WHATEVER THE INPUT: true; the input reads as it did. -/
def serverRemovedSpec : ChangeSpec := { name := "serverRemoved", fn := fun _ => fun
  | [d] => { results := [.lit (.bool true)], args := [d] }
  | _ => none }
def serverRemovedRow : OpenClaim := { program := "ytijbnccphmfdkaagreat", sum := "d4526818f064eb44094cc74e5ad1d51ded72dd5f5d50ccfc0dd0e1207f75e6f7", func := "comitia/comitialaw19.ServerRemoved", spec := "serverRemoved", inPlace := ["slices.overlaps[[]byte]"], unfollowed := true, recurses := true, apart := false }
def ServerRemovedSaid : Prop := serverRemovedRow.holds Tryz.pinned (OpenSpec.ofChange serverRemovedSpec)

/-- ITS FALSE NEIGHBOUR: 'it returns false'. Refute it at one input. -/
def serverRemovedWrong : ChangeSpec := { name := "serverRemoved", fn := fun _ => fun
  | [d] => { results := [.lit (.bool false)], args := [d] }
  | _ => none }
def ServerRemovedWrongFalsely : Prop := serverRemovedRow.holds Tryz.pinned (OpenSpec.ofChange serverRemovedWrong)

/-- 'comitialaw19.ServerTells': WHATEVER THE INPUT: true; the input reads as it did. -/
def serverTellsSpec : ChangeSpec := { name := "serverTells", fn := fun _ => fun
  | [d1, d2] => { results := [.lit (.bool true)], args := [d1, d2] }
  | _ => none }
def serverTellsRow : OpenClaim := { program := "ytijbnccphmfdkaagreat", sum := "d4526818f064eb44094cc74e5ad1d51ded72dd5f5d50ccfc0dd0e1207f75e6f7", func := "comitia/comitialaw19.ServerTells", spec := "serverTells", inPlace := ["slices.overlaps[[]byte]"], unfollowed := true, recurses := true, apart := false }
def ServerTellsSaid : Prop := serverTellsRow.holds Tryz.pinned (OpenSpec.ofChange serverTellsSpec)

/-- ITS FALSE NEIGHBOUR: 'it returns false'. Refute it at one input. -/
def serverTellsWrong : ChangeSpec := { name := "serverTells", fn := fun _ => fun
  | [d1, d2] => { results := [.lit (.bool false)], args := [d1, d2] }
  | _ => none }
def ServerTellsWrongFalsely : Prop := serverTellsRow.holds Tryz.pinned (OpenSpec.ofChange serverTellsWrong)

/-- 'comitialaw19.ServerUnsafe': WHATEVER THE INPUT: true; the input reads as it did. -/
def serverUnsafeSpec : ChangeSpec := { name := "serverUnsafe", fn := fun _ => fun
  | [d1, d2] => { results := [.lit (.bool true)], args := [d1, d2] }
  | _ => none }
def serverUnsafeRow : OpenClaim := { program := "ytijbnccphmfdkaagreat", sum := "d4526818f064eb44094cc74e5ad1d51ded72dd5f5d50ccfc0dd0e1207f75e6f7", func := "comitia/comitialaw19.ServerUnsafe", spec := "serverUnsafe", inPlace := ["slices.overlaps[[]byte]"], unfollowed := true, recurses := true, apart := false }
def ServerUnsafeSaid : Prop := serverUnsafeRow.holds Tryz.pinned (OpenSpec.ofChange serverUnsafeSpec)

/-- ITS FALSE NEIGHBOUR: 'it returns false'. Refute it at one input. -/
def serverUnsafeWrong : ChangeSpec := { name := "serverUnsafe", fn := fun _ => fun
  | [d1, d2] => { results := [.lit (.bool false)], args := [d1, d2] }
  | _ => none }
def ServerUnsafeWrongFalsely : Prop := serverUnsafeRow.holds Tryz.pinned (OpenSpec.ofChange serverUnsafeWrong)

/-- 'comitialaw19.ServerForgets': WHATEVER THE INPUT: true; the input reads as it did. -/
def serverForgetsSpec : ChangeSpec := { name := "serverForgets", fn := fun _ => fun
  | [d1, d2] => { results := [.lit (.bool true)], args := [d1, d2] }
  | _ => none }
def serverForgetsRow : OpenClaim := { program := "ytijbnccphmfdkaagreat", sum := "d4526818f064eb44094cc74e5ad1d51ded72dd5f5d50ccfc0dd0e1207f75e6f7", func := "comitia/comitialaw19.ServerForgets", spec := "serverForgets", inPlace := ["slices.overlaps[[]byte]"], unfollowed := true, recurses := true, apart := false }
def ServerForgetsSaid : Prop := serverForgetsRow.holds Tryz.pinned (OpenSpec.ofChange serverForgetsSpec)

/-- ITS FALSE NEIGHBOUR: 'it returns false'. Refute it at one input. -/
def serverForgetsWrong : ChangeSpec := { name := "serverForgets", fn := fun _ => fun
  | [d1, d2] => { results := [.lit (.bool false)], args := [d1, d2] }
  | _ => none }
def ServerForgetsWrongFalsely : Prop := serverForgetsRow.holds Tryz.pinned (OpenSpec.ofChange serverForgetsWrong)

/- THE SECOND FORM. 'bulk': how many values and letters a reading holds, each counted each time it is reached (what is shared counts as often as it is met; a slice's spare places count too). A statement '..UptoSaid' is the law's where the arguments, and the package variables that the reading takes, are together of bulk at most 1048576: NARROWER than '..Said'. Prove '..Said' where nothing that the law and all that it calls make is longer than what came in: it says more and counts as full. Else prove '..UptoSaid'. A law counts once. -/
mutual
def uptoBulk {H : Type} : DataW H → Nat
  | .lit (.string bytes) => bytes.length + 1
  | .lit _ => 1
  | .nil => 1
  | .ptr d => uptoBulk d + 1
  | .slice elems spare => uptoBulkAll elems + uptoBulkAll spare + 1
  | .agg parts => uptoBulkAll parts + 1
  | .iface _ d => uptoBulk d + 1
  | .map entries => uptoBulkEntries entries + 1
  | .held _ => 1
def uptoBulkAll {H : Type} : List (DataW H) → Nat
  | [] => 0
  | d :: r => uptoBulk d + uptoBulkAll r
def uptoBulkEntries {H : Type} : List (Lit × DataW H) → Nat
  | [] => 0
  | x :: r => uptoBulkEntry x + uptoBulkEntries r
def uptoBulkEntry {H : Type} : Lit × DataW H → Nat
  | (.string bytes, d) => bytes.length + uptoBulk d + 1
  | (_, d) => uptoBulk d + 1
 end
def uptoSmall : (H : Type) → List (DataW H) → Bool := fun _ ds => decide (uptoBulkAll ds ≤ 1048576)
def OpenSpec.upto (s : _root_.Go.ChangeSpec) : _root_.Go.OpenSpec := { _root_.Go.OpenSpec.ofChange s with cond := some uptoSmall }

/-- 'comitialaw19.ServerCreates', WHERE WHAT IT READS IS OF BULK AT MOST 1048576: true; the input reads as it did. -/
def serverCreatesUptoRow : OpenClaim := { program := "ytijbnccphmfdkaagreat", sum := "d4526818f064eb44094cc74e5ad1d51ded72dd5f5d50ccfc0dd0e1207f75e6f7", func := "comitia/comitialaw19.ServerCreates", spec := "serverCreates", inPlace := ["slices.overlaps[[]byte]"], unfollowed := true, recurses := true, apart := false, narrowed := true }
def ServerCreatesUptoSaid : Prop := serverCreatesUptoRow.holds Tryz.pinned (OpenSpec.upto serverCreatesSpec)

/-- 'comitialaw19.ServerSubs', WHERE WHAT IT READS IS OF BULK AT MOST 1048576: true; the input reads as it did. -/
def serverSubsUptoRow : OpenClaim := { program := "ytijbnccphmfdkaagreat", sum := "d4526818f064eb44094cc74e5ad1d51ded72dd5f5d50ccfc0dd0e1207f75e6f7", func := "comitia/comitialaw19.ServerSubs", spec := "serverSubs", inPlace := ["slices.overlaps[[]byte]"], unfollowed := true, recurses := true, apart := false, narrowed := true }
def ServerSubsUptoSaid : Prop := serverSubsUptoRow.holds Tryz.pinned (OpenSpec.upto serverSubsSpec)

/-- 'comitialaw19.ServerNobody', WHERE WHAT IT READS IS OF BULK AT MOST 1048576: true; the input reads as it did. -/
def serverNobodyUptoRow : OpenClaim := { program := "ytijbnccphmfdkaagreat", sum := "d4526818f064eb44094cc74e5ad1d51ded72dd5f5d50ccfc0dd0e1207f75e6f7", func := "comitia/comitialaw19.ServerNobody", spec := "serverNobody", inPlace := ["slices.overlaps[[]byte]"], unfollowed := true, recurses := true, apart := false, narrowed := true }
def ServerNobodyUptoSaid : Prop := serverNobodyUptoRow.holds Tryz.pinned (OpenSpec.upto serverNobodySpec)

/-- 'comitialaw19.ServerRemoved', WHERE WHAT IT READS IS OF BULK AT MOST 1048576: true; the input reads as it did. -/
def serverRemovedUptoRow : OpenClaim := { program := "ytijbnccphmfdkaagreat", sum := "d4526818f064eb44094cc74e5ad1d51ded72dd5f5d50ccfc0dd0e1207f75e6f7", func := "comitia/comitialaw19.ServerRemoved", spec := "serverRemoved", inPlace := ["slices.overlaps[[]byte]"], unfollowed := true, recurses := true, apart := false, narrowed := true }
def ServerRemovedUptoSaid : Prop := serverRemovedUptoRow.holds Tryz.pinned (OpenSpec.upto serverRemovedSpec)

/-- 'comitialaw19.ServerTells', WHERE WHAT IT READS IS OF BULK AT MOST 1048576: true; the input reads as it did. -/
def serverTellsUptoRow : OpenClaim := { program := "ytijbnccphmfdkaagreat", sum := "d4526818f064eb44094cc74e5ad1d51ded72dd5f5d50ccfc0dd0e1207f75e6f7", func := "comitia/comitialaw19.ServerTells", spec := "serverTells", inPlace := ["slices.overlaps[[]byte]"], unfollowed := true, recurses := true, apart := false, narrowed := true }
def ServerTellsUptoSaid : Prop := serverTellsUptoRow.holds Tryz.pinned (OpenSpec.upto serverTellsSpec)

/-- 'comitialaw19.ServerUnsafe', WHERE WHAT IT READS IS OF BULK AT MOST 1048576: true; the input reads as it did. -/
def serverUnsafeUptoRow : OpenClaim := { program := "ytijbnccphmfdkaagreat", sum := "d4526818f064eb44094cc74e5ad1d51ded72dd5f5d50ccfc0dd0e1207f75e6f7", func := "comitia/comitialaw19.ServerUnsafe", spec := "serverUnsafe", inPlace := ["slices.overlaps[[]byte]"], unfollowed := true, recurses := true, apart := false, narrowed := true }
def ServerUnsafeUptoSaid : Prop := serverUnsafeUptoRow.holds Tryz.pinned (OpenSpec.upto serverUnsafeSpec)

/-- 'comitialaw19.ServerForgets', WHERE WHAT IT READS IS OF BULK AT MOST 1048576: true; the input reads as it did. -/
def serverForgetsUptoRow : OpenClaim := { program := "ytijbnccphmfdkaagreat", sum := "d4526818f064eb44094cc74e5ad1d51ded72dd5f5d50ccfc0dd0e1207f75e6f7", func := "comitia/comitialaw19.ServerForgets", spec := "serverForgets", inPlace := ["slices.overlaps[[]byte]"], unfollowed := true, recurses := true, apart := false, narrowed := true }
def ServerForgetsUptoSaid : Prop := serverForgetsUptoRow.holds Tryz.pinned (OpenSpec.upto serverForgetsSpec)

end Rows
end Go.Proofs.YtijbnccphmfdkaaGreat
