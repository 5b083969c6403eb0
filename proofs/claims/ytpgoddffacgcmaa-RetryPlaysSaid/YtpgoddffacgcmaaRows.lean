/-
  No cell of these rows narrows 'for every input' (looked for: loops, veiled, ifaces, maps, wideKeys, modest, calm, conditions, laid).
  DERIVED. THE GIVEN ROWS OF THIS SEAT. 3 by the template 'for every input the law returns true; each argument reads behind the call as it read before'; 0 by the template 'total and deterministic' (their statements: YtpgoddffacgcmaaTotals.lean).
  GIVEN WITH THE SEED: the statements are not yours to turn. If you find one false, say at which input.
  Laid BY PROGRAM, IN A SANDBOX (cutbox-rows.mjs): the forced cells as the released guide's own fill.sh prints them over the translation 128e0d6ebe77a4fa… (all of the seat's roots in one cut). By AI agents, Wed Nov 11 2026. No macro, syntax, notation, axiom, sorry.
-/
import Derived.Test.YtpgoddffacgcmaaChecked
import GoSem.Claim
import GoSem.ClaimJoined
import GoSem.ClaimMapViews
import Derived.JoinedTies
import Derived.KernelRfl
namespace Go.Proofs.Ytpgoddffacgcmaa
/- THE CELL 'sum', in the pinned program and in every row, IS THE sha256 OF THE DUMP (.gsa) THAT YtpgoddffacgcmaaProg.lean LOADS. Nothing in Lean hashes anything: it is a label: what it is worth is what the hold of that sum in a sandbox is worth. -/
noncomputable def Try.pinned : Pinned := { name := "ytpgoddffacgcmaa", sum := "128e0d6ebe77a4fa4d494b8e2a1eb442870c42b93c139c0107e0acc613638da4", checked := Try.checked }
namespace Rows
def none {H : Type} : Left H := { results := [], args := [] }

/-- 'comitialaw17.RetryPlays': WHATEVER THE INPUT: true; the input reads as it did. -/
def retryPlaysSpec : ChangeSpec := { name := "retryPlays", fn := fun _ => fun
  | [d1, d2] => { results := [.lit (.bool true)], args := [d1, d2] }
  | _ => none }
def retryPlaysRow : OpenClaim := { program := "ytpgoddffacgcmaa", sum := "128e0d6ebe77a4fa4d494b8e2a1eb442870c42b93c139c0107e0acc613638da4", func := "comitia/comitialaw17.RetryPlays", spec := "retryPlays", apart := false }
def RetryPlaysSaid : Prop := retryPlaysRow.holds Try.pinned (OpenSpec.ofChange retryPlaysSpec)

/-- ITS FALSE NEIGHBOUR: 'it returns false'. Refute it at one input. -/
def retryPlaysWrong : ChangeSpec := { name := "retryPlays", fn := fun _ => fun
  | [d1, d2] => { results := [.lit (.bool false)], args := [d1, d2] }
  | _ => none }
def RetryPlaysWrongFalsely : Prop := retryPlaysRow.holds Try.pinned (OpenSpec.ofChange retryPlaysWrong)

/-- 'comitialaw17.RetryWithin': WHATEVER THE INPUT: true; the input reads as it did. -/
def retryWithinSpec : ChangeSpec := { name := "retryWithin", fn := fun _ => fun
  | [d1, d2] => { results := [.lit (.bool true)], args := [d1, d2] }
  | _ => none }
def retryWithinRow : OpenClaim := { program := "ytpgoddffacgcmaa", sum := "128e0d6ebe77a4fa4d494b8e2a1eb442870c42b93c139c0107e0acc613638da4", func := "comitia/comitialaw17.RetryWithin", spec := "retryWithin", apart := false }
def RetryWithinSaid : Prop := retryWithinRow.holds Try.pinned (OpenSpec.ofChange retryWithinSpec)

/-- ITS FALSE NEIGHBOUR: 'it returns false'. Refute it at one input. -/
def retryWithinWrong : ChangeSpec := { name := "retryWithin", fn := fun _ => fun
  | [d1, d2] => { results := [.lit (.bool false)], args := [d1, d2] }
  | _ => none }
def RetryWithinWrongFalsely : Prop := retryWithinRow.holds Try.pinned (OpenSpec.ofChange retryWithinWrong)

/-- 'comitialaw17.RetryDoubles': WHATEVER THE INPUT: true; the input reads as it did. -/
def retryDoublesSpec : ChangeSpec := { name := "retryDoubles", fn := fun _ => fun
  | [d1, d2] => { results := [.lit (.bool true)], args := [d1, d2] }
  | _ => none }
def retryDoublesRow : OpenClaim := { program := "ytpgoddffacgcmaa", sum := "128e0d6ebe77a4fa4d494b8e2a1eb442870c42b93c139c0107e0acc613638da4", func := "comitia/comitialaw17.RetryDoubles", spec := "retryDoubles", apart := false }
def RetryDoublesSaid : Prop := retryDoublesRow.holds Try.pinned (OpenSpec.ofChange retryDoublesSpec)

/-- ITS FALSE NEIGHBOUR: 'it returns false'. Refute it at one input. -/
def retryDoublesWrong : ChangeSpec := { name := "retryDoubles", fn := fun _ => fun
  | [d1, d2] => { results := [.lit (.bool false)], args := [d1, d2] }
  | _ => none }
def RetryDoublesWrongFalsely : Prop := retryDoublesRow.holds Try.pinned (OpenSpec.ofChange retryDoublesWrong)

/- THE SECOND FORM. 'bulk': how many values and letters a reading holds, each counted each time it is reached (what is shared counts as often as it is met; a slice's spare places count too). A statement '..UptoSaid' is the law's where the arguments, and the package variables that the reading takes, are together of bulk at most 1048576: NARROWER than '..Said'. Prove '..Said' where nothing that the law and all that it calls make is longer than what came in: it says more and counts as full. Else prove '..UptoSaid'. A law counts once. -/
mutual
def uptoBulk {H : Type} : DataW H → Nat
  | .lit (.string bytes) => bytes.length + 1
  | .lit _ => 1
  | .nil => 1
  | .ptr d => uptoBulk d + 1
  | .slice elems spare => uptoBulkAll elems + uptoBulkAll spare + 1
  | .agg parts => uptoBulkAll parts + 1
  | .iface _ d => uptoBulk d + 1
  | .map entries => uptoBulkEntries entries + 1
  | .held _ => 1
def uptoBulkAll {H : Type} : List (DataW H) → Nat
  | [] => 0
  | d :: r => uptoBulk d + uptoBulkAll r
def uptoBulkEntries {H : Type} : List (Lit × DataW H) → Nat
  | [] => 0
  | x :: r => uptoBulkEntry x + uptoBulkEntries r
def uptoBulkEntry {H : Type} : Lit × DataW H → Nat
  | (.string bytes, d) => bytes.length + uptoBulk d + 1
  | (_, d) => uptoBulk d + 1
 end
def uptoSmall : (H : Type) → List (DataW H) → Bool := fun _ ds => decide (uptoBulkAll ds ≤ 1048576)
def OpenSpec.upto (s : _root_.Go.ChangeSpec) : _root_.Go.OpenSpec := { _root_.Go.OpenSpec.ofChange s with cond := some uptoSmall }

/-- 'comitialaw17.RetryPlays', WHERE WHAT IT READS IS OF BULK AT MOST 1048576: true; the input reads as it did. -/
def retryPlaysUptoRow : OpenClaim := { program := "ytpgoddffacgcmaa", sum := "128e0d6ebe77a4fa4d494b8e2a1eb442870c42b93c139c0107e0acc613638da4", func := "comitia/comitialaw17.RetryPlays", spec := "retryPlays", apart := false, narrowed := true }
def RetryPlaysUptoSaid : Prop := retryPlaysUptoRow.holds Try.pinned (OpenSpec.upto retryPlaysSpec)

/-- 'comitialaw17.RetryWithin', WHERE WHAT IT READS IS OF BULK AT MOST 1048576: true; the input reads as it did. -/
def retryWithinUptoRow : OpenClaim := { program := "ytpgoddffacgcmaa", sum := "128e0d6ebe77a4fa4d494b8e2a1eb442870c42b93c139c0107e0acc613638da4", func := "comitia/comitialaw17.RetryWithin", spec := "retryWithin", apart := false, narrowed := true }
def RetryWithinUptoSaid : Prop := retryWithinUptoRow.holds Try.pinned (OpenSpec.upto retryWithinSpec)

/-- 'comitialaw17.RetryDoubles', WHERE WHAT IT READS IS OF BULK AT MOST 1048576: true; the input reads as it did. -/
def retryDoublesUptoRow : OpenClaim := { program := "ytpgoddffacgcmaa", sum := "128e0d6ebe77a4fa4d494b8e2a1eb442870c42b93c139c0107e0acc613638da4", func := "comitia/comitialaw17.RetryDoubles", spec := "retryDoubles", apart := false, narrowed := true }
def RetryDoublesUptoSaid : Prop := retryDoublesUptoRow.holds Try.pinned (OpenSpec.upto retryDoublesSpec)

end Rows
end Go.Proofs.Ytpgoddffacgcmaa
