/- A law that a run of the executor answered; a text of so many bytes that are not known. -/
import Derived.Test.YtbllpnjappddeaaGreatKDpD
import Derived.Test.YtbllpnjappddeaaGreatKOvL
import Derived.Test.YtbllpnjappddeaaGreatKSymPt
import Derived.Test.YtbllpnjappddeaaGreatKWkT
import Derived.Lib.Hide
import Derived.Test.YtbllpnjappddeaaGreatRows
import Derived.Below
import Derived.ProofKit
set_option linter.unusedVariables false
set_option linter.unusedSimpArgs false
section
set_option linter.unusedSimpArgs false
set_option linter.unusedVariables false
namespace Go.Proofs.YtbllpnjappddeaaGreat.Den
open Go.RowKit
variable {P : Program} {ρ : Vals}
/-- The executor with table W. -/
noncomputable def callQ : SCall := qcall [] ovrW
theorem callQ_ok (ρ : Vals) : SCallOK Tryz.prog ρ callQ := qcall_ok FOk.nil (ovrW_ok ρ)
end Go.Proofs.YtbllpnjappddeaaGreat.Den
end
section
set_option linter.unusedSimpArgs false
set_option linter.unusedVariables false
namespace Go.Proofs.YtbllpnjappddeaaGreat.Den
open Go.RowKit
variable {P : Program} {ρ : Vals} {ν : Nat -> Option Name}
/-- Known, and fit to be moved. -/
def PZ.Fit (P : Program) (ρ : Vals) (p : PZ) : Prop := p.Good P ρ /\ smallZ p.rows = true
end Go.Proofs.YtbllpnjappddeaaGreat.Den
end
section
set_option linter.unusedSimpArgs false
set_option linter.unusedVariables false
set_option maxRecDepth 100000
namespace Go.Proofs.YtbllpnjappddeaaGreat.Den
open Go.RowKit
variable {P : Program} {ρ : Vals} {ν : Nat -> Option Name}
end Go.Proofs.YtbllpnjappddeaaGreat.Den
end
section
set_option linter.unusedSimpArgs false
set_option linter.unusedVariables false
namespace Go.Proofs.YtbllpnjappddeaaGreat.Den
open Go.RowKit
variable {P : Program}
def trueS : Spec := fun args nm H =>
 match args with
 | [] => some (vb true, H)
 | _ => none
end Go.Proofs.YtbllpnjappddeaaGreat.Den
end
section
set_option linter.unusedSimpArgs false
set_option linter.unusedVariables false
set_option maxRecDepth 1000000
namespace Go.Proofs.YtbllpnjappddeaaGreat
open Go.RowKit
namespace Den
variable {ρ : Vals}
end Den
end Go.Proofs.YtbllpnjappddeaaGreat
end
section
namespace Go.Proofs.YtbllpnjappddeaaGreat
open Go.ChangeShapes Go.WideShapes Go.ChangeAt Go.RowKit
/-- A law without variables: it answered true, the arguments read as they did, and only new memory was written. -/
theorem law_post {H : Type} {enc : TypeId × Value -> H} {P : Program} {f : Func} {s : ChangeSpec} {tb : TypeId} {W W' : World} {args : Array Value} {ds : List (DataW H)} {ps : List MemPlace}
  (hb : Below W.heap.size W W') (hres : f.resultTypes = #[tb]) (htb : P.underlying tb = some .bool)
  (hW : DataW.Whole enc P f.params.toList s.vars false W args.toList ds [] ps)
  (hs : s.fn H ds = { results := [.lit (.bool true)], args := ds })
  (hargs : ∀ sp : Nat -> Bool, (∀ p ∈ ps, sp p.block = true) -> DataW.TrodAll enc P W' 0 sp true f.params.toList args.toList ds ps)
  (hv : s.vars = []) :
  s.post enc P f false true false false W args (.bool true) W' := by
 have below : ∀ p ∈ ps, p.block < W.heap.size := fun p hp => hW.lt p hp
 have hvars : ∀ sp : Nat -> Bool, DataW.TrodVars enc P W' sp s.vars [] [] := fun sp => by rw [hv]; rfl
 have hsame : s.fn H (ds ++ []) = { results := [.lit (.bool true)], args := ds } := by rw [List.append_nil]; exact hs
 refine ⟨ds, [], ps, [], ps, [], hW, ?_, ?_, ?_, ?_, ?_⟩
 ·rw [hsame, hres]
  exact trodAll_mk1 (shut_bool htb true)
 ·rw [hsame]
  exact hargs _ fun p hp => by simpa using below p hp
 ·rw [hsame]
  exact hvars _
 ·exact World.keptBut_mono (fun p hp => ⟨hp, by simp [hp]⟩) (hb.frame (· ∈ ps))
 ·intro h
  cases h
end Go.Proofs.YtbllpnjappddeaaGreat
end

