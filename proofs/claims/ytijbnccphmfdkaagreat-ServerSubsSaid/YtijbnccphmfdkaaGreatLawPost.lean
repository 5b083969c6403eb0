/- What a row of a law asks behind a call that answered true and left all old memory alone. -/
import Derived.Test.YtijbnccphmfdkaaGreatRows
import Derived.Below
import Derived.ProofKit
namespace Go.Proofs.YtijbnccphmfdkaaGreat
open Go.ChangeShapes Go.WideShapes Go.ChangeAt Go.RowKit

/-- A law without variables: it answered true, the arguments read as they did, and only new memory was written. -/
theorem law_post {H : Type} {enc : TypeId × Value → H} {P : Program} {f : Func} {s : ChangeSpec} {tb : TypeId} {W W' : World} {args : Array Value} {ds : List (DataW H)} {ps : List MemPlace}
    (hb : Below W.heap.size W W') (hres : f.resultTypes = #[tb]) (htb : P.underlying tb = some .bool)
    (hW : DataW.Whole enc P f.params.toList s.vars false W args.toList ds [] ps)
    (hs : s.fn H ds = { results := [.lit (.bool true)], args := ds })
    (hargs : ∀ sp : Nat → Bool, (∀ p ∈ ps, sp p.block = true) → DataW.TrodAll enc P W' 0 sp true f.params.toList args.toList ds ps)
    (hv : s.vars = []) :
    s.post enc P f false true false false W args (.bool true) W' := by
  have below : ∀ p ∈ ps, p.block < W.heap.size := fun p hp => hW.lt p hp
  have hvars : ∀ sp : Nat → Bool, DataW.TrodVars enc P W' sp s.vars [] [] := fun sp => by rw [hv]; rfl
  have hsame : s.fn H (ds ++ []) = { results := [.lit (.bool true)], args := ds } := by rw [List.append_nil]; exact hs
  refine ⟨ds, [], ps, [], ps, [], hW, ?_, ?_, ?_, ?_, ?_⟩
  · rw [hsame, hres]
    exact trodAll_mk1 (shut_bool htb true)
  · rw [hsame]
    exact hargs _ fun p hp => by simpa using below p hp
  · rw [hsame]
    exact hvars _
  · exact World.keptBut_mono (fun p hp => ⟨hp, by simp [hp]⟩) (hb.frame (· ∈ ps))
  · intro h
    cases h

end Go.Proofs.YtijbnccphmfdkaaGreat
