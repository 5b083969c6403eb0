/- The words of a piece: package sha's spread, run with cuts, unknown bytes. -/
import Derived.Test.YtjinjfblilacaaaGreatKRfC
import Derived.Test.YtjinjfblilacaaaGreatProg
set_option linter.unusedVariables false
set_option linter.unusedSimpArgs false
set_option linter.unusedSimpArgs false
set_option maxRecDepth 1000000
namespace Go.Proofs.YtjinjfblilacaaaGreat.Den
open Go.RowKit
/-! ### as expressions -/
def b32 (op : BinOp) (a b : IE) : IE := .bin op .u32 a b
def rotE (x : IE) (r : Nat) : IE := b32 .or (b32 .shl x (.lit (.ofNat (32 - r)))) (b32 .shr x (.lit (.ofNat r)))
def spB (i : Nat) : IE := b32 .or (b32 .or (b32 .or (b32 .shl (.byte (4 * i)) (.lit 24)) (b32 .shl (.byte (4 * i + 1)) (.lit 16))) (b32 .shl (.byte (4 * i + 2)) (.lit 8))) (.byte (4 * i + 3))
def spW (i : Nat) : IE := b32 .add (b32 .add (b32 .add (.var (i - 16)) (b32 .xor (b32 .xor (rotE (.var (i - 15)) 7) (rotE (.var (i - 15)) 18)) (b32 .shr (.var (i - 15)) (.lit 3)))) (.var (i - 7)))
  (b32 .xor (b32 .xor (rotE (.var (i - 2)) 17) (rotE (.var (i - 2)) 19)) (b32 .shr (.var (i - 2)) (.lit 10)))
def varsTo (n : Nat) : List IE := (List.range n).map .var
def spX : List (List IE) := [[]] ++ (List.range 16).map (fun i => varsTo i ++ [spB i]) ++ [varsTo 16] ++ (List.range 48).map fun j => varsTo (16 + j) ++ [spW (16 + j)]
def pieceS : List SV := (List.range 64).map fun i => .int .u8 (.byte i)
def wordsS (n : Nat) : List SV := (varsTo n).map (.int .u32)
noncomputable def callN : SCall := gscall [] Tryz.prog 100000 (fun _ => none) 10
def spChk (l : List SV) (Θ : List (List IE)) : Bool := SV.beqs l [.agg (wordsS 64)] && Θ.all okTh && okTrack 0 Θ spX
theorem callN_ok (ρ : Vals) : SCallOK Tryz.prog ρ callN := by
  unfold callN
  rw [gscall_eq]
  exact scall_ok FOk.nil (fun f g hg => by cases hg) 10
set_option maxHeartbeats 4000000 in
theorem sp_run : ychk Tryz.prog callN callN 100000 409 [.im true 64 pieceS] spChk = true := by decide +kernel
end Go.Proofs.YtjinjfblilacaaaGreat.Den
